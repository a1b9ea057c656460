/-
  Texts of this seat, put together: rules, walks, plain laws.
  Conditions: none.
-/
import Derived.Test.YthdpagcklakahaaKPa3
section
namespace Go.Proofs.Ythdpagcklakahaa
open Go
set_option linter.unusedVariables false
set_option maxRecDepth 4000
set_option maxHeartbeats 4000000 in
theorem c_settings_Store_move {s_p0 : T_settings_Store} {next : (Option (List (Int × (List Int))))} {s_p0_d : T_Device} {A1 : Option Addr} {c1 : Nat} {A2 : Option Addr} {c2 : Nat} {M1 : Option Nat} {M2 : Option Nat} {gb1 : Nat} {gb2 : Nat} {r : (T_settings_Store × T_Device × Int)} (h : m_settings_Store_move s_p0 next s_p0_d = some r) :
    Fun Try.prog 49 [.pointer (some ⟨gb1, 0, none⟩), .map M2] [.res (Box gb1 73 (bx_T_settings_Store s_p0 gb2 M1)), .res (MapV (kint .u8) (cod eu8) M1 s_p0.all), .res (MapV (kint .u8) (cod eu8) M2 next), .res (Box gb2 80 (bx_T_Device s_p0_d A1 c1 A2 c2)), .res (OwnL eu8 5 A1 c1 s_p0_d.bytes), .res (OwnL ei64 3 A2 c2 s_p0_d.wear)] (fun v_ F_ => ∃ (M3 : Option Nat) (A3 : Option Addr) (c3 : Nat) (A4 : Option Addr) (c4 : Nat), v_ = .int .i64 r.2.2 ∧ F_ = [.res (Box gb1 73 (bx_T_settings_Store r.1 gb2 M3)), .res (MapV (kint .u8) (cod eu8) M3 r.1.all), .res (Box gb2 80 (bx_T_Device r.2.1 A3 c3 A4 c4)), .res (OwnL eu8 5 A3 c3 r.2.1.bytes), .res (OwnL ei64 3 A4 c4 r.2.1.wear)]) := by
 unfold m_settings_Store_move at h
 refine Fun.intro Try.func49 rfl rfl rfl fun w R => ?_;refine .ab [0,1] rfl ?_;refine .seq ?_;refine .a 3 rfl ?_;refine .loadB 3 rfl rfl (.head _) rfl rfl ?_;refine .b [0,1,16] rfl ?_;refine .cond _ rfl (fun hb1 => ?_) (fun hb1 => ?_)
 ·replace h := bif_t hb1 h;refine .ab [4] rfl ?_;cases h;exact .rt rfl Try.results49 (.tmp rfl .nil) rfl ⟨M1, A1, c1, A2, c2, rfl, rfl⟩ (zl [0,0] 1 rfl)
 replace h := bif_f hb1 h;refine .sk ?_;refine .pr [0,1] rfl ?_;refine .seq ?_;refine .regionF mixed (by kernel_rfl) ?_;refine .n 3 rfl ?_;refine .loadB 3 rfl rfl (.head _) rfl rfl ?_;refine .bq [0,1,5,6,7] rfl ?_;refine .seq ?_;obtain ⟨o1, hj1, h⟩ := bnd_e h
 refine .cutE (fun (e1 : Unit) => [(0, .pointer (some ⟨gb1, 0, none⟩)), (1, .map M2), (5, .int .i64 o1), (6, .int .i64 (IntKind.wrap .i64 (s_p0.generation + 1))), (7, .int .i64 5)]) (fun e1 => .res (Box gb1 73 (bx_T_settings_Store s_p0 gb2 M1)) :: .res (MapV (kint .u8) (cod eu8) M1 s_p0.all) :: .res (MapV (kint .u8) (cod eu8) M2 next) :: .res (Box gb2 80 (bx_T_Device s_p0_d A1 c1 A2 c2)) :: .res (OwnL eu8 5 A1 c1 s_p0_d.bytes) :: .res (OwnL ei64 3 A2 c2 s_p0_d.wear) :: R) ?_ ?_
 ·refine .a 3 rfl ?_;refine .loadB 2 rfl rfl (.head _) rfl rfl ?_;refine .b [0,1,5,6,7,26] rfl ?_;refine .cond _ rfl (fun hb2 => ?_) (fun hb2 => ?_)
  ·replace hj1 := bif_t hb2 hj1;refine .region ?_;cases hj1;refine .be rfl ?_;exact .hereE () (zb rfl) (fun _ w => w)
  replace hj1 := bif_f hb2 hj1;cases hj1;refine .sk ?_;exact .hereE () (zb rfl) (fun _ w => w)
 rintro e1;refine .seq ?_
 refine .regionX (iL [(.fl, 0), (.fl, 1), (.fl, 2), (.fl, 3), (.fl, 4), (.fl, 5), (.fl, 6), (.fl, 7), (.fl, 8), (.fx, 9), (.ef, 10), (.fl, 11), (.fl, 12)] .nil) (.res (Box gb1 73 (bx_T_settings_Store s_p0 gb2 M1)) :: .res (MapV (kint .u8) (cod eu8) M1 s_p0.all) :: .res (MapV (kint .u8) (cod eu8) M2 next) :: .res (Box gb2 80 (bx_T_Device s_p0_d A1 c1 A2 c2)) :: .res (OwnL eu8 5 A1 c1 s_p0_d.bytes) :: .res (OwnL ei64 3 A2 c2 s_p0_d.wear) :: R) mixed (by kernel_rfl) (fun _ w => w) ?_
 refine .xn 3 rfl ?_;refine .xfl (fun _ h => h) (Rd.loadB 1 rfl (.head _) rfl rfl) rfl ?_;refine .xn 5 rfl ?_;refine .xfx (Rd.loadB 0 rfl (.head _) rfl rfl) rfl ?_;refine .xef ?_;obtain ⟨b1, hb1, h⟩ := bnd_e h;refine .ss 36 (optA_v hb1) ?_;obtain ⟨r1, hr1, h⟩ := bnd_e h;refine .call (c_flash_Device_Size hr1) ent41 rfl rfl rfl (zl [3,3,3] 0 rfl) ?_;rintro _ _ ⟨rfl, rfl⟩;refine .nm 6 rfl ?_
 refine .xk (zl [3,3,3] 0 rfl) ?_;refine .xn 2 rfl ?_;refine .xdone ?_;refine .thenN ?_;refine .pr [0,1,5,6,7,8] rfl ?_;refine .seq ?_
 refine .regionX (iL [(.fl, 0), (.fl, 1), (.fl, 2), (.fl, 3), (.fl, 4), (.fl, 5), (.fl, 6), (.fl, 7), (.fx, 8), (.ef, 9), (.ef, 10), (.fl, 11), (.fl, 12), (.fl, 13), (.fl, 14), (.fl, 15)] .nil) (.res (Box gb1 73 (bx_T_settings_Store s_p0 gb2 M1)) :: .res (MapV (kint .u8) (cod eu8) M1 s_p0.all) :: .res (MapV (kint .u8) (cod eu8) M2 next) :: R) mixed (by kernel_rfl) (zl [] 3 rfl) ?_
 refine .xn 3 rfl ?_;refine .xfl (fun _ h => h) (Rd.loadB 0 rfl (.head _) rfl rfl) rfl ?_;refine .xn 4 rfl ?_;refine .xfx (Rd.loadB 0 rfl (zm 3 rfl) rfl rfl) rfl ?_;refine .xef ?_;obtain ⟨b2, hb2, h⟩ := bnd_e h;refine .ss 43 (optA_v hb2) ?_;refine .ss 48 (optA_v hb2) ?_;obtain ⟨r2, hr2, h⟩ := bnd_e h;refine .call (c_flash_Device_Size hr2) ent41 rfl rfl rfl (fun _ w => w) ?_;rintro _ _ ⟨rfl, rfl⟩
 refine .nm 6 rfl ?_;refine .xk (zl [] 3 rfl) ?_;refine .xef ?_;obtain ⟨r3, hr3, h⟩ := bnd_e h;refine .call (c_flash_Device_Read hr3) ent37 rfl rfl rfl (fun _ w => w) ?_;rintro _ _ ⟨A3, c3, A4, c4, A5, c5, rfl, rfl⟩;refine .nm 7 rfl ?_;refine .xk (zl [] 4 rfl) ?_;refine .xn 5 rfl ?_;refine .xdone ?_;refine .thenN ?_;refine .pr [0,1,5,6,7,8,9,10] rfl ?_;refine .seq ?_;obtain ⟨o2, hj2, h⟩ := bnd_e h
 refine .cutE (fun (e2 : Option Addr × Nat × Option Addr × Nat) => [(0, .pointer (some ⟨gb1, 0, none⟩)), (1, .map M2), (5, .int .i64 o1), (6, .int .i64 (IntKind.wrap .i64 (s_p0.generation + 1))), (7, .int .i64 5), (8, .int .i64 (IntKind.wrap .i64 ((IntKind.wrap .i64 (s_p0.first + o1)) * r1))), (10, .int .i64 o2.1)]) (fun e2 => .res (OwnL ei64 3 e2.2.2.1 e2.2.2.2 o2.2.wear) :: .res (OwnL eu8 5 e2.1 e2.2.1 o2.2.bytes) :: .res (Box gb2 80 (bx_T_Device o2.2 e2.1 e2.2.1 e2.2.2.1 e2.2.2.2)) :: .res (Box gb1 73 (bx_T_settings_Store s_p0 gb2 M1)) :: .res (MapV (kint .u8) (cod eu8) M1 s_p0.all) :: .res (MapV (kint .u8) (cod eu8) M2 next) :: R) ?_ ?_
 ·refine .seq ?_;obtain ⟨o3, hj3, hj2⟩ := bnd_e hj2
  refine .cutE (fun (e3 : Unit) => [(0, .pointer (some ⟨gb1, 0, none⟩)), (1, .map M2), (5, .int .i64 o1), (6, .int .i64 (IntKind.wrap .i64 (s_p0.generation + 1))), (7, .int .i64 5), (8, .int .i64 (IntKind.wrap .i64 ((IntKind.wrap .i64 (s_p0.first + o1)) * r1))), (10, .int .i64 r3.2.2), (59, .bool o3)]) (fun e3 => .res (Box gb2 80 (bx_T_Device r3.1 A3 c3 A4 c4)) :: .res (OwnL eu8 5 A3 c3 r3.1.bytes) :: .res (OwnL ei64 3 A4 c4 r3.1.wear) :: .res (Box gb1 73 (bx_T_settings_Store s_p0 gb2 M1)) :: .res (MapV (kint .u8) (cod eu8) M1 s_p0.all) :: .res (MapV (kint .u8) (cod eu8) M2 next) :: R) ?_ ?_
  ·refine .region ?_;refine .n 3 rfl ?_;refine .gSplit (dj := 55) _ rfl (fun hb3 => ?_) (fun hb3 => ?_)
   ·replace hj3 := bif_t hb3 hj3;refine .n 1 rfl ?_;refine .gOn (dj := 55) rfl rfl ?_;refine .asrt (fun _ w => (w.sl [3] 0 rfl).meltL) ?_;obtain ⟨r4, hr4, hj3⟩ := bnd_e hj3;refine .callV (c_settings_blank hr4) ent63 rfl rfl rfl rfl (za [0] rfl) ?_;cases hj3;refine .be rfl ?_;exact .hereE () (zb rfl) (zl [] 1 rfl)
   replace hj3 := bif_f hb3 hj3;cases hj3;refine .be rfl ?_;exact .hereE () (zb rfl) (zl [0,0,0] 1 rfl)
  rintro e3;refine .cond _ rfl (fun hb4 => ?_) (fun hb4 => ?_)
  ·replace hj2 := bif_t hb4 hj2;refine .regionX (iL [(.fl, 0), (.fl, 1), (.fl, 2), (.fx, 3), (.fl, 4), (.fl, 5), (.fl, 6), (.fx, 7), (.fl, 8), (.fl, 9), (.ef, 10), (.fl, 11)] .nil) (.res (Box gb1 73 (bx_T_settings_Store s_p0 gb2 M1)) :: .res (MapV (kint .u8) (cod eu8) M1 s_p0.all) :: .res (MapV (kint .u8) (cod eu8) M2 next) :: R) mixed (by kernel_rfl) (zl [] 3 rfl) ?_;refine .xn 3 rfl ?_
   refine .xfx (Rd.loadB 0 rfl (zm 3 rfl) rfl rfl) rfl ?_;refine .xn 3 rfl ?_;refine .xfx (Rd.loadB 1 rfl (zm 3 rfl) rfl rfl) rfl ?_;refine .xn 2 rfl ?_;refine .xef ?_;obtain ⟨b3, hb3, hj2⟩ := bnd_e hj2;refine .ss 63 (optA_v hb3) ?_;obtain ⟨r5, hr5, hj2⟩ := bnd_e hj2;refine .call (c_flash_Device_Erase hr5) ent68 rfl rfl rfl (fun _ w => w) ?_;rintro _ _ ⟨A8, c8, A9, c9, rfl, rfl⟩
   refine .nm 6 rfl ?_;refine .xk (zl [] 3 rfl) ?_;refine .xfl (fun _ h => h) (Rd.p rfl) rfl ?_;refine .xdone ?_;cases hj2;refine .thenN ?_;exact .hereE (A8, c8, A9, c9) (zb rfl) (zl [2,1] 0 rfl)
  replace hj2 := bif_f hb4 hj2;cases hj2;refine .sk ?_;exact .hereE (A3, c3, A4, c4) (zb rfl) (zl [2,1] 0 rfl)
 rintro ⟨A6, c6, A7, c7⟩;refine .seq ?_;obtain ⟨o4, hj4, h⟩ := bnd_e h
 refine .cutE (fun (e4 : Option Addr × Nat × Option Addr × Nat) => [(0, .pointer (some ⟨gb1, 0, none⟩)), (1, .map M2), (5, .int .i64 o1), (6, .int .i64 (IntKind.wrap .i64 (s_p0.generation + 1))), (7, .int .i64 5), (8, .int .i64 (IntKind.wrap .i64 ((IntKind.wrap .i64 (s_p0.first + o1)) * r1))), (10, .int .i64 o4.1)]) (fun e4 => .res (OwnL ei64 3 e4.2.2.1 e4.2.2.2 o4.2.wear) :: .res (OwnL eu8 5 e4.1 e4.2.1 o4.2.bytes) :: .res (Box gb2 80 (bx_T_Device o4.2 e4.1 e4.2.1 e4.2.2.1 e4.2.2.2)) :: .res (Box gb1 73 (bx_T_settings_Store s_p0 gb2 M1)) :: .res (MapV (kint .u8) (cod eu8) M1 s_p0.all) :: .res (MapV (kint .u8) (cod eu8) M2 next) :: R) ?_ ?_
 ·refine .ab [0,1,5,6,7,8,10,72] rfl ?_;refine .cond _ rfl (fun hb5 => ?_) (fun hb5 => ?_)
  ·replace hj4 := bif_t hb5 hj4;refine .region ?_;refine .n 3 rfl ?_;refine .loadB 0 rfl rfl (zm 3 rfl) rfl rfl ?_;refine .n 12 rfl ?_;refine .buildSlice rfl rfl rfl rfl rfl rfl rfl rfl fun g1 => ?_;obtain ⟨b4, hb4, hj4⟩ := bnd_e hj4;refine .ss 76 (optA_v hb4) ?_
   refine .asrt (fun _ w => w.litL (E := eu8) (e := 5) [IntKind.wrap .u8 (IntKind.wrap .i64 (s_p0.generation + 1)), IntKind.wrap .u8 (iShr .i64 (IntKind.wrap .i64 (s_p0.generation + 1)) 8), IntKind.wrap .u8 (iShr .i64 (IntKind.wrap .i64 (s_p0.generation + 1)) 16), IntKind.wrap .u8 (iShr .i64 (IntKind.wrap .i64 (s_p0.generation + 1)) 24)] rfl rfl) ?_;refine .asrt (fun _ w => w.meltL) ?_
   obtain ⟨r6, hr6, hj4⟩ := bnd_e hj4;refine .call (c_flash_Device_Program hr6) ent48 rfl rfl rfl (zd [3] [3,2,1] 0 rfl) ?_;rintro _ _ ⟨A12, c12, A13, c13, rfl, rfl⟩;refine .nm 7 rfl ?_;cases hj4;refine .be rfl ?_;exact .hereE (A12, c12, A13, c13) (zb rfl) (zl [2,1,0] 1 rfl)
  replace hj4 := bif_f hb5 hj4;cases hj4;refine .sk ?_;exact .hereE (A6, c6, A7, c7) (zb rfl) (fun _ w => w)
 rintro ⟨A10, c10, A11, c11⟩;refine .seq ?_;obtain ⟨o5, hj5, h⟩ := bnd_e h
 refine .cutE (fun (e5 : Option Addr × Nat × Option Addr × Nat) => [(0, .pointer (some ⟨gb1, 0, none⟩)), (1, .map M2), (5, .int .i64 o1), (6, .int .i64 (IntKind.wrap .i64 (s_p0.generation + 1))), (7, .int .i64 o5.1), (8, .int .i64 (IntKind.wrap .i64 ((IntKind.wrap .i64 (s_p0.first + o1)) * r1))), (10, .int .i64 o5.2.1)]) (fun e5 => .res (OwnL ei64 3 e5.2.2.1 e5.2.2.2 o5.2.2.wear) :: .res (OwnL eu8 5 e5.1 e5.2.1 o5.2.2.bytes) :: .res (Box gb2 80 (bx_T_Device o5.2.2 e5.1 e5.2.1 e5.2.2.1 e5.2.2.2)) :: .res (Box gb1 73 (bx_T_settings_Store s_p0 gb2 M1)) :: .res (MapV (kint .u8) (cod eu8) M1 s_p0.all) :: .res (MapV (kint .u8) (cod eu8) M2 next) :: R) ?_ ?_
 ·refine .seq ?_;obtain ⟨o6, hj6, hj5⟩ := bnd_e hj5
  refine .cutE (fun (e6 : Unit) => [(0, .pointer (some ⟨gb1, 0, none⟩)), (1, .map M2), (5, .int .i64 o1), (6, .int .i64 (IntKind.wrap .i64 (s_p0.generation + 1))), (7, .int .i64 5), (8, .int .i64 (IntKind.wrap .i64 ((IntKind.wrap .i64 (s_p0.first + o1)) * r1))), (10, .int .i64 o4.1), (97, .bool o6)]) (fun e6 => .res (OwnL ei64 3 A11 c11 o4.2.wear) :: .res (OwnL eu8 5 A10 c10 o4.2.bytes) :: .res (Box gb2 80 (bx_T_Device o4.2 A10 c10 A11 c11)) :: .res (Box gb1 73 (bx_T_settings_Store s_p0 gb2 M1)) :: .res (MapV (kint .u8) (cod eu8) M1 s_p0.all) :: .res (MapV (kint .u8) (cod eu8) M2 next) :: R) ?_ ?_
  ·refine .region ?_;refine .n 3 rfl ?_;refine .gSplit (dj := 93) _ rfl (fun hb6 => ?_) (fun hb6 => ?_)
   ·replace hj6 := bif_t hb6 hj6;refine .n 1 rfl ?_;refine .gOn (dj := 93) rfl rfl ?_;refine .mapLenV (K := (kint .u8)) (E := (cod eu8)) rfl rfl (zm 5 rfl) rfl rfl rfl ?_;cases hj6;refine .be rfl ?_;exact .hereE () (zb rfl) (fun _ w => w)
   replace hj6 := bif_f hb6 hj6;cases hj6;refine .be rfl ?_;exact .hereE () (zb rfl) (fun _ w => w)
  rintro e6;refine .cb hj5 rfl (fun hj5 => ?_) (fun hj5 => ?_)
  ·refine .a 1 rfl ?_;obtain ⟨r7, hr7, hj5⟩ := bnd_e hj5;refine .call (c__settings_values_sorted hr7) ent43 rfl rfl rfl (zl [5] 0 rfl) ?_;rintro _ _ ⟨A16, c16, rfl, rfl⟩;refine .nm 7 rfl ?_;refine .asrt (fun _ w => (w.sl [1] 0 rfl).meltC) ?_;obtain ⟨r8, hr8, hj5⟩ := bnd_e hj5;refine .call (c_settings_encode hr8) ent47 rfl rfl rfl (zd [0] [] 0 rfl) ?_;rintro _ _ ⟨A17, c17, rfl, rfl⟩
   refine .nm 8 rfl ?_;refine .bf [0,1,5,6,7,8,11] [0] 1 rfl rfl ?_;refine .ab [0,1,5,6,7,8,11] rfl ?_;refine .region ?_;refine .n 3 rfl ?_;refine .loadB 0 rfl rfl (zm 5 rfl) rfl rfl ?_;refine .n 3 rfl ?_;obtain ⟨b5, hb5, hj5⟩ := bnd_e hj5;refine .ss 108 (optA_v hb5) ?_;refine .asrt (fun _ w => w.meltL) ?_;obtain ⟨r9, hr9, hj5⟩ := bnd_e hj5
   refine .call (c_flash_Device_Program hr9) ent48 rfl rfl rfl (zd [3] [4,3,2] 0 rfl) ?_;rintro _ _ ⟨A18, c18, A19, c19, rfl, rfl⟩;refine .nm 7 rfl ?_;cases hj5;refine .be rfl ?_;exact .hereE (A18, c18, A19, c19) (zb rfl) (zl [2,1,0,2,2] 1 rfl)
  cases hj5;refine .sk ?_;exact .hereE (A10, c10, A11, c11) (zb rfl) (fun _ w => w)
 rintro ⟨A14, c14, A15, c15⟩;refine .seq ?_;obtain ⟨o7, hj7, h⟩ := bnd_e h
 refine .cutE (fun (e7 : Option Addr × Nat × Option Addr × Nat) => [(0, .pointer (some ⟨gb1, 0, none⟩)), (1, .map M2), (5, .int .i64 o1), (6, .int .i64 (IntKind.wrap .i64 (s_p0.generation + 1))), (7, .int .i64 o5.1), (10, .int .i64 o7.1)]) (fun e7 => .res (OwnL ei64 3 e7.2.2.1 e7.2.2.2 o7.2.wear) :: .res (OwnL eu8 5 e7.1 e7.2.1 o7.2.bytes) :: .res (Box gb2 80 (bx_T_Device o7.2 e7.1 e7.2.1 e7.2.2.1 e7.2.2.2)) :: .res (Box gb1 73 (bx_T_settings_Store s_p0 gb2 M1)) :: .res (MapV (kint .u8) (cod eu8) M1 s_p0.all) :: .res (MapV (kint .u8) (cod eu8) M2 next) :: R) ?_ ?_
 ·refine .ab [0,1,5,6,7,8,10,114] rfl ?_;refine .cb hj7 rfl (fun hj7 => ?_) (fun hj7 => ?_)
  ·refine .region ?_;refine .n 3 rfl ?_;refine .loadB 0 rfl rfl (zm 3 rfl) rfl rfl ?_;refine .n 2 rfl ?_;refine .buildSlice rfl rfl rfl rfl rfl rfl rfl rfl fun g2 => ?_;obtain ⟨b6, hb6, hj7⟩ := bnd_e hj7;refine .ss 118 (optA_v hb6) ?_;refine .asrt (fun _ w => w.litL (E := eu8) (e := 5) [0] rfl rfl) ?_;refine .asrt (fun _ w => w.meltL) ?_;obtain ⟨r10, hr10, hj7⟩ := bnd_e hj7
   refine .call (c_flash_Device_Program hr10) ent48 rfl rfl rfl (zd [3] [3,2,1] 0 rfl) ?_;rintro _ _ ⟨A22, c22, A23, c23, rfl, rfl⟩;refine .nm 7 rfl ?_;cases hj7;refine .be rfl ?_;exact .hereE (A22, c22, A23, c23) (zb rfl) (zl [2,1,0] 1 rfl)
  cases hj7;refine .sk ?_;exact .hereE (A14, c14, A15, c15) (zb rfl) (fun _ w => w)
 rintro ⟨A20, c20, A21, c21⟩;refine .seq ?_;refine .ab [0,1,5,6,7,10,124] rfl ?_;refine .cb h rfl (fun h => ?_) (fun h => ?_)
 ·refine .region ?_;refine .n 11 rfl ?_;refine .store 2 rfl rfl rfl rfl rfl rfl (.s (.s (.s .z))) rfl ?_;refine .n 2 rfl ?_;refine .store 3 rfl rfl rfl rfl rfl rfl .z rfl ?_;refine .n 2 rfl ?_;refine .store 4 rfl rfl rfl rfl rfl rfl .z rfl ?_;refine .n 2 rfl ?_;refine .store 5 rfl rfl rfl rfl rfl rfl .z rfl ?_;refine .n 2 rfl ?_;refine .store 6 rfl rfl rfl rfl rfl rfl .z rfl ?_
  refine .bf [10] [0,0,0,0] 1 rfl rfl ?_;refine .ab [4] rfl ?_;cases h;exact .rt rfl Try.results49 (.tmp rfl .nil) rfl ⟨M2, A20, c20, A21, c21, rfl, rfl⟩ (zl [0,3,2,1] 0 rfl)
 refine .sk ?_;refine .pr [10] rfl ?_;refine .ab [4] rfl ?_;cases h;exact .rt rfl Try.results49 (.tmp rfl .nil) rfl ⟨M1, A20, c20, A21, c21, rfl, rfl⟩ (zl [3,3,2,1,0] 1 rfl)
theorem ent20 : Ent Try.prog 20 := ⟨_, Try.func20, by kernel_rfl, by kernel_rfl⟩
noncomputable def m_settings_Store_Update (s_p0 : T_settings_Store) (l_p1 : (List T_Setting)) (s_p0_d : T_Device) : Option (T_settings_Store × T_Device × Int) :=
  bnd ((bif s_p0.ended then (some true) else (bnd (chkB s_p0.d) fun b1 => bnd (m_flash_Device_Down s_p0_d) fun r1 => some r1) : Option Bool)) fun o1 => bif o1 then (some ((⟨false, 0, 0, 0, none, 0, false, true⟩ : T_settings_Store), s_p0_d, 10)) else (bnd (m_settings_check l_p1) fun r2 => bnd ((bif (r2 != 0) then (some true) else (some ((l_p1.length : Int) == 0)) : Option Bool)) fun o2 => bif o2 then (some (s_p0, s_p0_d, r2)) else (bnd (m__settings_values_after s_p0.all l_p1) fun r3 => bif decide ((((r3.getD []).length : Nat) : Int) > 32) then (some (s_p0, s_p0_d, 3)) else (bnd (m_settings_encode l_p1) fun r4 => bnd ((bif decide (s_p0.active ≥ 0) then (bif s_p0.clean then (bnd (chkB s_p0.d) fun b2 => bnd (m_flash_Device_Size s_p0_d) fun r5 => some (decide ((r4.length : Int) ≤ (IntKind.wrap .i64 (r5 - s_p0.tail))))) else (some false)) else (some false) : Option Bool)) fun o3 => bif o3 then (bnd (chkB s_p0.d) fun b3 => bnd (m_flash_Device_Size s_p0_d) fun r6 => bnd (m_flash_Device_Program s_p0_d (IntKind.wrap .i64 ((IntKind.wrap .i64 ((IntKind.wrap .i64 (s_p0.first + s_p0.active)) * r6)) + s_p0.tail)) r4) fun r7 => bif (r7.2 == 0) then (bif (r7.2 == 10) then (some ((⟨false, 0, 0, 0, none, 0, false, true⟩ : T_settings_Store), r7.1, r7.2)) else (some ((⟨s_p0.d, s_p0.first, s_p0.active, s_p0.generation, r3, IntKind.wrap .i64 (s_p0.tail + (r4.length : Int)), s_p0.clean, s_p0.ended⟩ : T_settings_Store), r7.1, r7.2))) else (bif (r7.2 == 10) then (some ((⟨false, 0, 0, 0, none, 0, false, true⟩ : T_settings_Store), r7.1, r7.2)) else (some (s_p0, r7.1, r7.2)))) else (bnd (m_settings_Store_move s_p0 r3 s_p0_d) fun r8 => bif (r8.2.2 == 10) then (some ((⟨false, 0, 0, 0, none, 0, false, true⟩ : T_settings_Store), r8.2.1, r8.2.2)) else (some (r8.1, r8.2.1, r8.2.2))))))
set_option maxHeartbeats 4000000 in
theorem c_settings_Store_Update {s_p0 : T_settings_Store} {l_p1 : (List T_Setting)} {s_p0_d : T_Device} {A1 : Option Addr} {c1 : Nat} {A2 : Option Addr} {c2 : Nat} {A3 : Option Addr} {c3 : Nat} {M1 : Option Nat} {gb1 : Nat} {gb2 : Nat} {r : (T_settings_Store × T_Device × Int)} (h : m_settings_Store_Update s_p0 l_p1 s_p0_d = some r) :
    Fun Try.prog 20 [.pointer (some ⟨gb1, 0, none⟩), .slice A1 l_p1.length c1] [.ro (Sl (codL l_T_Setting) A1 c1 l_p1), .res (Box gb1 73 (bx_T_settings_Store s_p0 gb2 M1)), .res (MapV (kint .u8) (cod eu8) M1 s_p0.all), .res (Box gb2 80 (bx_T_Device s_p0_d A2 c2 A3 c3)), .res (OwnL eu8 5 A2 c2 s_p0_d.bytes), .res (OwnL ei64 3 A3 c3 s_p0_d.wear)] (fun v_ F_ => ∃ (M2 : Option Nat) (A4 : Option Addr) (c4 : Nat) (A5 : Option Addr) (c5 : Nat), v_ = .int .i64 r.2.2 ∧ F_ = [.res (Box gb1 73 (bx_T_settings_Store r.1 gb2 M2)), .res (MapV (kint .u8) (cod eu8) M2 r.1.all), .res (Box gb2 80 (bx_T_Device r.2.1 A4 c4 A5 c5)), .res (OwnL eu8 5 A4 c4 r.2.1.bytes), .res (OwnL ei64 3 A5 c5 r.2.1.wear)]) := by
 unfold m_settings_Store_Update at h
 refine Fun.intro Try.func20 rfl rfl rfl fun w R => ?_;refine .ab [0,1] rfl ?_;refine .seq ?_;refine .seq ?_;obtain ⟨o1, hj1, h⟩ := bnd_e h
 refine .cutE (fun (e1 : Unit) => [(0, .pointer (some ⟨gb1, 0, none⟩)), (1, .slice A1 l_p1.length c1), (19, .bool o1)]) (fun e1 => .ro (Sl (codL l_T_Setting) A1 c1 l_p1) :: .res (Box gb1 73 (bx_T_settings_Store s_p0 gb2 M1)) :: .res (MapV (kint .u8) (cod eu8) M1 s_p0.all) :: .res (Box gb2 80 (bx_T_Device s_p0_d A2 c2 A3 c3)) :: .res (OwnL eu8 5 A2 c2 s_p0_d.bytes) :: .res (OwnL ei64 3 A3 c3 s_p0_d.wear) :: R) ?_ ?_
 ·refine .region ?_;refine .n 3 rfl ?_;refine .loadB 7 rfl rfl (.tail _ (.head _)) rfl rfl ?_;refine .p rfl rfl ?_;refine .gSplit (dj := 13) _ rfl (fun hb1 => ?_) (fun hb1 => ?_)
  ·replace hj1 := bif_t hb1 hj1;cases hj1;refine .be rfl ?_;exact .hereE () (zb rfl) (fun _ w => w)
  replace hj1 := bif_f hb1 hj1;refine .n 3 rfl ?_;refine .gOn (dj := 13) rfl rfl ?_;refine .loadB 0 rfl rfl (.tail _ (.head _)) rfl rfl ?_;refine .gOn (dj := 13) rfl rfl ?_;obtain ⟨b1, hb1, hj1⟩ := bnd_e hj1;refine .ss 17 (optA_v hb1) ?_;obtain ⟨r1, hr1, hj1⟩ := bnd_e hj1;refine .call (c_flash_Device_Down hr1) ent26 rfl rfl rfl (zl [3,3,3] 0 rfl) ?_;rintro _ _ ⟨rfl, rfl⟩;refine .nm 6 rfl ?_
  cases hj1;refine .be rfl ?_;exact .hereE () (zb rfl) (zl [3,3,3] 0 rfl)
 rintro e1;refine .cond _ rfl (fun hb2 => ?_) (fun hb2 => ?_)
 ·replace h := bif_t hb2 h;refine .a 3 rfl ?_;refine .store 0 rfl rfl rfl rfl rfl rfl (.s .z) rfl ?_;refine .bf [] [0] 2 rfl rfl ?_;refine .ae rfl ?_;refine .ret ?_;repeat (first | refine .thenR ?_ | refine .blkR ?_)
  refine .asrt (fun _ w => w.nilV (kint .u8) (cod eu8)) ?_;cases h;exact .finR Try.results20 (.tmp rfl .nil) rfl _ ⟨none, A2, c2, A3, c3, rfl, rfl⟩ (zl [1] 0 rfl)
 replace h := bif_f hb2 h;refine .sk ?_;refine .pr [0,1] rfl ?_;refine .seq ?_;refine .a 1 rfl ?_;obtain ⟨r2, hr2, h⟩ := bnd_e h;refine .callV (c_settings_check hr2) ent45 rfl rfl rfl rfl (za [0] rfl) ?_;refine .b [0,1,5] rfl ?_;refine .seq ?_;obtain ⟨o2, hj2, h⟩ := bnd_e h
 refine .cutE (fun (e2 : Unit) => [(0, .pointer (some ⟨gb1, 0, none⟩)), (1, .slice A1 l_p1.length c1), (5, .int .i64 r2), (31, .bool o2)]) (fun e2 => .ro (Sl (codL l_T_Setting) A1 c1 l_p1) :: .res (Box gb1 73 (bx_T_settings_Store s_p0 gb2 M1)) :: .res (MapV (kint .u8) (cod eu8) M1 s_p0.all) :: .res (Box gb2 80 (bx_T_Device s_p0_d A2 c2 A3 c3)) :: .res (OwnL eu8 5 A2 c2 s_p0_d.bytes) :: .res (OwnL ei64 3 A3 c3 s_p0_d.wear) :: R) ?_ ?_
 ·refine .region ?_;refine .n 3 rfl ?_;refine .gSplit (dj := 27) _ rfl (fun hb3 => ?_) (fun hb3 => ?_)
  ·replace hj2 := bif_t hb3 hj2;cases hj2;refine .be rfl ?_;exact .hereE () (zb rfl) (fun _ w => w)
  replace hj2 := bif_f hb3 hj2;cases hj2;refine .be rfl ?_;exact .hereE () (zb rfl) (fun _ w => w)
 rintro e2;refine .cb h rfl (fun h => ?_) (fun h => ?_)
 ·refine .abf [4] [] 1 rfl rfl ?_;cases h;exact .rt rfl Try.results20 (.tmp rfl .nil) rfl ⟨M1, A2, c2, A3, c3, rfl, rfl⟩ (fun _ w => w)
 refine .sk ?_;refine .pr [0,1] rfl ?_;refine .a 3 rfl ?_;refine .loadB 4 rfl rfl (.tail _ (.head _)) rfl rfl ?_;refine .p rfl rfl ?_;obtain ⟨r3, hr3, h⟩ := bnd_e h;refine .call (c__settings_values_after hr3) ent46 rfl rfl rfl (zd [1] [2] 0 rfl) ?_;rintro _ _ ⟨M2, rfl, rfl⟩;refine .nm 7 rfl ?_;refine .b [0,1,6] rfl ?_;refine .seq ?_;refine .a 1 rfl ?_
 refine .mapLenV (K := (kint .u8)) (E := (cod eu8)) rfl rfl (.tail _ (.head _)) rfl rfl rfl ?_;refine .b [0,1,6,41] rfl ?_;refine .cb h rfl (fun h => ?_) (fun h => ?_)
 ·refine .abf [4] [0] 2 rfl rfl ?_;cases h;exact .rt rfl Try.results20 (.tmp rfl .nil) rfl ⟨M1, A2, c2, A3, c3, rfl, rfl⟩ (zl [1] 0 rfl)
 refine .sk ?_;refine .pr [0,1,6] rfl ?_;refine .a 1 rfl ?_;obtain ⟨r4, hr4, h⟩ := bnd_e h;refine .call (c_settings_encode hr4) ent47 rfl rfl rfl (zd [2] [] 0 rfl) ?_;rintro _ _ ⟨A4, c4, rfl, rfl⟩;refine .nm 8 rfl ?_;refine .bf [0,6,7] [0,0,0] 1 rfl rfl ?_;refine .ab [0,6,7] rfl ?_;refine .seq ?_;refine .seq ?_;obtain ⟨o3, hj3, h⟩ := bnd_e h
 refine .cutE (fun (e3 : Unit) => [(0, .pointer (some ⟨gb1, 0, none⟩)), (6, .map M2), (7, .slice A4 r4.length c4), (69, .bool o3)]) (fun e3 => .res (OwnL eu8 5 A4 c4 r4) :: .res (MapV (kint .u8) (cod eu8) M1 s_p0.all) :: .res (MapV (kint .u8) (cod eu8) M2 r3) :: .res (Box gb1 73 (bx_T_settings_Store s_p0 gb2 M1)) :: .res (Box gb2 80 (bx_T_Device s_p0_d A2 c2 A3 c3)) :: .res (OwnL eu8 5 A2 c2 s_p0_d.bytes) :: .res (OwnL ei64 3 A3 c3 s_p0_d.wear) :: R) ?_ ?_
 ·refine .regionX (iL [(.fl, 0), (.fl, 1), (.fl, 2), (.fx, 3), (.fl, 4), (.fl, 5), (.fl, 6), (.fl, 7), (.fl, 8), (.fx, 9), (.fl, 10), (.fl, 11), (.fl, 12), (.fl, 13), (.fl, 14), (.fl, 15), (.fl, 16), (.fx, 17), (.fl, 19), (.fl, 20), (.fl, 21), (.fl, 22), (.ef, 18), (.fl, 23), (.fl, 24), (.fl, 25)] .nil) (.res (OwnL eu8 5 A4 c4 r4) :: .res (MapV (kint .u8) (cod eu8) M1 s_p0.all) :: .res (MapV (kint .u8) (cod eu8) M2 r3) :: .res (Box gb1 73 (bx_T_settings_Store s_p0 gb2 M1)) :: .res (Box gb2 80 (bx_T_Device s_p0_d A2 c2 A3 c3)) :: .res (OwnL eu8 5 A2 c2 s_p0_d.bytes) :: .res (OwnL ei64 3 A3 c3 s_p0_d.wear) :: R) mixed (by kernel_rfl) (fun _ w => w) ?_
  refine .xn 3 rfl ?_;refine .xfx (Rd.loadB 2 rfl (zm 3 rfl) rfl rfl) rfl ?_;refine .xn 2 rfl ?_;refine .splitB (dj := 49) _ rfl (fun hb6 => ?_) (fun hb6 => ?_)
  ·replace hj3 := bif_t hb6 hj3;refine .xgOn (dj := 49) rfl rfl ?_;refine .xfl (fun _ h => h) (Rd.p rfl) rfl ?_;refine .xgOn (dj := 49) rfl rfl ?_;refine .xfl (fun _ h => h) (Rd.p rfl) rfl ?_;refine .xgOn (dj := 49) rfl rfl ?_;refine .xfl (fun _ h => h) (Rd.p rfl) rfl ?_;refine .xgOn (dj := 49) rfl rfl ?_;refine .xfx (Rd.loadB 6 rfl (zm 3 rfl) rfl rfl) rfl ?_;refine .xn 2 rfl ?_
   refine .splitB (dj := 55) _ rfl (fun hb7 => ?_) (fun hb7 => ?_)
   ·replace hj3 := bif_t hb7 hj3;refine .xgOn (dj := 55) rfl rfl ?_;refine .xfl (fun _ h => h) (Rd.p rfl) rfl ?_;refine .xgOn (dj := 55) rfl rfl ?_;refine .xfl (fun _ h => h) (Rd.p rfl) rfl ?_;refine .xgOn (dj := 55) rfl rfl ?_;refine .xfl (fun _ h => h) (Rd.p rfl) rfl ?_;refine .xgOn (dj := 55) rfl rfl ?_;refine .xfl (fun _ h => h) (Rd.p rfl) rfl ?_;refine .xgOn (dj := 55) rfl rfl ?_
    refine .xfl (fun _ h => h) (Rd.p rfl) rfl ?_;refine .xgOn (dj := 55) rfl rfl ?_;refine .xfx (Rd.loadB 0 rfl (zm 3 rfl) rfl rfl) rfl ?_;refine .xgOn (dj := 55) rfl rfl ?_;refine .xfl (fun _ h => h) (Rd.p rfl) rfl ?_;refine .xgOn (dj := 55) rfl rfl ?_;refine .xfl (fun _ h => h) (Rd.p rfl) rfl ?_;refine .xgOn (dj := 55) rfl rfl ?_;refine .xfl (fun _ h => h) (Rd.p rfl) rfl ?_
    refine .xgOn (dj := 55) rfl rfl ?_;refine .xfl (fun _ h => h) (Rd.loadB 5 rfl (zm 3 rfl) rfl rfl) rfl ?_;refine .xgOn (dj := 55) rfl rfl ?_;refine .xef ?_;obtain ⟨b2, hb2, hj3⟩ := bnd_e hj3;refine .ss 61 (optA_v hb2) ?_;obtain ⟨r5, hr5, hj3⟩ := bnd_e hj3;refine .call (c_flash_Device_Size hr5) ent41 rfl rfl rfl (zl [4,4,4] 0 rfl) ?_;rintro _ _ ⟨rfl, rfl⟩;refine .nm 7 rfl ?_
    refine .xk (zl [3,3,3,3] 0 rfl) ?_;refine .xgOn (dj := 55) rfl rfl ?_;refine .xfl (fun _ h => h) (Rd.p rfl) rfl ?_;refine .xgOn (dj := 55) rfl rfl ?_;refine .xn 2 rfl ?_;refine .xdone ?_;cases hj3;refine .thenN ?_;exact .hereE () (zb rfl) (zl [3,3,3,3] 0 rfl)
   replace hj3 := bif_f hb7 hj3;refine .xgOff (dj := 55) rfl rfl rfl rfl ?_;refine .xgOff (dj := 55) rfl rfl rfl rfl ?_;refine .xgOff (dj := 55) rfl rfl rfl rfl ?_;refine .xgOff (dj := 55) rfl rfl rfl rfl ?_;refine .xgOff (dj := 55) rfl rfl rfl rfl ?_;refine .xgOff (dj := 55) rfl rfl rfl rfl ?_;refine .xgOff (dj := 55) rfl rfl rfl rfl ?_;refine .xgOff (dj := 55) rfl rfl rfl rfl ?_
   refine .xgOff (dj := 55) rfl rfl rfl rfl ?_;refine .xgOff (dj := 55) rfl rfl rfl rfl ?_;refine .xgOff (dj := 55) rfl rfl rfl rfl ?_;refine .xgOff (dj := 55) rfl rfl rfl rfl ?_;refine .xgOff (dj := 55) rfl rfl rfl rfl ?_;refine .xfl (fun _ h => h) (Rd.p rfl) rfl ?_;refine .xdone ?_;cases hj3;refine .thenN ?_;exact .hereE () (zb rfl) (fun _ w => w)
  replace hj3 := bif_f hb6 hj3;refine .xgOff (dj := 49) rfl rfl rfl rfl ?_;refine .xgOff (dj := 49) rfl rfl rfl rfl ?_;refine .xgOff (dj := 49) rfl rfl rfl rfl ?_;refine .xgOff (dj := 49) rfl rfl rfl rfl ?_;refine .xn 2 rfl ?_;refine .xgOff (dj := 55) rfl rfl rfl rfl ?_;refine .xgOff (dj := 55) rfl rfl rfl rfl ?_;refine .xgOff (dj := 55) rfl rfl rfl rfl ?_
  refine .xgOff (dj := 55) rfl rfl rfl rfl ?_;refine .xgOff (dj := 55) rfl rfl rfl rfl ?_;refine .xgOff (dj := 55) rfl rfl rfl rfl ?_;refine .xgOff (dj := 55) rfl rfl rfl rfl ?_;refine .xgOff (dj := 55) rfl rfl rfl rfl ?_;refine .xgOff (dj := 55) rfl rfl rfl rfl ?_;refine .xgOff (dj := 55) rfl rfl rfl rfl ?_;refine .xgOff (dj := 55) rfl rfl rfl rfl ?_;refine .xgOff (dj := 55) rfl rfl rfl rfl ?_
  refine .xgOff (dj := 55) rfl rfl rfl rfl ?_;refine .xfl (fun _ h => h) (Rd.p rfl) rfl ?_;refine .xdone ?_;cases hj3;refine .thenN ?_;exact .hereE () (zb rfl) (fun _ w => w)
 rintro e3;refine .cb h rfl (fun h => ?_) (fun h => ?_)
 ·refine .seq ?_
  refine .regionX (iL [(.fl, 0), (.fl, 1), (.fl, 2), (.fl, 3), (.fl, 4), (.fl, 5), (.fl, 6), (.fl, 7), (.fl, 8), (.fl, 9), (.fl, 10), (.fl, 11), (.fl, 12), (.fl, 13), (.fl, 14), (.fl, 15), (.fx, 16), (.fl, 19), (.fl, 20), (.fl, 21), (.fl, 22), (.fl, 24), (.ef, 17), (.fl, 18), (.fl, 23), (.ef, 25), (.fl, 26)] .nil) (.res (MapV (kint .u8) (cod eu8) M1 s_p0.all) :: .res (MapV (kint .u8) (cod eu8) M2 r3) :: .res (Box gb1 73 (bx_T_settings_Store s_p0 gb2 M1)) :: R) mixed (by kernel_rfl) (zl [1,1,1] 4 rfl) ?_
  refine .xn 3 rfl ?_;refine .xfl (fun _ h => h) (Rd.loadB 0 rfl (zm 2 rfl) rfl rfl) rfl ?_;refine .xn 3 rfl ?_;refine .xfl (fun _ h => h) (Rd.loadB 1 rfl (zm 2 rfl) rfl rfl) rfl ?_;refine .xn 3 rfl ?_;refine .xfl (fun _ h => h) (Rd.loadB 2 rfl (zm 2 rfl) rfl rfl) rfl ?_;refine .xn 4 rfl ?_;refine .xfx (Rd.loadB 0 rfl (zm 3 rfl) rfl rfl) rfl ?_;refine .xn 3 rfl ?_
  refine .xfl (fun _ h => h) (Rd.loadB 5 rfl (zm 2 rfl) rfl rfl) rfl ?_;refine .xfl (fun _ h => h) (Rd.p rfl) rfl ?_;refine .xef ?_;obtain ⟨b3, hb3, h⟩ := bnd_e h;refine .ss 73 (optA_v hb3) ?_;refine .ss 86 (optA_v hb3) ?_;obtain ⟨r6, hr6, h⟩ := bnd_e h;refine .call (c_flash_Device_Size hr6) ent41 rfl rfl rfl (zl [4,4,4] 0 rfl) ?_;rintro _ _ ⟨rfl, rfl⟩;refine .nm 7 rfl ?_
  refine .xk (zl [] 4 rfl) ?_;refine .xn 2 rfl ?_;refine .xef ?_;refine .asrt (fun _ w => (w.sl [3] 0 rfl).meltL) ?_;obtain ⟨r7, hr7, h⟩ := bnd_e h;refine .call (c_flash_Device_Program hr7) ent48 rfl rfl rfl (zd [3] [1,1,1] 0 rfl) ?_;rintro _ _ ⟨A5, c5, A6, c6, rfl, rfl⟩;refine .nm 7 rfl ?_;refine .xk (zl [] 4 rfl) ?_;refine .xfl (fun _ h => h) (Rd.p rfl) rfl ?_;refine .xdone ?_;refine .thenN ?_
  refine .pr [0,6,7,8] rfl ?_;refine .ab [0,6,7,8,97] rfl ?_;refine .cb h rfl (fun h => ?_) (fun h => ?_)
  ·refine .region ?_;refine .n 6 rfl ?_;refine .loadB 5 rfl rfl (zm 6 rfl) rfl rfl ?_;refine .n 5 rfl ?_;refine .store 4 rfl rfl rfl rfl rfl rfl (.s (.s (.s (.s (.s (.s .z)))))) rfl ?_;refine .n 2 rfl ?_;refine .store 5 rfl rfl rfl rfl rfl rfl .z rfl ?_;refine .bf [0,8] [0,0,0,0] 2 rfl rfl ?_;refine .seq ?_;refine .ab [0,8,116] rfl ?_;refine .cb h rfl (fun h => ?_) (fun h => ?_)
   ·refine .region ?_;refine .n 3 rfl ?_;refine .store 0 rfl rfl rfl rfl rfl rfl .z rfl ?_;refine .bf [8] [0,0,0,0] 1 rfl rfl ?_;refine .ab [4] rfl ?_;refine .ret ?_;repeat (first | refine .thenR ?_ | refine .blkR ?_)
    refine .asrt (fun _ w => w.nilV (kint .u8) (cod eu8)) ?_;cases h;exact .finR Try.results20 (.tmp rfl .nil) rfl _ ⟨none, A5, c5, A6, c6, rfl, rfl⟩ (zl [1] 0 rfl)
   refine .sk ?_;refine .pr [8] rfl ?_;refine .ab [4] rfl ?_;cases h;exact .rt rfl Try.results20 (.tmp rfl .nil) rfl ⟨M2, A5, c5, A6, c6, rfl, rfl⟩ (zl [0,3] 0 rfl)
  refine .sk ?_;refine .pf [0,8] [0,0,0,1] 2 rfl rfl ?_;refine .seq ?_;refine .ab [0,8,116] rfl ?_;refine .cb h rfl (fun h => ?_) (fun h => ?_)
  ·refine .region ?_;refine .n 3 rfl ?_;refine .store 0 rfl rfl rfl rfl rfl rfl (.s (.s (.s (.s .z)))) rfl ?_;refine .bf [8] [0,0,0,0] 1 rfl rfl ?_;refine .ab [4] rfl ?_;refine .ret ?_;repeat (first | refine .thenR ?_ | refine .blkR ?_)
   refine .asrt (fun _ w => w.nilV (kint .u8) (cod eu8)) ?_;cases h;exact .finR Try.results20 (.tmp rfl .nil) rfl _ ⟨none, A5, c5, A6, c6, rfl, rfl⟩ (zl [1] 0 rfl)
  refine .sk ?_;refine .pr [8] rfl ?_;refine .ab [4] rfl ?_;cases h;exact .rt rfl Try.results20 (.tmp rfl .nil) rfl ⟨M1, A5, c5, A6, c6, rfl, rfl⟩ (zl [4,3] 0 rfl)
 refine .region ?_;refine .n 2 rfl ?_;obtain ⟨r8, hr8, h⟩ := bnd_e h;refine .call (c_settings_Store_move (gb1 := gb1) (gb2 := gb2) hr8) ent49 rfl rfl rfl (zl [3,1,1,1,1,1] 0 rfl) ?_;rintro _ _ ⟨M3, A7, c7, A8, c8, rfl, rfl⟩;refine .nm 6 rfl ?_;refine .bf [0,8] [0,0,0,0,0] 1 rfl rfl ?_;refine .seq ?_;refine .ab [0,8,116] rfl ?_;refine .cb h rfl (fun h => ?_) (fun h => ?_)
 ·refine .region ?_;refine .n 3 rfl ?_;refine .store 0 rfl rfl rfl rfl rfl rfl .z rfl ?_;refine .bf [8] [0] 1 rfl rfl ?_;refine .ab [4] rfl ?_;refine .ret ?_;repeat (first | refine .thenR ?_ | refine .blkR ?_)
  refine .asrt (fun _ w => w.nilV (kint .u8) (cod eu8)) ?_;cases h;exact .finR Try.results20 (.tmp rfl .nil) rfl _ ⟨none, A7, c7, A8, c8, rfl, rfl⟩ (zl [1] 0 rfl)
 refine .sk ?_;refine .pr [8] rfl ?_;refine .ab [4] rfl ?_;cases h;exact .rt rfl Try.results20 (.tmp rfl .nil) rfl ⟨M3, A7, c7, A8, c8, rfl, rfl⟩ (fun _ w => w)
theorem ent29 : Ent Try.prog 29 := ⟨_, Try.func29, by kernel_rfl, by kernel_rfl⟩
noncomputable def m_settings_Store_Put (s_p0 : T_settings_Store) (key : Int) (value : (List Int)) (s_p0_d : T_Device) : Option (T_settings_Store × T_Device × Int) :=
  bnd (m_settings_Store_Update s_p0 ([(⟨key, value, false⟩ : T_Setting)]) s_p0_d) fun r1 => some (r1.1, r1.2.1, r1.2.2)
theorem c_settings_Store_Put {s_p0 : T_settings_Store} {key : Int} {value : (List Int)} {s_p0_d : T_Device} {A1 : Option Addr} {c1 : Nat} {A2 : Option Addr} {c2 : Nat} {A3 : Option Addr} {c3 : Nat} {M1 : Option Nat} {gb1 : Nat} {gb2 : Nat} {r : (T_settings_Store × T_Device × Int)} (h : m_settings_Store_Put s_p0 key value s_p0_d = some r) :
    Fun Try.prog 29 [.pointer (some ⟨gb1, 0, none⟩), .int .u8 key, .slice A1 value.length c1] [.ro (SlL eu8 A1 c1 value), .res (Box gb1 73 (bx_T_settings_Store s_p0 gb2 M1)), .res (MapV (kint .u8) (cod eu8) M1 s_p0.all), .res (Box gb2 80 (bx_T_Device s_p0_d A2 c2 A3 c3)), .res (OwnL eu8 5 A2 c2 s_p0_d.bytes), .res (OwnL ei64 3 A3 c3 s_p0_d.wear)] (fun v_ F_ => ∃ (M2 : Option Nat) (A4 : Option Addr) (c4 : Nat) (A5 : Option Addr) (c5 : Nat), v_ = .int .i64 r.2.2 ∧ F_ = [.res (Box gb1 73 (bx_T_settings_Store r.1 gb2 M2)), .res (MapV (kint .u8) (cod eu8) M2 r.1.all), .res (Box gb2 80 (bx_T_Device r.2.1 A4 c4 A5 c5)), .res (OwnL eu8 5 A4 c4 r.2.1.bytes), .res (OwnL ei64 3 A5 c5 r.2.1.wear)]) := by
 unfold m_settings_Store_Put at h
 refine Fun.intro Try.func29 rfl rfl rfl fun w R => ?_;refine .ab [0,1,2] rfl ?_;refine .a 4 rfl ?_;refine .buildSlice rfl rfl rfl rfl rfl rfl rfl rfl fun g1 => ?_;refine .asrt (fun _ w => Sat.litC (ls := l_T_Setting) (e := 39) [((⟨key, value, false⟩ : T_Setting), ((A1, c1), ()))] rfl rfl rfl ⟨(.head _), trivial⟩ w) ?_;refine .asrt (fun _ w => w.meltC) ?_;obtain ⟨r1, hr1, h⟩ := bnd_e h
 refine .call (c_settings_Store_Update (gb1 := gb1) (gb2 := gb2) hr1) ent20 rfl rfl rfl (zd [5] [2,2,2,2,2] 0 rfl) ?_;rintro _ _ ⟨M2, A4, c4, A5, c5, rfl, rfl⟩;refine .nm 7 rfl ?_;refine .bf [6] [0,0,0,0,0] 2 rfl rfl ?_;cases h;exact .rt rfl Try.results29 (.tmp rfl .nil) rfl ⟨M2, A4, c4, A5, c5, rfl, rfl⟩ (fun _ w => w)
theorem ent17 : Ent Try.prog 17 := ⟨_, Try.func17, by kernel_rfl, by kernel_rfl⟩
noncomputable def m_settings_Store_Get (s_p0 : T_settings_Store) (key : Int) (s_p0_d : T_Device) : Option ((List Int) × Bool) :=
  bnd (m_slices_Clone__byte_byte ((mget (kint .u8).eq (s_p0.all.getD []) key).getD [])) fun r1 => some (r1, (mget (kint .u8).eq (s_p0.all.getD []) key).isSome)
theorem c_settings_Store_Get {s_p0 : T_settings_Store} {key : Int} {s_p0_d : T_Device} {A1 : Option Addr} {c1 : Nat} {A2 : Option Addr} {c2 : Nat} {M1 : Option Nat} {gb1 : Nat} {gb2 : Nat} {r : ((List Int) × Bool)} (h : m_settings_Store_Get s_p0 key s_p0_d = some r) :
    Fun Try.prog 17 [.pointer (some ⟨gb1, 0, none⟩), .int .u8 key] [.res (Box gb1 73 (bx_T_settings_Store s_p0 gb2 M1)), .res (MapV (kint .u8) (cod eu8) M1 s_p0.all), .res (Box gb2 80 (bx_T_Device s_p0_d A1 c1 A2 c2)), .res (OwnL eu8 5 A1 c1 s_p0_d.bytes), .res (OwnL ei64 3 A2 c2 s_p0_d.wear)] (fun v_ F_ => ∃ (A3 : Option Addr) (c3 : Nat), v_ = .tuple #[.slice A3 r.1.length c3, .bool r.2] ∧ F_ = [.res (Box gb1 73 (bx_T_settings_Store s_p0 gb2 M1)), .res (MapV (kint .u8) (cod eu8) M1 s_p0.all), .res (Box gb2 80 (bx_T_Device s_p0_d A1 c1 A2 c2)), .res (OwnL eu8 5 A1 c1 s_p0_d.bytes), .res (OwnL ei64 3 A2 c2 s_p0_d.wear), .res (OwnL eu8 5 A3 c3 r.1)]) := by
 unfold m_settings_Store_Get at h
 refine Fun.intro Try.func17 rfl rfl rfl fun w R => ?_;refine .ab [0,1] rfl ?_;refine .a 3 rfl ?_;refine .loadB 4 rfl rfl (.head _) rfl rfl ?_;refine .p rfl rfl ?_;refine .lookupV (K := (kint .u8)) (E := (cod eu8)) key rfl rfl rfl (.tail _ (.head _)) rfl rfl rfl rfl rfl rfl fun A3 c3 => ?_;refine .b [6,7] rfl ?_;refine .a 1 rfl ?_;obtain ⟨r1, hr1, h⟩ := bnd_e h
 refine .call (c_slices_Clone__byte_byte hr1) ent44 rfl rfl rfl (zd [0] [] 0 rfl) ?_;rintro _ _ ⟨A4, c4, rfl, rfl⟩;refine .nm 7 rfl ?_;refine .bf [4,5] [0] 1 rfl rfl ?_;cases h;exact .rt rfl Try.results17 (.tmp rfl (.tmp rfl .nil)) rfl ⟨A4, c4, rfl, rfl⟩ (zl [1,1,1,1,1] 0 rfl)
theorem ent18 : Ent Try.prog 18 := ⟨_, Try.func18, by kernel_rfl, by kernel_rfl⟩
noncomputable def m_ref01_Same (a_p0 : (List Int)) (b_p1 : (List Int)) : Option Bool :=
  bif ((a_p0.length : Int) != (b_p1.length : Int)) then (some false) else (bnd (loopM (τ := Bool ⊕ Unit) (fun (s1 : Int) => bif decide (s1 < (a_p0.length : Int)) then (bnd (elt a_p0 s1) fun x1 => bnd (elt b_p1 s1) fun x2 => bif (x1 != x2) then (some (.done (.inl false))) else (some (.next (IntKind.wrap .i64 (s1 + 1))))) else (some (.done (.inr ())))) 0) fun o1 => retOr o1 fun o2 => some true)
theorem c_ref01_Same {a_p0 : (List Int)} {b_p1 : (List Int)} {A1 : Option Addr} {c1 : Nat} {A2 : Option Addr} {c2 : Nat} {r : Bool} (h : m_ref01_Same a_p0 b_p1 = some r) :
    Fun Try.prog 18 [.slice A1 a_p0.length c1, .slice A2 b_p1.length c2] [.ro (SlL eu8 A1 c1 a_p0), .ro (SlL eu8 A2 c2 b_p1)] (Val (.bool r)) := by
 unfold m_ref01_Same at h
 refine Fun.intro Try.func18 rfl rfl rfl fun w R => ?_;refine .ab [0,1] rfl ?_;refine .seq ?_;refine .ab [0,1,10] rfl ?_;refine .cb h rfl (fun h => ?_) (fun h => ?_)
 ·refine .abf [4] [] 2 rfl rfl ?_;cases h;exact .rt rfl Try.results18 (.tmp rfl .nil) rfl ⟨rfl, rfl⟩ (fun _ w => w)
 refine .sk ?_;refine .pr [0,1] rfl ?_;refine .seq ?_;refine .ae rfl ?_;obtain ⟨o1, hl1, h⟩ := bnd_e h;refine .cutI (fun (o2 : Unit) (e2 : Unit) => []) (fun o2 e2 => R) (fun o2 => o1 = .inr o2) ?_ ?_
 ·refine .block ?_;refine .loop hl1 (fun (s1 : Int) (e1 : Unit) => [(0, .slice A1 a_p0.length c1), (1, .slice A2 b_p1.length c2), (5, .int .i64 s1)]) (fun s1 e1 => .ro (SlL eu8 A1 c1 a_p0) :: .ro (SlL eu8 A2 c2 b_p1) :: R) (fun _ _ => True) () trivial (zb rfl) (fun _ w => w) ?_;rintro s1 e1 - hit1;obtain ⟨st1, hm1, hd1⟩ := iter_e hit1;have h1 := hm1;refine .seq ?_;refine .ab [0,1,5,14] rfl ?_
  refine .cb h1 rfl (fun h1 => ?_) (fun h1 => ?_)
  ·refine .sk ?_;refine .pr [0,1,5] rfl ?_;refine .seq ?_;refine .block ?_;refine .seq ?_;refine .regionF mixed (by kernel_rfl) ?_;refine .n 2 rfl ?_;obtain ⟨x1, hx1, h1⟩ := bnd_e h1;refine .ixL hx1 rfl rfl rfl (.head _) rfl rfl rfl rfl rfl fun b1 ob1 => ?_;refine .load ob1 0 rfl rfl (.head _) rfl rfl ?_;refine .n 2 rfl ?_;obtain ⟨x2, hx2, h1⟩ := bnd_e h1
   refine .ixL hx2 rfl rfl rfl (zm 2 rfl) rfl rfl rfl rfl rfl fun b2 ob2 => ?_;refine .load ob2 0 rfl rfl (.head _) rfl rfl ?_;refine .beq rfl ?_;refine .pf [0,1,5,25] [] 2 rfl rfl ?_;refine .cb h1 rfl (fun h1 => ?_) (fun h1 => ?_)
   ·refine .abf [4] [] 2 rfl rfl ?_;refine .ret ?_;repeat (first | refine .thenR ?_ | refine .blkR ?_)
    cases h1;have ho := hd1 _ rfl;subst ho;have h : some _ = some _ := h;cases h;exact .finR Try.results18 (.tmp rfl .nil) rfl _ ⟨rfl, rfl⟩ (fun _ w => w)
   refine .skip ?_;refine .blkN ?_;refine .thenN ?_;refine .pr [0,1,5] rfl ?_;refine .region ?_;cases h1;refine .be rfl ?_;exact .again _ () hm1 trivial (zb rfl) (fun _ w => w)
  refine .exit ?_;repeat (first | refine .thenX ?_ | refine .blkMiss rfl ?_)
  refine .blkHit ?_;cases h1;have ho := hd1 _ rfl;subst ho;refine .thenN ?_;exact .hereI () () rfl trivial (zl [] 2 rfl)
 rintro o2 e2 ho;subst ho;have h := unR h;refine .ae rfl ?_;cases h;exact .rt rfl Try.results18 (.tmp rfl .nil) rfl ⟨rfl, rfl⟩ (fun _ w => w)
theorem ent10 : Ent Try.prog 10 := ⟨_, Try.func10, by kernel_rfl, by kernel_rfl⟩
noncomputable def m_law06_awake  : Option Bool :=
  bnd (m_law06_device) fun r1 => optM r1 (some false) (fun q1 => bnd (m_settings_Open q1 1) fun r2 => optM r2.2.1 (some false) (fun q2 => bif (r2.2.2 != 0) then (some false) else (bnd (m_settings_Store_Put q2 7 ([1, 2]) r2.1) fun r3 => bnd (m_flash_Device_Read r3.2.1 1024 12) fun r4 => bnd (m_settings_Store_Get r3.1 7 r4.1) fun r5 => bnd ((bif (r3.2.2 == 0) then (bif (r4.2.2 == 0) then (bnd (m_ref01_Same r4.2.1 ([1, 0, 0, 0, 0, 1, 7, 2, 1, 2, 0, 255])) fun r6 => bif r6 then (bif r5.2 then (bnd (m_ref01_Same r5.1 ([1, 2])) fun r7 => some r7) else (some false)) else (some false)) else (some false)) else (some false) : Option Bool)) fun o1 => some o1)))
set_option maxHeartbeats 4000000 in
theorem c_law06_awake  {r : Bool} (h : m_law06_awake = some r) :
    Fun Try.prog 10 [] [] (Val (.bool r)) := by
 unfold m_law06_awake at h
 refine Fun.intro Try.func10 rfl rfl rfl fun w R => ?_;refine .ab [] rfl ?_;refine .seq ?_;refine .region ?_;obtain ⟨r1, hr1, h⟩ := bnd_e h;refine .call (c_law06_device hr1) ent28 rfl rfl rfl (fun _ w => w) ?_
 intro v_ F_ hp_
 rcases hq1 : r1 with _ | q1
 ·replace hp_ := optP_n hq1 hp_;replace h := optM_n hq1 h;obtain ⟨rfl, rfl⟩ := hp_;refine .nm 0 rfl ?_;refine .b [1] rfl ?_;refine .seq ?_;refine .ab [1,11] rfl ?_;refine .condT rfl ?_;refine .ab [0] rfl ?_;cases h;exact .rt rfl Try.results10 (.tmp rfl .nil) rfl ⟨rfl, rfl⟩ (fun _ w => w)
 replace hp_ := optP_s hq1 hp_;replace h := optM_s hq1 h;obtain ⟨g1, A1, c1, A2, c2, rfl, rfl⟩ := hp_;refine .nm 3 rfl ?_;refine .b [1] rfl ?_;refine .seq ?_;refine .ab [1,11] rfl ?_;refine .condF rfl ?_;refine .sk ?_;refine .pr [1] rfl ?_;refine .a 1 rfl ?_;obtain ⟨r2, hr2, h⟩ := bnd_e h;refine .call (c_settings_Open hr2) ent13 rfl rfl rfl (fun _ w => w) ?_
 intro v_ F_ hp_
 rcases hq2 : r2.2.1 with _ | q2
 ·replace hp_ := optP_n hq2 hp_;replace h := optM_n hq2 h;obtain ⟨A3, c3, A4, c4, rfl, rfl⟩ := hp_;refine .nm 3 rfl ?_;refine .b [1,2,3] rfl ?_;refine .seq ?_;refine .ab [1,2,22] rfl ?_;refine .condT rfl ?_;refine .abf [0] [] 3 rfl rfl ?_;cases h;exact .rt rfl Try.results10 (.tmp rfl .nil) rfl ⟨rfl, rfl⟩ (fun _ w => w)
 replace hp_ := optP_s hq2 hp_;replace h := optM_s hq2 h;obtain ⟨A5, c5, A6, c6, g2, M1, rfl, rfl⟩ := hp_;refine .nm 5 rfl ?_;refine .b [1,2,3] rfl ?_;refine .seq ?_;refine .ab [1,2,22] rfl ?_;refine .cb h rfl (fun h => ?_) (fun h => ?_)
 ·refine .abf [0] [] 5 rfl rfl ?_;cases h;exact .rt rfl Try.results10 (.tmp rfl .nil) rfl ⟨rfl, rfl⟩ (fun _ w => w)
 refine .sk ?_;refine .pr [1,2] rfl ?_;refine .a 1 rfl ?_;refine .buildSlice rfl rfl rfl rfl rfl rfl rfl rfl fun g3 => ?_;refine .asrt (fun _ w => w.litL (E := eu8) (e := 5) [1, 2] rfl rfl) ?_;refine .asrt (fun _ w => w.meltL) ?_;obtain ⟨r3, hr3, h⟩ := bnd_e h;refine .call (c_settings_Store_Put (gb1 := g2) (gb2 := g1) hr3) ent29 rfl rfl rfl (zd [5] [4,4,1,1,1] 0 rfl) ?_
 rintro _ _ ⟨M2, A7, c7, A8, c8, rfl, rfl⟩;refine .nm 6 rfl ?_;refine .bf [1,2,4] [0,0,0,0,0] 1 rfl rfl ?_;refine .a 1 rfl ?_;obtain ⟨r4, hr4, h⟩ := bnd_e h;refine .call (c_flash_Device_Read hr4) ent37 rfl rfl rfl (zl [2,2,2] 0 rfl) ?_;rintro _ _ ⟨A9, c9, A10, c10, A11, c11, rfl, rfl⟩;refine .nm 6 rfl ?_;refine .b [2,4,5,6] rfl ?_;refine .a 1 rfl ?_;obtain ⟨r5, hr5, h⟩ := bnd_e h
 refine .call (c_settings_Store_Get (gb1 := g2) (gb2 := g1) hr5) ent17 rfl rfl rfl (zl [4,4] 0 rfl) ?_;rintro _ _ ⟨A12, c12, rfl, rfl⟩;refine .nm 7 rfl ?_;refine .bf [4,5,6,7,8] [] 5 rfl rfl ?_;refine .seq ?_;obtain ⟨o1, hj1, h⟩ := bnd_e h;refine .cutE (fun (e1 : Unit) => [(0, .bool o1)]) (fun e1 => R) ?_ ?_
 ·refine .region ?_;refine .n 3 rfl ?_;refine .gSplit (dj := 38) _ rfl (fun hb2 => ?_) (fun hb2 => ?_)
  ·replace hj1 := bif_t hb2 hj1;refine .n 4 rfl ?_;refine .gSplit (dj := 42) _ rfl (fun hb3 => ?_) (fun hb3 => ?_)
   ·replace hj1 := bif_t hb3 hj1;refine .n 1 rfl ?_;refine .gOn (dj := 42) rfl rfl ?_;refine .buildSlice rfl rfl rfl rfl rfl rfl rfl rfl fun g4 => ?_;refine .gOn (dj := 42) rfl rfl ?_;refine .asrt (fun _ w => w.litL (E := eu8) (e := 5) [1, 0, 0, 0, 0, 1, 7, 2, 1, 2, 0, 255] rfl rfl) ?_;refine .asrt (fun _ w => (w.sl [2] 0 rfl).meltL) ?_;refine .asrt (fun _ w => (w.sl [1] 0 rfl).meltL) ?_
    obtain ⟨r6, hr6, hj1⟩ := bnd_e hj1;refine .callV (c_ref01_Same hr6) ent18 rfl rfl rfl rfl (za [1,0] rfl) ?_;refine .n 2 rfl ?_;refine .gSplit (dj := 47) _ rfl (fun hb4 => ?_) (fun hb4 => ?_)
    ·replace hj1 := bif_t hb4 hj1;refine .n 3 rfl ?_;refine .gSplit (dj := 50) _ rfl (fun hb5 => ?_) (fun hb5 => ?_)
     ·replace hj1 := bif_t hb5 hj1;refine .n 1 rfl ?_;refine .gOn (dj := 50) rfl rfl ?_;refine .buildSlice rfl rfl rfl rfl rfl rfl rfl rfl fun g5 => ?_;refine .gOn (dj := 50) rfl rfl ?_;refine .asrt (fun _ w => w.litL (E := eu8) (e := 5) [1, 2] rfl rfl) ?_;refine .asrt (fun _ w => (w.sl [3] 0 rfl).meltL) ?_;refine .asrt (fun _ w => (w.sl [1] 0 rfl).meltL) ?_;obtain ⟨r7, hr7, hj1⟩ := bnd_e hj1
      refine .callV (c_ref01_Same hr7) ent18 rfl rfl rfl rfl (za [1,0] rfl) ?_;cases hj1;refine .be rfl ?_;exact .hereE () (zb rfl) (zl [] 4 rfl)
     replace hj1 := bif_f hb5 hj1;cases hj1;refine .be rfl ?_;exact .hereE () (zb rfl) (zl [] 3 rfl)
    replace hj1 := bif_f hb4 hj1;cases hj1;refine .be rfl ?_;exact .hereE () (zb rfl) (zl [] 3 rfl)
   replace hj1 := bif_f hb3 hj1;cases hj1;refine .be rfl ?_;exact .hereE () (zb rfl) (zl [] 2 rfl)
  replace hj1 := bif_f hb2 hj1;cases hj1;refine .be rfl ?_;exact .hereE () (zb rfl) (zl [] 2 rfl)
 rintro e1;cases h;exact .rt rfl Try.results10 (.tmp rfl .nil) rfl ⟨rfl, rfl⟩ (fun _ w => w)
theorem ent12 : Ent Try.prog 12 := ⟨_, Try.func12, by kernel_rfl, by kernel_rfl⟩
noncomputable def m_made_Mod (n_p0 : Int) (m_p1 : Int) : Option Int :=
  bnd (remM n_p0 m_p1) fun q1 => bif decide (q1 < 0) then (some (IntKind.wrap .i64 (q1 + m_p1))) else (some q1)
theorem c_made_Mod {n_p0 : Int} {m_p1 : Int} {r : Int} (h : m_made_Mod n_p0 m_p1 = some r) :
    Fun Try.prog 12 [.int .i64 n_p0, .int .i64 m_p1] [] (Val (.int .i64 r)) := by
 unfold m_made_Mod at h
 refine Fun.intro Try.func12 rfl rfl rfl fun w R => ?_;refine .ab [0,1] rfl ?_;refine .a 2 rfl ?_;obtain ⟨q1, hq1, h⟩ := bnd_e h;refine .rem rfl rfl rfl hq1 ?_;refine .b [0,1] rfl ?_;refine .seq ?_;refine .ab [0,1,9] rfl ?_;refine .cb h rfl (fun h => ?_) (fun h => ?_)
 ·refine .region ?_;refine .b [0] rfl ?_;refine .ab [4] rfl ?_;cases h;exact .rt rfl Try.results12 (.tmp rfl .nil) rfl ⟨rfl, rfl⟩ (fun _ w => w)
 refine .sk ?_;refine .pr [0] rfl ?_;refine .ab [4] rfl ?_;cases h;exact .rt rfl Try.results12 (.tmp rfl .nil) rfl ⟨rfl, rfl⟩ (fun _ w => w)
theorem ent21 : Ent Try.prog 21 := ⟨_, Try.func21, by kernel_rfl, by kernel_rfl⟩
noncomputable def m_made_Roll (l_p0 : (List Int)) : Option T_Dice :=
  some (⟨l_p0, 0⟩ : T_Dice)
theorem c_made_Roll {l_p0 : (List Int)} {A1 : Option Addr} {c1 : Nat} {r : T_Dice} (h : m_made_Roll l_p0 = some r) :
    Fun Try.prog 21 [.slice A1 l_p0.length c1] [.ro (SlL ei64 A1 c1 l_p0)] (fun v_ F_ => ∃ (g1 : Nat) (A2 : Option Addr) (c2 : Nat), v_ = .pointer (some ⟨g1, 0, none⟩) ∧ F_ = [.ro (SlL ei64 A2 c2 r.L), .res (Box g1 86 [.slice A2 r.L.length c2, .int .i64 r.At])]) := by
 unfold m_made_Roll at h
 refine Fun.intro Try.func21 rfl rfl rfl fun w R => ?_;refine .ab [0] rfl ?_;refine .a 2 rfl ?_;refine .box rfl rfl fun g1 => ?_;refine .b [2] rfl ?_;cases h;exact .rt rfl Try.results21 (.tmp rfl .nil) rfl ⟨g1, A1, c1, rfl, rfl⟩ (fun _ w => ((.k (.k (.d .z))) : Keep _ _).sat ((w.sd [1] [] 0 rfl)))
theorem ent22 : Ent Try.prog 22 := ⟨_, Try.func22, by kernel_rfl, by kernel_rfl⟩
noncomputable def m_made_Dice_Next (d_p0 : T_Dice) (n_p1 : Int) : Option (T_Dice × Int) :=
  bif decide (d_p0.At ≥ (d_p0.L.length : Int)) then (some (d_p0, 0)) else (bnd (elt d_p0.L (IntKind.wrap .i64 ((IntKind.wrap .i64 (d_p0.At + 1)) - 1))) fun x1 => bnd (m_made_Mod x1 n_p1) fun r1 => some ((⟨d_p0.L, IntKind.wrap .i64 (d_p0.At + 1)⟩ : T_Dice), r1))
theorem c_made_Dice_Next {d_p0 : T_Dice} {n_p1 : Int} {A1 : Option Addr} {c1 : Nat} {gb1 : Nat} {r : (T_Dice × Int)} (h : m_made_Dice_Next d_p0 n_p1 = some r) :
    Fun Try.prog 22 [.pointer (some ⟨gb1, 0, none⟩), .int .i64 n_p1] [.ro (SlL ei64 A1 c1 d_p0.L), .res (Box gb1 86 [.slice A1 d_p0.L.length c1, .int .i64 d_p0.At])] (fun v_ F_ => ∃ (A2 : Option Addr) (c2 : Nat), v_ = .int .i64 r.2 ∧ F_ = [.ro (SlL ei64 A2 c2 r.1.L), .res (Box gb1 86 [.slice A2 r.1.L.length c2, .int .i64 r.1.At])]) := by
 unfold m_made_Dice_Next at h
 refine Fun.intro Try.func22 rfl rfl rfl fun w R => ?_;refine .ab [0,1] rfl ?_;refine .seq ?_;refine .seq ?_;refine .regionF mixed (by kernel_rfl) ?_;refine .n 3 rfl ?_;refine .loadB 1 rfl rfl (.tail _ (.head _)) rfl rfl ?_;refine .n 3 rfl ?_;refine .loadB 0 rfl rfl (.tail _ (.head _)) rfl rfl ?_;refine .bq [0,1,14] rfl ?_;refine .cb h rfl (fun h => ?_) (fun h => ?_)
 ·refine .ab [4] rfl ?_;cases h;exact .rt rfl Try.results22 (.tmp rfl .nil) rfl ⟨A1, c1, rfl, rfl⟩ (fun _ w => ((.k (.k (.d .z))) : Keep _ _).sat ((w.sd [1] [1] 0 rfl)))
 refine .sk ?_;refine .pr [0,1] rfl ?_;refine .a 3 rfl ?_;refine .loadB 1 rfl rfl (.tail _ (.head _)) rfl rfl ?_;refine .n 3 rfl ?_;refine .store 1 rfl rfl rfl rfl rfl rfl (.s .z) rfl ?_;refine .b [0,1] rfl ?_;refine .seq ?_;refine .regionF mixed (by kernel_rfl) ?_;refine .n 3 rfl ?_;refine .loadB 0 rfl rfl (.head _) rfl rfl ?_;refine .n 3 rfl ?_;refine .loadB 1 rfl rfl (.head _) rfl rfl ?_
 refine .p rfl rfl ?_;obtain ⟨x1, hx1, h⟩ := bnd_e h;refine .ixL hx1 rfl rfl rfl (.tail _ (.head _)) rfl rfl rfl rfl rfl fun b1 ob1 => ?_;refine .load ob1 0 rfl rfl (.head _) rfl rfl ?_;refine .p rfl rfl ?_;obtain ⟨r1, hr1, h⟩ := bnd_e h;refine .callV (c_made_Mod hr1) ent12 rfl rfl rfl rfl trivial ?_;refine .beq rfl ?_;refine .pf [4] [] 1 rfl rfl ?_;cases h
 exact .rt rfl Try.results22 (.tmp rfl .nil) rfl ⟨A1, c1, rfl, rfl⟩ (fun _ w => ((.k (.k (.d .z))) : Keep _ _).sat ((w.sd [1] [] 0 rfl)))
theorem ent59 : Ent Try.prog 59 := ⟨_, Try.func59, by kernel_rfl, by kernel_rfl⟩
noncomputable def m_made_Dice_Bool (d_p0 : T_Dice) (n_p1 : Int) : Option (T_Dice × Bool) :=
  bnd (m_made_Dice_Next d_p0 n_p1) fun r1 => some (r1.1, (r1.2 == (IntKind.wrap .i64 (n_p1 - 1))))
theorem c_made_Dice_Bool {d_p0 : T_Dice} {n_p1 : Int} {A1 : Option Addr} {c1 : Nat} {gb1 : Nat} {r : (T_Dice × Bool)} (h : m_made_Dice_Bool d_p0 n_p1 = some r) :
    Fun Try.prog 59 [.pointer (some ⟨gb1, 0, none⟩), .int .i64 n_p1] [.ro (SlL ei64 A1 c1 d_p0.L), .res (Box gb1 86 [.slice A1 d_p0.L.length c1, .int .i64 d_p0.At])] (fun v_ F_ => ∃ (A2 : Option Addr) (c2 : Nat), v_ = .bool r.2 ∧ F_ = [.ro (SlL ei64 A2 c2 r.1.L), .res (Box gb1 86 [.slice A2 r.1.L.length c2, .int .i64 r.1.At])]) := by
 unfold m_made_Dice_Bool at h
 refine Fun.intro Try.func59 rfl rfl rfl fun w R => ?_;refine .ab [0,1] rfl ?_;refine .a 2 rfl ?_;obtain ⟨r1, hr1, h⟩ := bnd_e h;refine .call (c_made_Dice_Next hr1) ent22 rfl rfl rfl (zd [1] [1] 0 rfl) ?_;rintro _ _ ⟨A2, c2, rfl, rfl⟩;refine .nm 3 rfl ?_;refine .bf [4] [0,0] 1 rfl rfl ?_;cases h
 exact .rt rfl Try.results59 (.tmp rfl .nil) rfl ⟨A2, c2, rfl, rfl⟩ (fun _ w => ((.k (.k (.d .z))) : Keep _ _).sat ((w.sd [1] [1] 0 rfl)))
theorem ent50 : Ent Try.prog 50 := ⟨_, Try.func50, by kernel_rfl, by kernel_rfl⟩
noncomputable def m_made_Dice_Byte (d_p0 : T_Dice) : Option (T_Dice × Int) :=
  bnd (m_made_Dice_Bool d_p0 3) fun r1 => bif r1.2 then (bnd (m_made_Dice_Next r1.1 8) fun r2 => bnd (elt ([0, 1, 127, 128, 254, 255, 15, 240]) r2.2) fun x1 => some (r2.1, x1)) else (bnd (m_made_Dice_Next r1.1 256) fun r3 => some (r3.1, IntKind.wrap .u8 r3.2))
theorem c_made_Dice_Byte {d_p0 : T_Dice} {A1 : Option Addr} {c1 : Nat} {gb1 : Nat} {r : (T_Dice × Int)} (h : m_made_Dice_Byte d_p0 = some r) :
    Fun Try.prog 50 [.pointer (some ⟨gb1, 0, none⟩)] [.ro (SlL ei64 A1 c1 d_p0.L), .res (Box gb1 86 [.slice A1 d_p0.L.length c1, .int .i64 d_p0.At])] (fun v_ F_ => ∃ (A2 : Option Addr) (c2 : Nat), v_ = .int .u8 r.2 ∧ F_ = [.ro (SlL ei64 A2 c2 r.1.L), .res (Box gb1 86 [.slice A2 r.1.L.length c2, .int .i64 r.1.At])]) := by
 unfold m_made_Dice_Byte at h
 refine Fun.intro Try.func50 rfl rfl rfl fun w R => ?_;refine .ab [0] rfl ?_;refine .a 1 rfl ?_;refine .alloc rfl rfl fun g1 => ?_;refine .store 0 rfl rfl rfl rfl rfl rfl .z rfl ?_;refine .asrt (fun _ w => w.litL (E := eu8) (e := 112) [0, 1, 127, 128, 254, 255, 15, 240] rfl rfl) ?_;refine .b [0,3] rfl ?_;refine .seq ?_;refine .a 1 rfl ?_;obtain ⟨r1, hr1, h⟩ := bnd_e h
 refine .call (c_made_Dice_Bool hr1) ent59 rfl rfl rfl (zd [2] [2] 0 rfl) ?_;rintro _ _ ⟨A2, c2, rfl, rfl⟩;refine .nm 4 rfl ?_;refine .bf [0,3,6] [0,0,0] 1 rfl rfl ?_;refine .cb h rfl (fun h => ?_) (fun h => ?_)
 ·refine .a 1 rfl ?_;obtain ⟨r2, hr2, h⟩ := bnd_e h;refine .call (c_made_Dice_Next hr2) ent22 rfl rfl rfl (zd [1] [1] 0 rfl) ?_;rintro _ _ ⟨A3, c3, rfl, rfl⟩;refine .nm 4 rfl ?_;obtain ⟨x1, hx1, h⟩ := bnd_e h;refine .ixA (sz := 1) hx1 rfl rfl rfl rfl rfl rfl rfl rfl ?_;refine .ldO 0 hx1 rfl rfl (zm 3 rfl) rfl rfl ?_;refine .bf [2] [0,0] 2 rfl rfl ?_;cases h
  exact .rt rfl Try.results50 (.tmp rfl .nil) rfl ⟨A3, c3, rfl, rfl⟩ (fun _ w => ((.k (.k (.d .z))) : Keep _ _).sat ((w.sd [1] [1] 0 rfl)))
 refine .sk ?_;refine .pf [0] [0,0] 1 rfl rfl ?_;refine .a 1 rfl ?_;obtain ⟨r3, hr3, h⟩ := bnd_e h;refine .call (c_made_Dice_Next hr3) ent22 rfl rfl rfl (zd [1] [1] 0 rfl) ?_;rintro _ _ ⟨A4, c4, rfl, rfl⟩;refine .nm 3 rfl ?_;refine .bf [2] [0,0] 1 rfl rfl ?_;cases h
 exact .rt rfl Try.results50 (.tmp rfl .nil) rfl ⟨A4, c4, rfl, rfl⟩ (fun _ w => ((.k (.k (.d .z))) : Keep _ _).sat ((w.sd [1] [1] 0 rfl)))
theorem ent23 : Ent Try.prog 23 := ⟨_, Try.func23, by kernel_rfl, by kernel_rfl⟩
noncomputable def m_made_Dice_Bytes (d_p0 : T_Dice) (n_p1 : Int) : Option (T_Dice × (List Int)) :=
  bnd (m_made_Dice_Next d_p0 (IntKind.wrap .i64 (n_p1 + 1))) fun r1 => bnd (loopM (τ := List Int × List Int × Int) (fun (s1 : List Int × Int × List Int × Int) => bif decide (s1.2.1 > 0) then (bnd (m_made_Dice_Byte (⟨s1.2.2.1, s1.2.2.2⟩ : T_Dice)) fun r2 => bnd (app 1 s1.1 [r2.2]) fun l1 => some (.next (l1, IntKind.wrap .i64 (s1.2.1 - 1), r2.1.L, r2.1.At))) else (some (.done (s1.1, s1.2.2.1, s1.2.2.2)))) ([], r1.2, r1.1.L, r1.1.At)) fun o1 => some ((⟨o1.2.1, o1.2.2⟩ : T_Dice), o1.1)
theorem c_made_Dice_Bytes {d_p0 : T_Dice} {n_p1 : Int} {A1 : Option Addr} {c1 : Nat} {gb1 : Nat} {r : (T_Dice × (List Int))} (h : m_made_Dice_Bytes d_p0 n_p1 = some r) :
    Fun Try.prog 23 [.pointer (some ⟨gb1, 0, none⟩), .int .i64 n_p1] [.ro (SlL ei64 A1 c1 d_p0.L), .res (Box gb1 86 [.slice A1 d_p0.L.length c1, .int .i64 d_p0.At])] (fun v_ F_ => ∃ (A2 : Option Addr) (c2 : Nat) (A3 : Option Addr) (c3 : Nat), v_ = .slice A3 r.2.length c3 ∧ F_ = [.ro (SlL ei64 A2 c2 r.1.L), .res (Box gb1 86 [.slice A2 r.1.L.length c2, .int .i64 r.1.At]), .res (OwnL eu8 5 A3 c3 r.2)]) := by
 unfold m_made_Dice_Bytes at h
 refine Fun.intro Try.func23 rfl rfl rfl fun w R => ?_;refine .ab [0,1] rfl ?_;refine .ae rfl ?_;refine .seq ?_;refine .a 3 rfl ?_;obtain ⟨r1, hr1, h⟩ := bnd_e h;refine .call (c_made_Dice_Next hr1) ent22 rfl rfl rfl (zd [1] [1] 0 rfl) ?_;rintro _ _ ⟨A2, c2, rfl, rfl⟩;refine .nm 3 rfl ?_;refine .bf [0,5,6] [0,0] 1 rfl rfl ?_;refine .asrt (fun _ w => w.nilL eu8 5) ?_;obtain ⟨o1, hl1, h⟩ := bnd_e h
 refine .cutE (fun (e2 : Option Addr × Nat × Option Addr × Nat) => [(5, .slice e2.1 o1.1.length e2.2.1)]) (fun e2 => .ro (SlL ei64 e2.2.2.1 e2.2.2.2 o1.2.1) :: .res (OwnL eu8 5 e2.1 e2.2.1 o1.1) :: .res (Box gb1 86 [.slice e2.2.2.1 o1.2.1.length e2.2.2.2, .int .i64 o1.2.2]) :: R) ?_ ?_
 ·refine .block ?_
  refine .loop hl1 (fun (s1 : List Int × Int × List Int × Int) (e1 : Option Addr × Nat × Option Addr × Nat) => [(0, .pointer (some ⟨gb1, 0, none⟩)), (5, .slice e1.1 s1.1.length e1.2.1), (6, .int .i64 s1.2.1)]) (fun s1 e1 => .ro (SlL ei64 e1.2.2.1 e1.2.2.2 s1.2.2.1) :: .res (OwnL eu8 5 e1.1 e1.2.1 s1.1) :: .res (Box gb1 86 [.slice e1.2.2.1 s1.2.2.1.length e1.2.2.2, .int .i64 s1.2.2.2]) :: R) (fun _ _ => True) (none, 0, A2, c2) trivial (zb rfl) (zl [1] 0 rfl) ?_
  rintro s1 ⟨A3, c3, A4, c4⟩ - hit1;obtain ⟨st1, hm1, hd1⟩ := iter_e hit1;have h1 := hm1;refine .seq ?_;refine .ab [0,5,6,12] rfl ?_;refine .cb h1 rfl (fun h1 => ?_) (fun h1 => ?_)
  ·refine .sk ?_;refine .pr [0,5,6] rfl ?_;refine .seq ?_;refine .block ?_;refine .region ?_;refine .n 2 rfl ?_;obtain ⟨r2, hr2, h1⟩ := bnd_e h1;refine .call (c_made_Dice_Byte hr2) ent50 rfl rfl rfl (zd [1] [2] 0 rfl) ?_;rintro _ _ ⟨A7, c7, rfl, rfl⟩;refine .nm 4 rfl ?_;refine .buildSlice rfl rfl rfl rfl rfl rfl rfl rfl fun g1 => ?_;obtain ⟨l1, hl1, h1⟩ := bnd_e h1
   refine .app (E := eu8) hl1 rfl rfl rfl (.s (.s (.s (.s .z)))) rfl rfl rfl rfl rfl rfl rfl rfl (srcB (.head _) rfl rfl) rfl rfl fun A8 c8 => ?_;refine .p rfl rfl ?_;refine .done ?_;refine .blkN ?_;refine .thenN ?_;refine .pf [0,5,6] [0,1,1] 2 rfl rfl ?_;refine .region ?_;cases h1;refine .be rfl ?_;exact .again _ (A8, c8, A7, c7) hm1 trivial (zb rfl) (zl [1] 0 rfl)
  refine .exit ?_;repeat (first | refine .thenX ?_ | refine .blkMiss rfl ?_)
  refine .blkHit ?_;cases h1;have ho := hd1 _ rfl;subst ho;refine .thenN ?_;exact .hereE (A3, c3, A4, c4) (zb rfl) (fun _ w => w)
 rintro ⟨A5, c5, A6, c6⟩;refine .ab [4] rfl ?_;cases h;exact .rt rfl Try.results23 (.tmp rfl .nil) rfl ⟨A6, c6, A5, c5, rfl, rfl⟩ (fun _ w => ((.k (.k (.k (.d .z)))) : Keep _ _).sat ((w.sd [2] [2,1] 0 rfl)))
theorem ent60 : Ent Try.prog 60 := ⟨_, Try.func60, by kernel_rfl, by kernel_rfl⟩
noncomputable def m_made_Dice_Value (d_p0 : T_Dice) : Option (T_Dice × (List Int)) :=
  bnd (m_made_Dice_Bool d_p0 30) fun r1 => bif r1.2 then (bnd (m_made_Dice_Next r1.1 2) fun r2 => bnd (mkS 1 0 (IntKind.wrap .i64 (28 + r2.2)) (IntKind.wrap .i64 (28 + r2.2))) fun l1 => some (r2.1, l1)) else (bnd (m_made_Dice_Bytes r1.1 6) fun r3 => some (r3.1, r3.2))
theorem c_made_Dice_Value {d_p0 : T_Dice} {A1 : Option Addr} {c1 : Nat} {gb1 : Nat} {r : (T_Dice × (List Int))} (h : m_made_Dice_Value d_p0 = some r) :
    Fun Try.prog 60 [.pointer (some ⟨gb1, 0, none⟩)] [.ro (SlL ei64 A1 c1 d_p0.L), .res (Box gb1 86 [.slice A1 d_p0.L.length c1, .int .i64 d_p0.At])] (fun v_ F_ => ∃ (A2 : Option Addr) (c2 : Nat) (A3 : Option Addr) (c3 : Nat), v_ = .slice A3 r.2.length c3 ∧ F_ = [.ro (SlL ei64 A2 c2 r.1.L), .res (Box gb1 86 [.slice A2 r.1.L.length c2, .int .i64 r.1.At]), .res (OwnL eu8 5 A3 c3 r.2)]) := by
 unfold m_made_Dice_Value at h
 refine Fun.intro Try.func60 rfl rfl rfl fun w R => ?_;refine .ab [0] rfl ?_;refine .seq ?_;refine .a 1 rfl ?_;obtain ⟨r1, hr1, h⟩ := bnd_e h;refine .call (c_made_Dice_Bool hr1) ent59 rfl rfl rfl (zd [1] [1] 0 rfl) ?_;rintro _ _ ⟨A2, c2, rfl, rfl⟩;refine .nm 3 rfl ?_;refine .bf [0,4] [0,0] 1 rfl rfl ?_;refine .cb h rfl (fun h => ?_) (fun h => ?_)
 ·refine .a 1 rfl ?_;obtain ⟨r2, hr2, h⟩ := bnd_e h;refine .call (c_made_Dice_Next hr2) ent22 rfl rfl rfl (zd [1] [1] 0 rfl) ?_;rintro _ _ ⟨A3, c3, rfl, rfl⟩;refine .nm 3 rfl ?_;refine .p rfl rfl ?_;obtain ⟨l1, hl1, h⟩ := bnd_e h;refine .mkL (E := eu8) 0 hl1 rfl rfl rfl rfl rfl rfl rfl rfl rfl rfl fun g1 => ?_;refine .bf [2] [0,0,0] 1 rfl rfl ?_;cases h
  exact .rt rfl Try.results60 (.tmp rfl .nil) rfl ⟨A3, c3, (some ⟨g1, 0, none⟩), (Int.toNat (IntKind.wrap .i64 (28 + r2.2))), rfl, rfl⟩ (fun _ w => ((.k (.k (.k (.d .z)))) : Keep _ _).sat ((w.sd [2] [2] 0 rfl)))
 refine .sk ?_;refine .pr [0] rfl ?_;refine .a 1 rfl ?_;obtain ⟨r3, hr3, h⟩ := bnd_e h;refine .call (c_made_Dice_Bytes hr3) ent23 rfl rfl rfl (zd [1] [1] 0 rfl) ?_;rintro _ _ ⟨A4, c4, A5, c5, rfl, rfl⟩;refine .nm 4 rfl ?_;refine .bf [2] [0,0,0] 1 rfl rfl ?_;cases h
 exact .rt rfl Try.results60 (.tmp rfl .nil) rfl ⟨A4, c4, A5, c5, rfl, rfl⟩ (fun _ w => ((.k (.k (.k (.d .z)))) : Keep _ _).sat ((w.sd [2] [1,1] 0 rfl)))
theorem ent38 : Ent Try.prog 38 := ⟨_, Try.func38, by kernel_rfl, by kernel_rfl⟩
noncomputable def m_made_Dice_Settings (d_p0 : T_Dice) (n_p1 : Int) : Option (T_Dice × (List T_Setting)) :=
  bnd (m_made_Dice_Next d_p0 6) fun r1 => bnd (m_made_Dice_Next r1.1 (IntKind.wrap .i64 (n_p1 + 1))) fun r2 => bnd (loopM (τ := List T_Setting × List Int × Int) (fun (s1 : List T_Setting × Int × Int × List Int × Int) => bif decide (s1.2.2.1 > 0) then (bnd ((bnd (m_made_Dice_Bool (⟨s1.2.2.2.1, s1.2.2.2.2⟩ : T_Dice) 4) fun r3 => bif r3.2 then (some ([], true, r3.1.L, r3.1.At)) else (bnd (m_made_Dice_Value r3.1) fun r4 => some (r4.2, false, r4.1.L, r4.1.At)) : Option (List Int × Bool × List Int × Int))) fun o2 => bnd ((bnd (m_made_Dice_Bool (⟨o2.2.2.1, o2.2.2.2⟩ : T_Dice) 40) fun r5 => bif r5.2 then (some (true, r5.1.L, r5.1.At)) else (some (o2.2.1, r5.1.L, r5.1.At)) : Option (Bool × List Int × Int))) fun o3 => bnd (app 40 s1.1 [(⟨IntKind.wrap .u8 s1.2.1, o2.1, o3.1⟩ : T_Setting)]) fun l1 => bnd (m_made_Dice_Next (⟨o3.2.1, o3.2.2⟩ : T_Dice) 3) fun r6 => bnd (m_made_Dice_Bool r6.1 40) fun r7 => bif r7.2 then (bnd (m_made_Dice_Next r7.1 6) fun r8 => some (.next (l1, r8.2, IntKind.wrap .i64 (s1.2.2.1 - 1), r8.1.L, r8.1.At))) else (some (.next (l1, IntKind.wrap .i64 (s1.2.1 + (IntKind.wrap .i64 (1 + r6.2))), IntKind.wrap .i64 (s1.2.2.1 - 1), r7.1.L, r7.1.At)))) else (some (.done (s1.1, s1.2.2.2.1, s1.2.2.2.2)))) ([], r1.2, r2.2, r2.1.L, r2.1.At)) fun o1 => some ((⟨o1.2.1, o1.2.2⟩ : T_Dice), o1.1)
theorem c_made_Dice_Settings {d_p0 : T_Dice} {n_p1 : Int} {A1 : Option Addr} {c1 : Nat} {gb1 : Nat} {r : (T_Dice × (List T_Setting))} (h : m_made_Dice_Settings d_p0 n_p1 = some r) :
    Fun Try.prog 38 [.pointer (some ⟨gb1, 0, none⟩), .int .i64 n_p1] [.ro (SlL ei64 A1 c1 d_p0.L), .res (Box gb1 86 [.slice A1 d_p0.L.length c1, .int .i64 d_p0.At])] (fun v_ F_ => ∃ (A2 : Option Addr) (c2 : Nat) (A3 : Option Addr) (c3 : Nat), v_ = .slice A3 r.2.length c3 ∧ F_ = [.ro (SlL ei64 A2 c2 r.1.L), .res (Box gb1 86 [.slice A2 r.1.L.length c2, .int .i64 r.1.At]), .res (OwnC (codL l_T_Setting) 39 A3 c3 r.2)]) := by
 unfold m_made_Dice_Settings at h
 refine Fun.intro Try.func38 rfl rfl rfl fun w R => ?_;refine .ab [0,1] rfl ?_;refine .ae rfl ?_;refine .a 1 rfl ?_;obtain ⟨r1, hr1, h⟩ := bnd_e h;refine .call (c_made_Dice_Next hr1) ent22 rfl rfl rfl (zd [1] [1] 0 rfl) ?_;rintro _ _ ⟨A2, c2, rfl, rfl⟩;refine .nm 3 rfl ?_;refine .bf [0,1,5,6] [0,0] 1 rfl rfl ?_;refine .seq ?_;refine .a 3 rfl ?_;obtain ⟨r2, hr2, h⟩ := bnd_e h
 refine .call (c_made_Dice_Next hr2) ent22 rfl rfl rfl (zd [1] [1] 0 rfl) ?_;rintro _ _ ⟨A3, c3, rfl, rfl⟩;refine .nm 3 rfl ?_;refine .bf [0,5,6,7] [0,0] 1 rfl rfl ?_;refine .asrt (fun _ w => w.nilC (codL l_T_Setting) 39) ?_;obtain ⟨o1, hl1, h⟩ := bnd_e h
 refine .cutE (fun (e2 : Option Addr × Nat × Option Addr × Nat) => [(5, .slice e2.1 o1.1.length e2.2.1)]) (fun e2 => .ro (SlL ei64 e2.2.2.1 e2.2.2.2 o1.2.1) :: .res (OwnC (codL l_T_Setting) 39 e2.1 e2.2.1 o1.1) :: .res (Box gb1 86 [.slice e2.2.2.1 o1.2.1.length e2.2.2.2, .int .i64 o1.2.2]) :: R) ?_ ?_
 ·refine .block ?_
  refine .loop hl1 (fun (s1 : List T_Setting × Int × Int × List Int × Int) (e1 : Option Addr × Nat × Option Addr × Nat) => [(0, .pointer (some ⟨gb1, 0, none⟩)), (5, .slice e1.1 s1.1.length e1.2.1), (6, .int .i64 s1.2.1), (7, .int .i64 s1.2.2.1)]) (fun s1 e1 => .ro (SlL ei64 e1.2.2.1 e1.2.2.2 s1.2.2.2.1) :: .res (OwnC (codL l_T_Setting) 39 e1.1 e1.2.1 s1.1) :: .res (Box gb1 86 [.slice e1.2.2.1 s1.2.2.2.1.length e1.2.2.2, .int .i64 s1.2.2.2.2]) :: R) (fun _ _ => True) (none, 0, A3, c3) trivial (zb rfl) (zl [1] 0 rfl) ?_
  rintro s1 ⟨A4, c4, A5, c5⟩ - hit1;obtain ⟨st1, hm1, hd1⟩ := iter_e hit1;have h1 := hm1;refine .seq ?_;refine .ab [0,5,6,7,16] rfl ?_;refine .cb h1 rfl (fun h1 => ?_) (fun h1 => ?_)
  ·refine .sk ?_;refine .pr [0,5,6,7] rfl ?_;refine .seq ?_;refine .block ?_;refine .a 3 rfl ?_;refine .alloc rfl rfl fun g1 => ?_;refine .store 0 rfl rfl rfl rfl rfl rfl .z rfl ?_;refine .b [0,5,6,7,8] rfl ?_;refine .seq ?_;obtain ⟨o2, hj1, h1⟩ := bnd_e h1
   refine .cutE (fun (e3 : Option Addr × Nat × Option Addr × Nat) => [(0, .pointer (some ⟨gb1, 0, none⟩)), (5, .slice A4 s1.1.length c4), (6, .int .i64 s1.2.1), (7, .int .i64 s1.2.2.1), (8, .pointer (some ⟨g1, 0, none⟩))]) (fun e3 => .ro (SlL ei64 e3.2.2.1 e3.2.2.2 o2.2.2.1) :: .res (OwnL eu8 5 e3.1 e3.2.1 o2.1) :: .res (Box g1 39 [.int .u8 (IntKind.wrap .u8 s1.2.1), .slice e3.1 o2.1.length e3.2.1, .bool o2.2.1]) :: .res (OwnC (codL l_T_Setting) 39 A4 c4 s1.1) :: .res (Box gb1 86 [.slice e3.2.2.1 o2.2.2.1.length e3.2.2.2, .int .i64 o2.2.2.2]) :: R) ?_ ?_
   ·refine .a 1 rfl ?_;obtain ⟨r3, hr3, hj1⟩ := bnd_e hj1;refine .call (c_made_Dice_Bool hr3) ent59 rfl rfl rfl (zd [2] [3] 0 rfl) ?_;rintro _ _ ⟨A10, c10, rfl, rfl⟩;refine .nm 5 rfl ?_;refine .bf [0,5,6,7,8,23] [0,0,0] 1 rfl rfl ?_;refine .cb hj1 rfl (fun hj1 => ?_) (fun hj1 => ?_)
    ·refine .region ?_;refine .p rfl rfl ?_;refine .store 2 rfl rfl rfl rfl rfl rfl (.s (.s .z)) rfl ?_;refine .done ?_;refine .asrt (fun _ w => w.nilL eu8 5) ?_;cases hj1;refine .thenN ?_;exact .hereE (none, 0, A10, c10) (zb rfl) (zl [2,0,0,1] 0 rfl)
    refine .region ?_;refine .p rfl rfl ?_;obtain ⟨r4, hr4, hj1⟩ := bnd_e hj1;refine .call (c_made_Dice_Value hr4) ent60 rfl rfl rfl (zd [1] [1] 0 rfl) ?_;rintro _ _ ⟨A11, c11, A12, c12, rfl, rfl⟩;refine .nm 6 rfl ?_;refine .p rfl rfl ?_;refine .store 1 rfl rfl rfl rfl rfl rfl (.s (.s (.s (.s .z)))) rfl ?_;refine .done ?_;cases hj1;refine .thenN ?_
    exact .hereE (A12, c12, A11, c11) (zb rfl) (zl [1,2,0,2,0] 1 rfl)
   rintro ⟨A8, c8, A9, c9⟩;refine .seq ?_;obtain ⟨o3, hj2, h1⟩ := bnd_e h1
   refine .cutE (fun (e4 : Option Addr × Nat) => [(0, .pointer (some ⟨gb1, 0, none⟩)), (5, .slice A4 s1.1.length c4), (6, .int .i64 s1.2.1), (7, .int .i64 s1.2.2.1), (8, .pointer (some ⟨g1, 0, none⟩))]) (fun e4 => .ro (SlL ei64 e4.1 e4.2 o3.2.1) :: .res (OwnL eu8 5 A8 c8 o2.1) :: .res (Box g1 39 [.int .u8 (IntKind.wrap .u8 s1.2.1), .slice A8 o2.1.length c8, .bool o3.1]) :: .res (OwnC (codL l_T_Setting) 39 A4 c4 s1.1) :: .res (Box gb1 86 [.slice e4.1 o3.2.1.length e4.2, .int .i64 o3.2.2]) :: R) ?_ ?_
   ·refine .a 1 rfl ?_;obtain ⟨r5, hr5, hj2⟩ := bnd_e hj2;refine .call (c_made_Dice_Bool hr5) ent59 rfl rfl rfl (zd [1] [4] 0 rfl) ?_;rintro _ _ ⟨A14, c14, rfl, rfl⟩;refine .nm 6 rfl ?_;refine .bf [0,5,6,7,8,29] [0,0] 1 rfl rfl ?_;refine .cb hj2 rfl (fun hj2 => ?_) (fun hj2 => ?_)
    ·refine .region ?_;refine .p rfl rfl ?_;refine .store 2 rfl rfl rfl rfl rfl rfl (.s (.s (.s .z))) rfl ?_;refine .done ?_;cases hj2;refine .thenN ?_;exact .hereE (A14, c14) (zb rfl) (zl [1,2,0,1] 0 rfl)
    cases hj2;refine .sk ?_;exact .hereE (A14, c14) (zb rfl) (zl [0,1,1,1] 0 rfl)
   rintro ⟨A13, c13⟩;refine .a 1 rfl ?_;refine .loadB 0 rfl rfl (zm 2 rfl) rfl rfl ?_;refine .buildSlice rfl rfl rfl rfl rfl rfl rfl rfl fun g2 => ?_;obtain ⟨l1, hl1, h1⟩ := bnd_e h1;refine .asrt (fun _ w => (w.sl [2] 0 rfl).meltL) ?_
   refine .appC (E := (codL l_T_Setting)) hl1 rfl rfl rfl (.s (.s (.s (.s .z)))) rfl rfl rfl rfl rfl rfl rfl rfl (srcBC (ls := l_T_Setting) [((⟨IntKind.wrap .u8 s1.2.1, o2.1, o3.1⟩ : T_Setting), ((A8, c8), ()))] (.tail _ (.head _)) rfl rfl rfl ⟨(.head _), trivial⟩) rfl rfl fun A15 c15 => ?_;refine .bf [0,5,6,7] [0,2] 3 rfl rfl ?_;refine .a 2 rfl ?_;obtain ⟨r6, hr6, h1⟩ := bnd_e h1
   refine .call (c_made_Dice_Next hr6) ent22 rfl rfl rfl (zd [2] [2] 0 rfl) ?_;rintro _ _ ⟨A16, c16, rfl, rfl⟩;refine .nm 4 rfl ?_;refine .bf [0,5,6,7] [0,0,0] 1 rfl rfl ?_;refine .a 1 rfl ?_;obtain ⟨r7, hr7, h1⟩ := bnd_e h1;refine .call (c_made_Dice_Bool hr7) ent59 rfl rfl rfl (zd [1] [1] 0 rfl) ?_;rintro _ _ ⟨A17, c17, rfl, rfl⟩;refine .nm 4 rfl ?_;refine .bf [0,5,6,7,41] [0,0] 1 rfl rfl ?_
   refine .cb h1 rfl (fun h1 => ?_) (fun h1 => ?_)
   ·refine .region ?_;refine .p rfl rfl ?_;obtain ⟨r8, hr8, h1⟩ := bnd_e h1;refine .call (c_made_Dice_Next hr8) ent22 rfl rfl rfl (zd [1] [1] 0 rfl) ?_;rintro _ _ ⟨A18, c18, rfl, rfl⟩;refine .nm 4 rfl ?_;refine .p rfl rfl ?_;refine .done ?_;refine .blkN ?_;refine .thenN ?_;refine .pf [0,5,6,7] [0,0] 1 rfl rfl ?_;refine .region ?_;cases h1;refine .be rfl ?_
    exact .again _ (A15, c15, A18, c18) hm1 trivial (zb rfl) (zl [0,1] 0 rfl)
   refine .skip ?_;refine .blkN ?_;refine .thenN ?_;refine .pr [0,5,6,7] rfl ?_;refine .region ?_;cases h1;refine .be rfl ?_;exact .again _ (A15, c15, A17, c17) hm1 trivial (zb rfl) (zl [0,1] 0 rfl)
  refine .exit ?_;repeat (first | refine .thenX ?_ | refine .blkMiss rfl ?_)
  refine .blkHit ?_;cases h1;have ho := hd1 _ rfl;subst ho;refine .thenN ?_;exact .hereE (A4, c4, A5, c5) (zb rfl) (fun _ w => w)
 rintro ⟨A6, c6, A7, c7⟩;refine .ab [4] rfl ?_;cases h;exact .rt rfl Try.results38 (.tmp rfl .nil) rfl ⟨A7, c7, A6, c6, rfl, rfl⟩ (fun _ w => ((.k (.k (.k (.d .z)))) : Keep _ _).sat ((w.sd [2] [2,1] 0 rfl)))
theorem ent61 : Ent Try.prog 61 := ⟨_, Try.func61, by kernel_rfl, by kernel_rfl⟩
noncomputable def m_ref01_Copy (b_p0 : (List Int)) : Option (List Int) :=
  bnd (loopM (τ := List Int) (fun (s1 : List Int × Int) => bif decide (s1.2 < (b_p0.length : Int)) then (bnd (elt b_p0 s1.2) fun x1 => bnd (app 1 s1.1 [x1]) fun l1 => some (.next (l1, IntKind.wrap .i64 (s1.2 + 1)))) else (some (.done s1.1))) ([], 0)) fun o1 => some o1
theorem c_ref01_Copy {b_p0 : (List Int)} {A1 : Option Addr} {c1 : Nat} {r : (List Int)} (h : m_ref01_Copy b_p0 = some r) :
    Fun Try.prog 61 [.slice A1 b_p0.length c1] [.ro (SlL eu8 A1 c1 b_p0)] (fun v_ F_ => ∃ (A2 : Option Addr) (c2 : Nat), v_ = .slice A2 r.length c2 ∧ F_ = [.res (OwnL eu8 5 A2 c2 r)]) := by
 unfold m_ref01_Copy at h
 refine Fun.intro Try.func61 rfl rfl rfl fun w R => ?_;refine .ab [0] rfl ?_;refine .ae rfl ?_;refine .seq ?_;refine .ae rfl ?_;refine .asrt (fun _ w => w.nilL eu8 5) ?_;obtain ⟨o1, hl1, h⟩ := bnd_e h;refine .cutE (fun (e2 : Option Addr × Nat) => [(3, .slice e2.1 o1.length e2.2)]) (fun e2 => .res (OwnL eu8 5 e2.1 e2.2 o1) :: R) ?_ ?_
 ·refine .block ?_;refine .loop hl1 (fun (s1 : List Int × Int) (e1 : Option Addr × Nat) => [(0, .slice A1 b_p0.length c1), (3, .slice e1.1 s1.1.length e1.2), (4, .int .i64 s1.2)]) (fun s1 e1 => .res (OwnL eu8 5 e1.1 e1.2 s1.1) :: .ro (SlL eu8 A1 c1 b_p0) :: R) (fun _ _ => True) (none, 0) trivial (zb rfl) (fun _ w => w) ?_;rintro s1 ⟨A2, c2⟩ - hit1;obtain ⟨st1, hm1, hd1⟩ := iter_e hit1
  have h1 := hm1;refine .seq ?_;refine .ab [0,3,4,8] rfl ?_;refine .cb h1 rfl (fun h1 => ?_) (fun h1 => ?_)
  ·refine .sk ?_;refine .pr [0,3,4] rfl ?_;refine .seq ?_;refine .block ?_;refine .region ?_;refine .n 3 rfl ?_;obtain ⟨x1, hx1, h1⟩ := bnd_e h1;refine .ixL hx1 rfl rfl rfl (.tail _ (.head _)) rfl rfl rfl rfl rfl fun b1 ob1 => ?_;refine .load ob1 0 rfl rfl (.head _) rfl rfl ?_;refine .buildSlice rfl rfl rfl rfl rfl rfl rfl rfl fun g1 => ?_;obtain ⟨l1, hl1, h1⟩ := bnd_e h1
   refine .app (E := eu8) hl1 rfl rfl rfl (.s (.s .z)) rfl rfl rfl rfl rfl rfl rfl rfl (srcB (.head _) rfl rfl) rfl rfl fun A4 c4 => ?_;refine .p rfl rfl ?_;refine .done ?_;refine .blkN ?_;refine .thenN ?_;refine .pf [0,3,4] [0] 2 rfl rfl ?_;refine .region ?_;cases h1;refine .be rfl ?_;exact .again _ (A4, c4) hm1 trivial (zb rfl) (fun _ w => w)
  refine .exit ?_;repeat (first | refine .thenX ?_ | refine .blkMiss rfl ?_)
  refine .blkHit ?_;cases h1;have ho := hd1 _ rfl;subst ho;refine .thenN ?_;exact .hereE (A2, c2) (zb rfl) (zl [0] 1 rfl)
 rintro ⟨A3, c3⟩;refine .ab [2] rfl ?_;cases h;exact .rt rfl Try.results61 (.tmp rfl .nil) rfl ⟨A3, c3, rfl, rfl⟩ (fun _ w => w)
theorem ent39 : Ent Try.prog 39 := ⟨_, Try.func39, by kernel_rfl, by kernel_rfl⟩
noncomputable def m_ref06_Copy (l_p0 : (List T_Setting)) : Option (List T_Setting) :=
  bnd (loopM (τ := List T_Setting) (fun (s1 : List T_Setting × Int) => bif decide (s1.2 < (l_p0.length : Int)) then (bnd (elt l_p0 s1.2) fun x1 => bnd (m_ref01_Copy x1.Value) fun r1 => bnd (app 40 s1.1 [(⟨x1.Key, r1, x1.Delete⟩ : T_Setting)]) fun l1 => some (.next (l1, IntKind.wrap .i64 (s1.2 + 1)))) else (some (.done s1.1))) ([], 0)) fun o1 => some o1
theorem c_ref06_Copy {l_p0 : (List T_Setting)} {A1 : Option Addr} {c1 : Nat} {r : (List T_Setting)} (h : m_ref06_Copy l_p0 = some r) :
    Fun Try.prog 39 [.slice A1 l_p0.length c1] [.ro (Sl (codL l_T_Setting) A1 c1 l_p0)] (fun v_ F_ => ∃ (A2 : Option Addr) (c2 : Nat), v_ = .slice A2 r.length c2 ∧ F_ = [.res (OwnC (codL l_T_Setting) 39 A2 c2 r)]) := by
 unfold m_ref06_Copy at h
 refine Fun.intro Try.func39 rfl rfl rfl fun w R => ?_;refine .ab [0] rfl ?_;refine .ae rfl ?_;refine .seq ?_;refine .ae rfl ?_;refine .asrt (fun _ w => w.nilC (codL l_T_Setting) 39) ?_;obtain ⟨o1, hl1, h⟩ := bnd_e h;refine .cutE (fun (e2 : Option Addr × Nat) => [(3, .slice e2.1 o1.length e2.2)]) (fun e2 => .res (OwnC (codL l_T_Setting) 39 e2.1 e2.2 o1) :: R) ?_ ?_
 ·refine .block ?_;refine .loop hl1 (fun (s1 : List T_Setting × Int) (e1 : Option Addr × Nat) => [(0, .slice A1 l_p0.length c1), (3, .slice e1.1 s1.1.length e1.2), (4, .int .i64 s1.2)]) (fun s1 e1 => .res (OwnC (codL l_T_Setting) 39 e1.1 e1.2 s1.1) :: .ro (Sl (codL l_T_Setting) A1 c1 l_p0) :: R) (fun _ _ => True) (none, 0) trivial (zb rfl) (fun _ w => w) ?_;rintro s1 ⟨A2, c2⟩ - hit1
  obtain ⟨st1, hm1, hd1⟩ := iter_e hit1;have h1 := hm1;refine .seq ?_;refine .ab [0,3,4,8] rfl ?_;refine .cb h1 rfl (fun h1 => ?_) (fun h1 => ?_)
  ·refine .sk ?_;refine .pr [0,3,4] rfl ?_;refine .seq ?_;refine .block ?_;obtain ⟨x1, hx1, h1⟩ := bnd_e h1;refine .openN (.tail _ (.head _)) hx1 fun b1 ob1 ex1 hqb1 => ?_;obtain ⟨⟨A4, c4⟩, _⟩ := ex1;refine .nm 4 rfl ?_
   refine .regionX (iL [(.fl, 0), (.fl, 1), (.fl, 2), (.fl, 3), (.fl, 4), (.fl, 5), (.fl, 6), (.fl, 7), (.fx, 8), (.fl, 9), (.fx, 10), (.fl, 12), (.fl, 13), (.fl, 14), (.fl, 15), (.fl, 16), (.ef, 11), (.fl, 17), (.ef, 18), (.ef, 19), (.fl, 20)] .nil) (.ro (Cells b1 ob1 [.int .u8 x1.Key, .slice A4 x1.Value.length c4, .bool x1.Delete]) :: .ro (SlL eu8 A4 c4 x1.Value) :: .ro (Sl (codL l_T_Setting) A1 c1 l_p0) :: R) mixed (by kernel_rfl) (zl [0,0] 1 rfl) ?_
   refine .xn 3 rfl ?_;refine .xfl (fun _ h => h) (Rd.ixN hqb1 hx1 rfl rfl rfl rfl rfl rfl rfl) rfl ?_;refine .xfl (fun _ h => h) (Rd.p rfl) rfl ?_;refine .xfl (fun _ h => h) (Rd.load ob1 0 rfl (.head _) rfl rfl) rfl ?_;refine .xn 2 rfl ?_;refine .xfx (Rd.ixN hqb1 hx1 rfl rfl rfl rfl rfl rfl rfl) rfl ?_;refine .xfl (fun _ h => h) (Rd.p rfl) rfl ?_
   refine .xfx (Rd.load ob1 1 rfl (.head _) rfl rfl) rfl ?_;refine .xn 2 rfl ?_;refine .xfl (fun _ h => h) (Rd.ixN hqb1 hx1 rfl rfl rfl rfl rfl rfl rfl) rfl ?_;refine .xfl (fun _ h => h) (Rd.p rfl) rfl ?_;refine .xfl (fun _ h => h) (Rd.load ob1 2 rfl (.head _) rfl rfl) rfl ?_;refine .xef ?_;obtain ⟨r1, hr1, h1⟩ := bnd_e h1;refine .call (c_ref01_Copy hr1) ent61 rfl rfl rfl (zd [1] [] 0 rfl) ?_
   rintro _ _ ⟨A5, c5, rfl, rfl⟩;refine .nm 5 rfl ?_;refine .xk (zl [1,1] 2 rfl) ?_;refine .xfl (fun _ h => h) (Rd.p rfl) rfl ?_;refine .xef ?_;refine .buildSlice rfl rfl rfl rfl rfl rfl rfl rfl fun g1 => ?_;refine .xk (zl [2,2] 3 rfl) ?_;refine .xef ?_;obtain ⟨l1, hl1, h1⟩ := bnd_e h1;refine .asrt (fun _ w => (w.sl [1] 0 rfl).meltL) ?_
   refine .appC (E := (codL l_T_Setting)) hl1 rfl rfl rfl (.s (.s (.s (.s .z)))) rfl rfl rfl rfl rfl rfl rfl rfl (srcBC (ls := l_T_Setting) [((⟨x1.Key, r1, x1.Delete⟩ : T_Setting), ((A5, c5), ()))] (.tail _ (.head _)) rfl rfl rfl ⟨(.head _), trivial⟩) rfl rfl fun A6 c6 => ?_;refine .xk (zl [] 3 rfl) ?_;refine .xfl (fun _ h => h) (Rd.p rfl) rfl ?_;refine .xdone ?_;refine .blkN ?_;refine .thenN ?_
   refine .pf [0,3,4] [0] 4 rfl rfl ?_;refine .region ?_;cases h1;refine .be rfl ?_;exact .again _ (A6, c6) hm1 trivial (zb rfl) (fun _ w => w)
  refine .exit ?_;repeat (first | refine .thenX ?_ | refine .blkMiss rfl ?_)
  refine .blkHit ?_;cases h1;have ho := hd1 _ rfl;subst ho;refine .thenN ?_;exact .hereE (A2, c2) (zb rfl) (zl [0] 1 rfl)
 rintro ⟨A3, c3⟩;refine .ab [2] rfl ?_;cases h;exact .rt rfl Try.results39 (.tmp rfl .nil) rfl ⟨A3, c3, rfl, rfl⟩ (fun _ w => w)
theorem ent51 : Ent Try.prog 51 := ⟨_, Try.func51, by kernel_rfl, by kernel_rfl⟩
noncomputable def m_ref06_Apply (l_p0 : (List T_Setting)) (c_p1 : T_Setting) : Option (List T_Setting) :=
  bnd (loopM (τ := List T_Setting × Bool) (fun (s1 : List T_Setting × Bool × Int) => bif decide (s1.2.2 < (l_p0.length : Int)) then (bnd ((bnd ((bif !s1.2.1 then (bnd (elt l_p0 s1.2.2) fun x1 => some (decide (c_p1.Key < x1.Key))) else (some false) : Option Bool)) fun o3 => bif o3 then (bnd (app 40 s1.1 [c_p1]) fun l1 => some (l1, true)) else (some (s1.1, s1.2.1)) : Option (List T_Setting × Bool))) fun o2 => bnd (elt l_p0 s1.2.2) fun x2 => bif (x2.Key != c_p1.Key) then (bnd (app 40 o2.1 [x2]) fun l2 => some (.next (l2, o2.2, IntKind.wrap .i64 (s1.2.2 + 1)))) else (bif !o2.2 then (bnd (app 40 o2.1 [c_p1]) fun l3 => some (.next (l3, true, IntKind.wrap .i64 (s1.2.2 + 1)))) else (some (.next (o2.1, o2.2, IntKind.wrap .i64 (s1.2.2 + 1)))))) else (some (.done (s1.1, s1.2.1)))) ([], c_p1.Delete, 0)) fun o1 => bif !o1.2 then (bnd (app 40 o1.1 [c_p1]) fun l4 => some l4) else (some o1.1)
set_option maxHeartbeats 4000000 in
theorem c_ref06_Apply {l_p0 : (List T_Setting)} {c_p1 : T_Setting} {A1 : Option Addr} {c1 : Nat} {A2 : Option Addr} {c2 : Nat} {r : (List T_Setting)} (h : m_ref06_Apply l_p0 c_p1 = some r) :
    Fun Try.prog 51 [.slice A1 l_p0.length c1, .agg #[.int .u8 c_p1.Key, .slice A2 c_p1.Value.length c2, .bool c_p1.Delete]] [.ro (Sl (codL l_T_Setting) A1 c1 l_p0), .ro (SlL eu8 A2 c2 c_p1.Value)] (fun v_ F_ => ∃ (A3 : Option Addr) (c3 : Nat), v_ = .slice A3 r.length c3 ∧ F_ = [.res (OwnC (codL l_T_Setting) 39 A3 c3 r)]) := by
 unfold m_ref06_Apply at h
 refine Fun.intro Try.func51 rfl rfl rfl fun w R => ?_;refine .seq ?_;refine .region ?_;refine .box rfl rfl fun g1 => ?_;refine .b [0,3] rfl ?_;refine .ae rfl ?_;refine .a 1 rfl ?_;refine .loadB 2 rfl rfl (.head _) rfl rfl ?_;refine .b [0,3,5,6] rfl ?_;refine .seq ?_;refine .ae rfl ?_;refine .asrt (fun _ w => w.nilC (codL l_T_Setting) 39) ?_;obtain ⟨o1, hl1, h⟩ := bnd_e h
 refine .cutE (fun (e2 : Option Addr × Nat) => [(3, .pointer (some ⟨g1, 0, none⟩)), (5, .slice e2.1 o1.1.length e2.2), (6, .bool o1.2)]) (fun e2 => .res (OwnC (codL l_T_Setting) 39 e2.1 e2.2 o1.1) :: .res (Box g1 39 [.int .u8 c_p1.Key, .slice A2 c_p1.Value.length c2, .bool c_p1.Delete]) :: .ro (SlL eu8 A2 c2 c_p1.Value) :: R) ?_ ?_
 ·refine .block ?_
  refine .loop hl1 (fun (s1 : List T_Setting × Bool × Int) (e1 : Option Addr × Nat) => [(0, .slice A1 l_p0.length c1), (3, .pointer (some ⟨g1, 0, none⟩)), (5, .slice e1.1 s1.1.length e1.2), (6, .bool s1.2.1), (7, .int .i64 s1.2.2)]) (fun s1 e1 => .res (OwnC (codL l_T_Setting) 39 e1.1 e1.2 s1.1) :: .res (Box g1 39 [.int .u8 c_p1.Key, .slice A2 c_p1.Value.length c2, .bool c_p1.Delete]) :: .ro (Sl (codL l_T_Setting) A1 c1 l_p0) :: .ro (SlL eu8 A2 c2 c_p1.Value) :: R) (fun _ _ => True) (none, 0) trivial (zb rfl) (fun _ w => w) ?_
  rintro s1 ⟨A3, c3⟩ - hit1;obtain ⟨st1, hm1, hd1⟩ := iter_e hit1;have h1 := hm1;refine .seq ?_;refine .ab [0,3,5,6,7,13] rfl ?_;refine .cb h1 rfl (fun h1 => ?_) (fun h1 => ?_)
  ·refine .sk ?_;refine .pr [0,3,5,6,7] rfl ?_;refine .seq ?_;refine .block ?_;refine .seq ?_;obtain ⟨o2, hj1, h1⟩ := bnd_e h1
   refine .cutE (fun (e3 : Option Addr × Nat) => [(0, .slice A1 l_p0.length c1), (3, .pointer (some ⟨g1, 0, none⟩)), (5, .slice e3.1 o2.1.length e3.2), (6, .bool o2.2), (7, .int .i64 s1.2.2)]) (fun e3 => .res (OwnC (codL l_T_Setting) 39 e3.1 e3.2 o2.1) :: .res (Box g1 39 [.int .u8 c_p1.Key, .slice A2 c_p1.Value.length c2, .bool c_p1.Delete]) :: .ro (Sl (codL l_T_Setting) A1 c1 l_p0) :: .ro (SlL eu8 A2 c2 c_p1.Value) :: R) ?_ ?_
   ·refine .seq ?_;obtain ⟨o3, hj2, hj1⟩ := bnd_e hj1
    refine .cutE (fun (e4 : Unit) => [(0, .slice A1 l_p0.length c1), (3, .pointer (some ⟨g1, 0, none⟩)), (5, .slice A3 s1.1.length c3), (6, .bool s1.2.1), (7, .int .i64 s1.2.2), (27, .bool o3)]) (fun e4 => .res (OwnC (codL l_T_Setting) 39 A3 c3 s1.1) :: .res (Box g1 39 [.int .u8 c_p1.Key, .slice A2 c_p1.Value.length c2, .bool c_p1.Delete]) :: .ro (Sl (codL l_T_Setting) A1 c1 l_p0) :: .ro (SlL eu8 A2 c2 c_p1.Value) :: R) ?_ ?_
    ·refine .regionF mixed (by kernel_rfl) ?_;refine .n 3 rfl ?_;refine .gSplit (dj := 18) _ rfl (fun hb2 => ?_) (fun hb2 => ?_)
     ·replace hj2 := bif_t hb2 hj2;refine .n 1 rfl ?_;refine .gOn (dj := 18) rfl rfl ?_;refine .loadB 0 rfl rfl (.tail _ (.head _)) rfl rfl ?_;refine .n 2 rfl ?_;refine .gOn (dj := 18) rfl rfl ?_;obtain ⟨x1, hx1, hj2⟩ := bnd_e hj2;refine .ixN hx1 rfl rfl rfl (zm 2 rfl) rfl rfl rfl rfl rfl fun b1 ob1 ex1 => ?_;obtain ⟨⟨A6, c6⟩, _⟩ := ex1;refine .nm 6 rfl ?_;refine .n 1 rfl ?_
      refine .gOn (dj := 18) rfl rfl ?_;refine .load ob1 0 rfl rfl (.head _) rfl rfl ?_;cases hj2;refine .beq rfl ?_;exact .hereE () (zb rfl) (zl [] 2 rfl)
     replace hj2 := bif_f hb2 hj2;cases hj2;refine .beq rfl ?_;exact .hereE () (zb rfl) (fun _ w => w)
    rintro e4;refine .cb hj1 rfl (fun hj1 => ?_) (fun hj1 => ?_)
    ·refine .a 1 rfl ?_;refine .loadB 0 rfl rfl (.tail _ (.head _)) rfl rfl ?_;refine .buildSlice rfl rfl rfl rfl rfl rfl rfl rfl fun g2 => ?_;obtain ⟨l1, hl1, hj1⟩ := bnd_e hj1;refine .appC (E := (codL l_T_Setting)) hl1 rfl rfl rfl (.s .z) rfl rfl rfl rfl rfl rfl rfl rfl (srcBC (ls := l_T_Setting) [(c_p1, ((A2, c2), ()))] (.head _) rfl rfl rfl ⟨(zm 4 rfl), trivial⟩) rfl rfl fun A7 c7 => ?_
     refine .bf [0,3,5,7] [0] 1 rfl rfl ?_;refine .region ?_;cases hj1;refine .be rfl ?_;exact .hereE (A7, c7) (zb rfl) (fun _ w => w)
    cases hj1;refine .sk ?_;exact .hereE (A3, c3) (zb rfl) (fun _ w => w)
   rintro ⟨A5, c5⟩;refine .seq ?_;refine .seq ?_;refine .regionF mixed (by kernel_rfl) ?_;refine .n 2 rfl ?_;obtain ⟨x2, hx2, h1⟩ := bnd_e h1;refine .ixN hx2 rfl rfl rfl (zm 2 rfl) rfl rfl rfl rfl rfl fun b2 ob2 ex2 => ?_;obtain ⟨⟨A8, c8⟩, _⟩ := ex2;refine .nm 6 rfl ?_;refine .p rfl rfl ?_;refine .load ob2 0 rfl rfl (.head _) rfl rfl ?_;refine .p rfl rfl ?_
   refine .loadB 0 rfl rfl (zm 3 rfl) rfl rfl ?_;refine .beq rfl ?_;refine .pf [0,3,5,6,7,39] [] 2 rfl rfl ?_;refine .cb h1 rfl (fun h1 => ?_) (fun h1 => ?_)
   ·refine .a 3 rfl ?_;refine .ixN hx2 rfl rfl rfl (zm 2 rfl) rfl rfl rfl rfl rfl fun b3 ob3 ex3 => ?_;obtain ⟨⟨A9, c9⟩, _⟩ := ex3;refine .nm 6 rfl ?_;refine .load ob3 0 rfl rfl (.head _) rfl rfl ?_;refine .buildSlice rfl rfl rfl rfl rfl rfl rfl rfl fun g3 => ?_;obtain ⟨l2, hl2, h1⟩ := bnd_e h1
    refine .appC (E := (codL l_T_Setting)) hl2 rfl rfl rfl (.s (.s (.s .z))) rfl rfl rfl rfl rfl rfl rfl rfl (srcBC (ls := l_T_Setting) [(x2, ((A9, c9), ()))] (.head _) rfl rfl rfl ⟨(zm 2 rfl), trivial⟩) rfl rfl fun A10 c10 => ?_;refine .bf [0,3,5,6,7] [0] 3 rfl rfl ?_;refine .exit ?_;repeat (first | refine .thenX ?_ | refine .blkMiss rfl ?_)
    refine .blkHit ?_;refine .thenN ?_;refine .region ?_;cases h1;refine .be rfl ?_;exact .again _ (A10, c10) hm1 trivial (zb rfl) (fun _ w => w)
   refine .sk ?_;refine .pr [0,3,5,6,7] rfl ?_;refine .ab [0,3,5,6,7,48] rfl ?_;refine .cb h1 rfl (fun h1 => ?_) (fun h1 => ?_)
   ·refine .a 1 rfl ?_;refine .loadB 0 rfl rfl (.tail _ (.head _)) rfl rfl ?_;refine .buildSlice rfl rfl rfl rfl rfl rfl rfl rfl fun g4 => ?_;obtain ⟨l3, hl3, h1⟩ := bnd_e h1;refine .appC (E := (codL l_T_Setting)) hl3 rfl rfl rfl (.s .z) rfl rfl rfl rfl rfl rfl rfl rfl (srcBC (ls := l_T_Setting) [(c_p1, ((A2, c2), ()))] (.head _) rfl rfl rfl ⟨(zm 4 rfl), trivial⟩) rfl rfl fun A11 c11 => ?_
    refine .bf [0,3,5,7] [0] 1 rfl rfl ?_;refine .region ?_;refine .p rfl rfl ?_;refine .done ?_;refine .blkN ?_;refine .thenN ?_;refine .region ?_;cases h1;refine .be rfl ?_;exact .again _ (A11, c11) hm1 trivial (zb rfl) (fun _ w => w)
   refine .skip ?_;refine .blkN ?_;refine .thenN ?_;refine .pr [0,3,5,6,7] rfl ?_;refine .region ?_;cases h1;refine .be rfl ?_;exact .again _ (A5, c5) hm1 trivial (zb rfl) (fun _ w => w)
  refine .exit ?_;repeat (first | refine .thenX ?_ | refine .blkMiss rfl ?_)
  refine .blkHit ?_;cases h1;have ho := hd1 _ rfl;subst ho;refine .thenN ?_;exact .hereE (A3, c3) (zb rfl) (zl [0,0] 1 rfl)
 rintro ⟨A4, c4⟩;refine .seq ?_;refine .ab [3,5,54] rfl ?_;refine .cb h rfl (fun h => ?_) (fun h => ?_)
 ·refine .region ?_;refine .p rfl rfl ?_;refine .loadB 0 rfl rfl (.tail _ (.head _)) rfl rfl ?_;refine .buildSlice rfl rfl rfl rfl rfl rfl rfl rfl fun g5 => ?_;obtain ⟨l4, hl4, h⟩ := bnd_e h
  refine .appC (E := (codL l_T_Setting)) hl4 rfl rfl rfl (.s .z) rfl rfl rfl rfl rfl rfl rfl rfl (srcBC (ls := l_T_Setting) [(c_p1, ((A2, c2), ()))] (.head _) rfl rfl rfl ⟨(zm 3 rfl), trivial⟩) rfl rfl fun A12 c12 => ?_;refine .bf [5] [0] 3 rfl rfl ?_;refine .ab [4] rfl ?_;cases h;exact .rt rfl Try.results51 (.tmp rfl .nil) rfl ⟨A12, c12, rfl, rfl⟩ (fun _ w => w)
 refine .sk ?_;refine .pf [5] [0] 2 rfl rfl ?_;refine .ab [4] rfl ?_;cases h;exact .rt rfl Try.results51 (.tmp rfl .nil) rfl ⟨A4, c4, rfl, rfl⟩ (fun _ w => w)
theorem ent24 : Ent Try.prog 24 := ⟨_, Try.func24, by kernel_rfl, by kernel_rfl⟩
noncomputable def m_ref06_ApplyAll (l_p0 : (List T_Setting)) (changes : (List T_Setting)) : Option (List T_Setting) :=
  bnd (loopM (τ := List T_Setting) (fun (s1 : List T_Setting × Int) => bif decide (s1.2 < (changes.length : Int)) then (bnd (elt changes s1.2) fun x1 => bnd (m_ref06_Apply s1.1 x1) fun r1 => some (.next (r1, IntKind.wrap .i64 (s1.2 + 1)))) else (some (.done s1.1))) (l_p0, 0)) fun o1 => some o1
theorem c_ref06_ApplyAll {l_p0 : (List T_Setting)} {changes : (List T_Setting)} {A1 : Option Addr} {c1 : Nat} {A2 : Option Addr} {c2 : Nat} {r : (List T_Setting)} (h : m_ref06_ApplyAll l_p0 changes = some r) :
    Fun Try.prog 24 [.slice A1 l_p0.length c1, .slice A2 changes.length c2] [.ro (Sl (codL l_T_Setting) A1 c1 l_p0), .ro (Sl (codL l_T_Setting) A2 c2 changes)] (fun v_ F_ => ∃ (A3 : Option Addr) (c3 : Nat), v_ = .slice A3 r.length c3 ∧ F_ = [.ro (Sl (codL l_T_Setting) A3 c3 r)]) := by
 unfold m_ref06_ApplyAll at h
 refine Fun.intro Try.func24 rfl rfl rfl fun w R => ?_;refine .ab [0,1] rfl ?_;refine .seq ?_;refine .ae rfl ?_;obtain ⟨o1, hl1, h⟩ := bnd_e h;refine .cutE (fun (e2 : Option Addr × Nat) => [(0, .slice e2.1 o1.length e2.2)]) (fun e2 => .ro (Sl (codL l_T_Setting) e2.1 e2.2 o1) :: R) ?_ ?_
 ·refine .block ?_;refine .loop hl1 (fun (s1 : List T_Setting × Int) (e1 : Option Addr × Nat) => [(0, .slice e1.1 s1.1.length e1.2), (1, .slice A2 changes.length c2), (5, .int .i64 s1.2)]) (fun s1 e1 => .ro (Sl (codL l_T_Setting) e1.1 e1.2 s1.1) :: .ro (Sl (codL l_T_Setting) A2 c2 changes) :: R) (fun _ _ => True) (A1, c1) trivial (zb rfl) (fun _ w => w) ?_;rintro s1 ⟨A3, c3⟩ - hit1
  obtain ⟨st1, hm1, hd1⟩ := iter_e hit1;have h1 := hm1;refine .seq ?_;refine .ab [0,1,5,9] rfl ?_;refine .cb h1 rfl (fun h1 => ?_) (fun h1 => ?_)
  ·refine .sk ?_;refine .pr [0,1,5] rfl ?_;refine .seq ?_;refine .block ?_;refine .region ?_;refine .n 3 rfl ?_;obtain ⟨x1, hx1, h1⟩ := bnd_e h1;refine .ixN hx1 rfl rfl rfl (.tail _ (.head _)) rfl rfl rfl rfl rfl fun b1 ob1 ex1 => ?_;obtain ⟨⟨A5, c5⟩, _⟩ := ex1;refine .nm 4 rfl ?_;refine .load ob1 0 rfl rfl (.head _) rfl rfl ?_;obtain ⟨r1, hr1, h1⟩ := bnd_e h1
   refine .call (c_ref06_Apply hr1) ent51 rfl rfl rfl (zd [2,1] [] 0 rfl) ?_;rintro _ _ ⟨A6, c6, rfl, rfl⟩;refine .nm 5 rfl ?_;refine .p rfl rfl ?_;refine .done ?_;refine .blkN ?_;refine .thenN ?_;refine .pf [0,1,5] [0] 3 rfl rfl ?_;refine .region ?_;refine .n 3 rfl ?_;refine .done ?_;refine .asrt (fun _ w => w.meltC) ?_;cases h1;refine .thenN ?_
   exact .again _ (A6, c6) hm1 trivial (zb rfl) (fun _ w => w)
  refine .exit ?_;repeat (first | refine .thenX ?_ | refine .blkMiss rfl ?_)
  refine .blkHit ?_;cases h1;have ho := hd1 _ rfl;subst ho;refine .thenN ?_;exact .hereE (A3, c3) (zb rfl) (zl [0] 1 rfl)
 rintro ⟨A4, c4⟩;refine .ab [4] rfl ?_;cases h;exact .rt rfl Try.results24 (.tmp rfl .nil) rfl ⟨A4, c4, rfl, rfl⟩ (fun _ w => ((.k (.d .z)) : Keep _ _).sat ((w.sd [0] [] 0 rfl)))
theorem ent11 : Ent Try.prog 11 := ⟨_, Try.func11, by kernel_rfl, by kernel_rfl⟩
noncomputable def m_law06_filled (l_p0 : (List Int)) (n_p1 : Int) : Option ((Option (T_Device × T_settings_Store)) × (List T_Setting) × Bool) :=
  bnd (m_law06_device) fun r1 => optM r1 (some (none, [], false)) (fun q1 => bnd (m_settings_Open q1 0) fun r2 => optM r2.2.1 (some (none, [], false)) (fun q2 => bif (r2.2.2 != 0) then (some (none, [], false)) else (bnd (m_made_Roll l_p0) fun r3 => bnd (loopM (τ := ((Option (T_Device × T_settings_Store)) × (List T_Setting) × Bool) ⊕ (T_Device × T_settings_Store × List T_Setting × List Int × Int)) (fun (s1 : T_Device × T_settings_Store × List T_Setting × Int × List Int × Int) => bif decide (s1.2.2.2.1 < n_p1) then (bnd (m_made_Dice_Settings (⟨s1.2.2.2.2.1, s1.2.2.2.2.2⟩ : T_Dice) 8) fun r4 => bnd (m_settings_Store_Update s1.2.1 r4.2 s1.1) fun r5 => bif (r5.2.2 == 0) then (bnd (m_ref06_Copy r4.2) fun r6 => bnd (m_ref06_ApplyAll s1.2.2.1 r6) fun r7 => some (.next (r5.2.1, r5.1, r7, IntKind.wrap .i64 (s1.2.2.2.1 + 1), r4.1.L, r4.1.At))) else (bif (r5.2.2 == 10) then (some (.done (.inl (none, [], false)))) else (some (.next (r5.2.1, r5.1, s1.2.2.1, IntKind.wrap .i64 (s1.2.2.2.1 + 1), r4.1.L, r4.1.At))))) else (some (.done (.inr (s1.1, s1.2.1, s1.2.2.1, s1.2.2.2.2.1, s1.2.2.2.2.2))))) (r2.1, q2, [], 0, r3.L, r3.At)) fun o1 => retOr o1 fun o2 => some ((some (o2.1, o2.2.1)), o2.2.2.1, true))))
set_option maxHeartbeats 4000000 in
theorem c_law06_filled {l_p0 : (List Int)} {n_p1 : Int} {A1 : Option Addr} {c1 : Nat} {r : ((Option (T_Device × T_settings_Store)) × (List T_Setting) × Bool)} (h : m_law06_filled l_p0 n_p1 = some r) :
    Fun Try.prog 11 [.slice A1 l_p0.length c1, .int .i64 n_p1] [.ro (SlL ei64 A1 c1 l_p0)] (optP r.1 (fun v_ F_ => ∃ (A2 : Option Addr) (c2 : Nat), v_ = .tuple #[.pointer none, .pointer none, .slice A2 r.2.1.length c2, .bool r.2.2] ∧ F_ = [.ro (Sl (codL l_T_Setting) A2 c2 r.2.1)]) (fun q_ v_ F_ => ∃ (g1 : Nat) (g2 : Nat) (A2 : Option Addr) (c2 : Nat) (A3 : Option Addr) (c3 : Nat) (M1 : Option Nat) (A4 : Option Addr) (c4 : Nat), v_ = .tuple #[.pointer (some ⟨g1, 0, none⟩), .pointer (some ⟨g2, 0, none⟩), .slice A4 r.2.1.length c4, .bool r.2.2] ∧ F_ = [.ro (Sl (codL l_T_Setting) A4 c4 r.2.1), .res (Box g1 80 (bx_T_Device q_.1 A2 c2 A3 c3)), .res (OwnL eu8 5 A2 c2 q_.1.bytes), .res (OwnL ei64 3 A3 c3 q_.1.wear), .res (Box g2 73 (bx_T_settings_Store q_.2 g1 M1)), .res (MapV (kint .u8) (cod eu8) M1 q_.2.all)])) := by
 unfold m_law06_filled at h
 refine Fun.intro Try.func11 rfl rfl rfl fun w R => ?_;refine .ab [0,1] rfl ?_;refine .seq ?_;refine .region ?_;obtain ⟨r1, hr1, h⟩ := bnd_e h;refine .call (c_law06_device hr1) ent28 rfl rfl rfl (fun _ w => w) ?_
 intro v_ F_ hp_
 rcases hq1 : r1 with _ | q1
 ·replace hp_ := optP_n hq1 hp_;replace h := optM_n hq1 h;obtain ⟨rfl, rfl⟩ := hp_;refine .nm 1 rfl ?_;refine .b [0,1,8] rfl ?_;refine .seq ?_;refine .ab [0,1,8,17] rfl ?_;refine .condT rfl ?_;refine .abf [4,5,6,7] [] 1 rfl rfl ?_;refine .ret ?_;repeat (first | refine .thenR ?_ | refine .blkR ?_)
  refine .asrt (fun _ w => w.nilSl (codL l_T_Setting)) ?_;cases h;exact .finR Try.results11 (.tmp rfl (.tmp rfl (.tmp rfl (.tmp rfl .nil)))) rfl _ (optP_mkn ⟨none, 0, rfl, rfl⟩) (fun _ w => ((.k (.d .z)) : Keep _ _).sat ((w.sd [0] [] 0 rfl)))
 replace hp_ := optP_s hq1 hp_;replace h := optM_s hq1 h;obtain ⟨g1, A2, c2, A3, c3, rfl, rfl⟩ := hp_;refine .nm 4 rfl ?_;refine .b [0,1,8] rfl ?_;refine .seq ?_;refine .ab [0,1,8,17] rfl ?_;refine .condF rfl ?_;refine .sk ?_;refine .pr [0,1,8] rfl ?_;refine .a 1 rfl ?_;obtain ⟨r2, hr2, h⟩ := bnd_e h;refine .call (c_settings_Open hr2) ent13 rfl rfl rfl (fun _ w => w) ?_
 intro v_ F_ hp_
 rcases hq2 : r2.2.1 with _ | q2
 ·replace hp_ := optP_n hq2 hp_;replace h := optM_n hq2 h;obtain ⟨A4, c4, A5, c5, rfl, rfl⟩ := hp_;refine .nm 4 rfl ?_;refine .b [0,1,8,9,10] rfl ?_;refine .seq ?_;refine .ab [0,1,8,9,28] rfl ?_;refine .condT rfl ?_;refine .abf [4,5,6,7] [] 4 rfl rfl ?_;refine .ret ?_;repeat (first | refine .thenR ?_ | refine .blkR ?_)
  refine .asrt (fun _ w => w.nilSl (codL l_T_Setting)) ?_;cases h;exact .finR Try.results11 (.tmp rfl (.tmp rfl (.tmp rfl (.tmp rfl .nil)))) rfl _ (optP_mkn ⟨none, 0, rfl, rfl⟩) (fun _ w => ((.k (.d .z)) : Keep _ _).sat ((w.sd [0] [] 0 rfl)))
 replace hp_ := optP_s hq2 hp_;replace h := optM_s hq2 h;obtain ⟨A6, c6, A7, c7, g2, M1, rfl, rfl⟩ := hp_;refine .nm 6 rfl ?_;refine .b [0,1,8,9,10] rfl ?_;refine .seq ?_;refine .ab [0,1,8,9,28] rfl ?_;refine .cb h rfl (fun h => ?_) (fun h => ?_)
 ·refine .abf [4,5,6,7] [] 6 rfl rfl ?_;refine .ret ?_;repeat (first | refine .thenR ?_ | refine .blkR ?_)
  refine .asrt (fun _ w => w.nilSl (codL l_T_Setting)) ?_;cases h;exact .finR Try.results11 (.tmp rfl (.tmp rfl (.tmp rfl (.tmp rfl .nil)))) rfl _ (optP_mkn ⟨none, 0, rfl, rfl⟩) (fun _ w => ((.k (.d .z)) : Keep _ _).sat ((w.sd [0] [] 0 rfl)))
 refine .sk ?_;refine .pr [0,1,8,9] rfl ?_;refine .a 1 rfl ?_;obtain ⟨r3, hr3, h⟩ := bnd_e h;refine .call (c_made_Roll hr3) ent21 rfl rfl rfl (zd [5] [] 0 rfl) ?_;rintro _ _ ⟨g3, A8, c8, rfl, rfl⟩;refine .nm 8 rfl ?_;refine .bf [1,8,9,11] [0,0,0,0,0,0,0] 1 rfl rfl ?_;refine .ae rfl ?_;refine .seq ?_;refine .ae rfl ?_;refine .asrt (fun _ w => w.nilSl (codL l_T_Setting)) ?_
 obtain ⟨o1, hl1, h⟩ := bnd_e h
 refine .cutI (fun (o2 : T_Device × T_settings_Store × List T_Setting × List Int × Int) (e2 : Option Addr × Nat × Option Addr × Nat × Option Nat × Option Addr × Nat × Option Addr × Nat) => [(8, .pointer (some ⟨g1, 0, none⟩)), (9, .pointer (some ⟨g2, 0, none⟩)), (12, .slice e2.2.2.2.2.2.1 o2.2.2.1.length e2.2.2.2.2.2.2.1)]) (fun o2 e2 => .ro (Sl (codL l_T_Setting) e2.2.2.2.2.2.1 e2.2.2.2.2.2.2.1 o2.2.2.1) :: .res (MapV (kint .u8) (cod eu8) e2.2.2.2.2.1 o2.2.1.all) :: .res (OwnL ei64 3 e2.2.2.1 e2.2.2.2.1 o2.1.wear) :: .res (OwnL eu8 5 e2.1 e2.2.1 o2.1.bytes) :: .res (Box g1 80 (bx_T_Device o2.1 e2.1 e2.2.1 e2.2.2.1 e2.2.2.2.1)) :: .res (Box g2 73 (bx_T_settings_Store o2.2.1 g1 e2.2.2.2.2.1)) :: R) (fun o2 => o1 = .inr o2) ?_ ?_
 ·refine .block ?_
  refine .loop hl1 (fun (s1 : T_Device × T_settings_Store × List T_Setting × Int × List Int × Int) (e1 : Option Addr × Nat × Option Addr × Nat × Option Nat × Option Addr × Nat × Option Addr × Nat) => [(1, .int .i64 n_p1), (8, .pointer (some ⟨g1, 0, none⟩)), (9, .pointer (some ⟨g2, 0, none⟩)), (11, .pointer (some ⟨g3, 0, none⟩)), (12, .slice e1.2.2.2.2.2.1 s1.2.2.1.length e1.2.2.2.2.2.2.1), (13, .int .i64 s1.2.2.2.1)]) (fun s1 e1 => .ro (SlL ei64 e1.2.2.2.2.2.2.2.1 e1.2.2.2.2.2.2.2.2 s1.2.2.2.2.1) :: .ro (Sl (codL l_T_Setting) e1.2.2.2.2.2.1 e1.2.2.2.2.2.2.1 s1.2.2.1) :: .res (MapV (kint .u8) (cod eu8) e1.2.2.2.2.1 s1.2.1.all) :: .res (OwnL ei64 3 e1.2.2.1 e1.2.2.2.1 s1.1.wear) :: .res (OwnL eu8 5 e1.1 e1.2.1 s1.1.bytes) :: .res (Box g3 86 [.slice e1.2.2.2.2.2.2.2.1 s1.2.2.2.2.1.length e1.2.2.2.2.2.2.2.2, .int .i64 s1.2.2.2.2.2]) :: .res (Box g1 80 (bx_T_Device s1.1 e1.1 e1.2.1 e1.2.2.1 e1.2.2.2.1)) :: .res (Box g2 73 (bx_T_settings_Store s1.2.1 g1 e1.2.2.2.2.1)) :: R) (fun _ _ => True) (A6, c6, A7, c7, M1, none, 0, A8, c8) trivial (zb rfl) (zl [1,0,5,3,2] 0 rfl) ?_
  rintro s1 ⟨A9, c9, A10, c10, M2, A11, c11, A12, c12⟩ - hit1;obtain ⟨st1, hm1, hd1⟩ := iter_e hit1;have h1 := hm1;refine .seq ?_;refine .ab [1,8,9,11,12,13,33] rfl ?_;refine .cb h1 rfl (fun h1 => ?_) (fun h1 => ?_)
  ·refine .sk ?_;refine .pr [1,8,9,11,12,13] rfl ?_;refine .seq ?_;refine .block ?_;refine .a 1 rfl ?_;obtain ⟨r4, hr4, h1⟩ := bnd_e h1;refine .call (c_made_Dice_Settings hr4) ent38 rfl rfl rfl (zd [1] [5] 0 rfl) ?_;rintro _ _ ⟨A17, c17, A18, c18, rfl, rfl⟩;refine .nm 10 rfl ?_;refine .bf [1,8,9,11,12,13,14] [0,0,0] 1 rfl rfl ?_;refine .a 2 rfl ?_
   refine .asrt (fun _ w => (w.sl [2] 0 rfl).meltC) ?_;obtain ⟨r5, hr5, h1⟩ := bnd_e h1;refine .call (c_settings_Store_Update (gb1 := g2) (gb2 := g1) hr5) ent20 rfl rfl rfl (zd [5] [8,4,6,5,4] 0 rfl) ?_;rintro _ _ ⟨M4, A19, c19, A20, c20, rfl, rfl⟩;refine .nm 9 rfl ?_;refine .b [1,8,9,11,12,13,14,40] rfl ?_;refine .block ?_;refine .ab [1,8,9,11,12,13,14,40,41] rfl ?_
   refine .cb h1 rfl (fun h1 => ?_) (fun h1 => ?_)
   ·refine .region ?_;refine .n 2 rfl ?_;obtain ⟨r6, hr6, h1⟩ := bnd_e h1;refine .call (c_ref06_Copy hr6) ent39 rfl rfl rfl (zd [5] [] 0 rfl) ?_;rintro _ _ ⟨A21, c21, rfl, rfl⟩;refine .nm 10 rfl ?_;refine .asrt (fun _ w => w.meltC) ?_;obtain ⟨r7, hr7, h1⟩ := bnd_e h1;refine .call (c_ref06_ApplyAll hr7) ent24 rfl rfl rfl (zd [9,0] [] 0 rfl) ?_;rintro _ _ ⟨A22, c22, rfl, rfl⟩;refine .nm 11 rfl ?_
    refine .p rfl rfl ?_;refine .done ?_;refine .blkN ?_;refine .blkN ?_;refine .thenN ?_;refine .pf [1,8,9,11,12,13] [0,1,1,1,1,1,2,2] 3 rfl rfl ?_;refine .region ?_;cases h1;refine .be rfl ?_;exact .again _ (A19, c19, A20, c20, M4, A22, c22, A17, c17) hm1 trivial (zb rfl) (zl [6,0,1,3,2,2,1] 0 rfl)
   refine .abf [1,8,9,11,12,13,47] [0,0,0,0,0] 1 rfl rfl ?_;refine .cb h1 rfl (fun h1 => ?_) (fun h1 => ?_)
   ·refine .abf [4,5,6,7] [] 8 rfl rfl ?_;refine .ret ?_;repeat (first | refine .thenR ?_ | refine .blkR ?_)
    refine .asrt (fun _ w => w.nilSl (codL l_T_Setting)) ?_;cases h1;have ho := hd1 _ rfl;subst ho;have h : some _ = some _ := h;cases h;exact .finR Try.results11 (.tmp rfl (.tmp rfl (.tmp rfl (.tmp rfl .nil)))) rfl _ (optP_mkn ⟨none, 0, rfl, rfl⟩) (fun _ w => ((.k (.d .z)) : Keep _ _).sat ((w.sd [0] [] 0 rfl)))
   refine .skip ?_;refine .blkN ?_;refine .blkN ?_;refine .thenN ?_;refine .pr [1,8,9,11,12,13] rfl ?_;refine .region ?_;cases h1;refine .be rfl ?_;exact .again _ (A19, c19, A20, c20, M4, A11, c11, A17, c17) hm1 trivial (zb rfl) (zl [5,6,1,3,2,2,1] 0 rfl)
  refine .exit ?_;repeat (first | refine .thenX ?_ | refine .blkMiss rfl ?_)
  refine .blkHit ?_;cases h1;have ho := hd1 _ rfl;subst ho;refine .thenN ?_;exact .hereI (s1.1, s1.2.1, s1.2.2.1, s1.2.2.2.2.1, s1.2.2.2.2.2) (A9, c9, A10, c10, M2, A11, c11, A12, c12) rfl (zb rfl) (zl [1,1,1,1] 2 rfl)
 rintro o2 ⟨A13, c13, A14, c14, M3, A15, c15, A16, c16⟩ ho;subst ho;have h := unR h;refine .ab [4,5,6,7] rfl ?_;cases h;exact .rt rfl Try.results11 (.tmp rfl (.tmp rfl (.tmp rfl (.tmp rfl .nil)))) rfl (optP_mks ⟨g1, g2, A13, c13, A14, c14, M3, A15, c15, rfl, rfl⟩) (fun _ w => ((.k (.k (.k (.k (.k (.k (.d .z))))))) : Keep _ _).sat ((w.sd [5] [4,3,2,2,1] 0 rfl)))
theorem ent14 : Ent Try.prog 14 := ⟨_, Try.func14, by kernel_rfl, by kernel_rfl⟩
noncomputable def m_settings_Store_All (s_p0 : T_settings_Store) (s_p0_d : T_Device) : Option (List T_Setting) :=
  bnd (m__settings_values_sorted s_p0.all) fun r1 => some r1
theorem c_settings_Store_All {s_p0 : T_settings_Store} {s_p0_d : T_Device} {A1 : Option Addr} {c1 : Nat} {A2 : Option Addr} {c2 : Nat} {M1 : Option Nat} {gb1 : Nat} {gb2 : Nat} {r : (List T_Setting)} (h : m_settings_Store_All s_p0 s_p0_d = some r) :
    Fun Try.prog 14 [.pointer (some ⟨gb1, 0, none⟩)] [.res (Box gb1 73 (bx_T_settings_Store s_p0 gb2 M1)), .res (MapV (kint .u8) (cod eu8) M1 s_p0.all), .res (Box gb2 80 (bx_T_Device s_p0_d A1 c1 A2 c2)), .res (OwnL eu8 5 A1 c1 s_p0_d.bytes), .res (OwnL ei64 3 A2 c2 s_p0_d.wear)] (fun v_ F_ => ∃ (A3 : Option Addr) (c3 : Nat), v_ = .slice A3 r.length c3 ∧ F_ = [.res (Box gb1 73 (bx_T_settings_Store s_p0 gb2 M1)), .res (MapV (kint .u8) (cod eu8) M1 s_p0.all), .res (Box gb2 80 (bx_T_Device s_p0_d A1 c1 A2 c2)), .res (OwnL eu8 5 A1 c1 s_p0_d.bytes), .res (OwnL ei64 3 A2 c2 s_p0_d.wear), .res (OwnC (codL l_T_Setting) 39 A3 c3 r)]) := by
 unfold m_settings_Store_All at h
 refine Fun.intro Try.func14 rfl rfl rfl fun w R => ?_;refine .ab [0] rfl ?_;refine .a 3 rfl ?_;refine .loadB 4 rfl rfl (.head _) rfl rfl ?_;obtain ⟨r1, hr1, h⟩ := bnd_e h;refine .call (c__settings_values_sorted hr1) ent43 rfl rfl rfl (zl [1] 0 rfl) ?_;rintro _ _ ⟨A3, c3, rfl, rfl⟩;refine .nm 6 rfl ?_;refine .b [2] rfl ?_;cases h
 exact .rt rfl Try.results14 (.tmp rfl .nil) rfl ⟨A3, c3, rfl, rfl⟩ (zl [2,0,1,1,1] 0 rfl)
theorem ent15 : Ent Try.prog 15 := ⟨_, Try.func15, by kernel_rfl, by kernel_rfl⟩
noncomputable def m_ref06_Same (a_p0 : (List T_Setting)) (b_p1 : (List T_Setting)) : Option Bool :=
  bif ((a_p0.length : Int) != (b_p1.length : Int)) then (some false) else (bnd (loopM (τ := Bool ⊕ Unit) (fun (s1 : Int) => bif decide (s1 < (a_p0.length : Int)) then (bnd ((bnd (elt a_p0 s1) fun x1 => bnd (elt b_p1 s1) fun x2 => bif (x1.Key != x2.Key) then (some true) else (bif !(x1.Delete == x2.Delete) then (some true) else (bnd (m_ref01_Same x1.Value x2.Value) fun r1 => some (!r1))) : Option Bool)) fun o3 => bif o3 then (some (.done (.inl false))) else (some (.next (IntKind.wrap .i64 (s1 + 1))))) else (some (.done (.inr ())))) 0) fun o1 => retOr o1 fun o2 => some true)
end Go.Proofs.Ythdpagcklakahaa
end
section
namespace Go.Proofs.Ythdpagcklakahaa
open Go
set_option linter.unusedVariables false
set_option maxRecDepth 4000
theorem c_ref06_Same {a_p0 : (List T_Setting)} {b_p1 : (List T_Setting)} {A1 : Option Addr} {c1 : Nat} {A2 : Option Addr} {c2 : Nat} {r : Bool} (h : m_ref06_Same a_p0 b_p1 = some r) :
    Fun Try.prog 15 [.slice A1 a_p0.length c1, .slice A2 b_p1.length c2] [.ro (Sl (codL l_T_Setting) A1 c1 a_p0), .ro (Sl (codL l_T_Setting) A2 c2 b_p1)] (Val (.bool r)) := by
 unfold m_ref06_Same at h
 refine Fun.intro Try.func15 rfl rfl rfl fun w R => ?_;refine .ab [0,1] rfl ?_;refine .seq ?_;refine .ab [0,1,10] rfl ?_;refine .cb h rfl (fun h => ?_) (fun h => ?_)
 ·refine .abf [4] [] 2 rfl rfl ?_;cases h;exact .rt rfl Try.results15 (.tmp rfl .nil) rfl ⟨rfl, rfl⟩ (fun _ w => w)
 refine .sk ?_;refine .pr [0,1] rfl ?_;refine .seq ?_;refine .ae rfl ?_;obtain ⟨o1, hl1, h⟩ := bnd_e h;refine .cutI (fun (o2 : Unit) (e2 : Unit) => []) (fun o2 e2 => R) (fun o2 => o1 = .inr o2) ?_ ?_
 ·refine .block ?_;refine .loop hl1 (fun (s1 : Int) (e1 : Unit) => [(0, .slice A1 a_p0.length c1), (1, .slice A2 b_p1.length c2), (5, .int .i64 s1)]) (fun s1 e1 => .ro (Sl (codL l_T_Setting) A1 c1 a_p0) :: .ro (Sl (codL l_T_Setting) A2 c2 b_p1) :: R) (fun _ _ => True) () trivial (zb rfl) (fun _ w => w) ?_;rintro s1 e1 - hit1;obtain ⟨st1, hm1, hd1⟩ := iter_e hit1;have h1 := hm1;refine .seq ?_
  refine .ab [0,1,5,14] rfl ?_;refine .cb h1 rfl (fun h1 => ?_) (fun h1 => ?_)
  ·refine .sk ?_;refine .pr [0,1,5] rfl ?_;refine .seq ?_;refine .block ?_;refine .seq ?_;obtain ⟨o3, hj1, h1⟩ := bnd_e h1;refine .cutE (fun (e3 : Unit) => [(0, .slice A1 a_p0.length c1), (1, .slice A2 b_p1.length c2), (5, .int .i64 s1), (54, .bool o3)]) (fun e3 => .ro (Sl (codL l_T_Setting) A1 c1 a_p0) :: .ro (Sl (codL l_T_Setting) A2 c2 b_p1) :: R) ?_ ?_
   ·refine .regionF mixed (by kernel_rfl) ?_;refine .n 2 rfl ?_;obtain ⟨x1, hx1, hj1⟩ := bnd_e hj1;refine .ixN hx1 rfl rfl rfl (.head _) rfl rfl rfl rfl rfl fun b1 ob1 ex1 => ?_;obtain ⟨⟨A3, c3⟩, _⟩ := ex1;refine .nm 4 rfl ?_;refine .p rfl rfl ?_;refine .load ob1 0 rfl rfl (.head _) rfl rfl ?_;refine .n 2 rfl ?_;obtain ⟨x2, hx2, hj1⟩ := bnd_e hj1
    refine .ixN hx2 rfl rfl rfl (zm 3 rfl) rfl rfl rfl rfl rfl fun b2 ob2 ex2 => ?_;obtain ⟨⟨A4, c4⟩, _⟩ := ex2;refine .nm 6 rfl ?_;refine .p rfl rfl ?_;refine .load ob2 0 rfl rfl (.head _) rfl rfl ?_;refine .n 2 rfl ?_;refine .gSplit (dj := 28) _ rfl (fun hb3 => ?_) (fun hb3 => ?_)
    ·replace hj1 := bif_t hb3 hj1;cases hj1;refine .beq rfl ?_;exact .hereE () (zb rfl) (zl [] 4 rfl)
    replace hj1 := bif_f hb3 hj1;refine .n 2 rfl ?_;refine .gOn (dj := 28) rfl rfl ?_;refine .ixN hx1 rfl rfl rfl (zm 4 rfl) rfl rfl rfl rfl rfl fun b3 ob3 ex3 => ?_;obtain ⟨⟨A5, c5⟩, _⟩ := ex3;refine .nm 8 rfl ?_;refine .n 1 rfl ?_;refine .gOn (dj := 28) rfl rfl ?_;refine .load ob3 2 rfl rfl (.head _) rfl rfl ?_;refine .n 2 rfl ?_;refine .gOn (dj := 28) rfl rfl ?_
    refine .ixN hx2 rfl rfl rfl (zm 7 rfl) rfl rfl rfl rfl rfl fun b4 ob4 ex4 => ?_;obtain ⟨⟨A6, c6⟩, _⟩ := ex4;refine .nm 10 rfl ?_;refine .n 1 rfl ?_;refine .gOn (dj := 28) rfl rfl ?_;refine .load ob4 2 rfl rfl (.head _) rfl rfl ?_;refine .n 3 rfl ?_;refine .gSplit (dj := 41) _ rfl (fun hb4 => ?_) (fun hb4 => ?_)
    ·replace hj1 := bif_t hb4 hj1;cases hj1;refine .beq rfl ?_;exact .hereE () (zb rfl) (zl [] 8 rfl)
    replace hj1 := bif_f hb4 hj1;refine .n 2 rfl ?_;refine .gOn (dj := 41) rfl rfl ?_;refine .ixN hx1 rfl rfl rfl (zm 8 rfl) rfl rfl rfl rfl rfl fun b5 ob5 ex5 => ?_;obtain ⟨⟨A7, c7⟩, _⟩ := ex5;refine .nm 12 rfl ?_;refine .n 1 rfl ?_;refine .gOn (dj := 41) rfl rfl ?_;refine .load ob5 1 rfl rfl (.head _) rfl rfl ?_;refine .n 2 rfl ?_;refine .gOn (dj := 41) rfl rfl ?_
    refine .ixN hx2 rfl rfl rfl (zm 11 rfl) rfl rfl rfl rfl rfl fun b6 ob6 ex6 => ?_;obtain ⟨⟨A8, c8⟩, _⟩ := ex6;refine .nm 14 rfl ?_;refine .n 1 rfl ?_;refine .gOn (dj := 41) rfl rfl ?_;refine .load ob6 1 rfl rfl (.head _) rfl rfl ?_;refine .gOn (dj := 41) rfl rfl ?_;obtain ⟨r1, hr1, hj1⟩ := bnd_e hj1;refine .callV (c_ref01_Same hr1) ent18 rfl rfl rfl rfl (za [3,1] rfl) ?_;cases hj1
    refine .beq rfl ?_;exact .hereE () (zb rfl) (zl [] 12 rfl)
   rintro e3;refine .cb h1 rfl (fun h1 => ?_) (fun h1 => ?_)
   ·refine .abf [4] [] 2 rfl rfl ?_;refine .ret ?_;repeat (first | refine .thenR ?_ | refine .blkR ?_)
    cases h1;have ho := hd1 _ rfl;subst ho;have h : some _ = some _ := h;cases h;exact .finR Try.results15 (.tmp rfl .nil) rfl _ ⟨rfl, rfl⟩ (fun _ w => w)
   refine .skip ?_;refine .blkN ?_;refine .thenN ?_;refine .pr [0,1,5] rfl ?_;refine .region ?_;cases h1;refine .be rfl ?_;exact .again _ () hm1 trivial (zb rfl) (fun _ w => w)
  refine .exit ?_;repeat (first | refine .thenX ?_ | refine .blkMiss rfl ?_)
  refine .blkHit ?_;cases h1;have ho := hd1 _ rfl;subst ho;refine .thenN ?_;exact .hereI () () rfl trivial (zl [] 2 rfl)
 rintro o2 e2 ho;subst ho;have h := unR h;refine .ae rfl ?_;cases h;exact .rt rfl Try.results15 (.tmp rfl .nil) rfl ⟨rfl, rfl⟩ (fun _ w => w)
theorem ent16 : Ent Try.prog 16 := ⟨_, Try.func16, by kernel_rfl, by kernel_rfl⟩
noncomputable def m_settings_Store_Generation (s_p0 : T_settings_Store) (s_p0_d : T_Device) : Option Int :=
  some s_p0.generation
theorem c_settings_Store_Generation {s_p0 : T_settings_Store} {s_p0_d : T_Device} {A1 : Option Addr} {c1 : Nat} {A2 : Option Addr} {c2 : Nat} {M1 : Option Nat} {gb1 : Nat} {gb2 : Nat} {r : Int} (h : m_settings_Store_Generation s_p0 s_p0_d = some r) :
    Fun Try.prog 16 [.pointer (some ⟨gb1, 0, none⟩)] [.res (Box gb1 73 (bx_T_settings_Store s_p0 gb2 M1)), .res (MapV (kint .u8) (cod eu8) M1 s_p0.all), .res (Box gb2 80 (bx_T_Device s_p0_d A1 c1 A2 c2)), .res (OwnL eu8 5 A1 c1 s_p0_d.bytes), .res (OwnL ei64 3 A2 c2 s_p0_d.wear)] (fun v_ F_ => v_ = .int .i64 r ∧ F_ = [.res (Box gb1 73 (bx_T_settings_Store s_p0 gb2 M1)), .res (MapV (kint .u8) (cod eu8) M1 s_p0.all), .res (Box gb2 80 (bx_T_Device s_p0_d A1 c1 A2 c2)), .res (OwnL eu8 5 A1 c1 s_p0_d.bytes), .res (OwnL ei64 3 A2 c2 s_p0_d.wear)]) := by
 unfold m_settings_Store_Generation at h
 refine Fun.intro Try.func16 rfl rfl rfl fun w R => ?_;refine .ab [0] rfl ?_;refine .a 3 rfl ?_;refine .loadB 3 rfl rfl (.head _) rfl rfl ?_;refine .b [2] rfl ?_;cases h;exact .rt rfl Try.results16 (.tmp rfl .nil) rfl ⟨rfl, rfl⟩ (fun _ w => w)
end Go.Proofs.Ythdpagcklakahaa
end
section
namespace Go.Proofs.Ythdpagcklakahaa
open Go
set_option linter.unusedSectionVars false
set_option linter.unusedVariables false
abbrev DY := T_Setting × Option Addr × Nat
def encD : Enc DY := ⟨3, fun p => [.int .u8 p.1.Key, .slice p.2.1 p.1.Value.length p.2.2, .bool p.1.Delete], fun _ => rfl, fun p u hu => by
  simp only [List.mem_cons, List.not_mem_nil, or_false] at hu
  rcases hu with rfl | rfl | rfl <;> rfl⟩
def dG (ye : List DY) : List Nat := ye.flatMap fun p => blkOf p.2.1 p.2.2
def OwnD (t e : Nat) (A : Option Addr) (c : Nat) (ye : List DY) : Res where
  gs := blkOf A c ++ dG ye
  p m := (OwnL encD t A c ye).p m ∧ ∀ p ∈ ye, (OwnL eu8 e p.2.1 p.2.2 p.1.Value).p m
  loc m m' h hp := ⟨(OwnL encD t A c ye).loc m m' (fun k hk => h k (List.mem_append_left _ hk)) hp.1,
    fun p hp' => (OwnL eu8 e p.2.1 p.2.2 p.1.Value).loc m m' (fun k hk => h k (List.mem_append_right _ (List.mem_flatMap.2 ⟨p, hp', hk⟩))) (hp.2 p hp')⟩
def Ds (e : Nat) (ye : List DY) : Res where
  gs := dG ye
  p m := ∀ p ∈ ye, (OwnL eu8 e p.2.1 p.2.2 p.1.Value).p m
  loc m m' h hp := fun p hp' => (OwnL eu8 e p.2.1 p.2.2 p.1.Value).loc m m' (fun k hk => h k (List.mem_flatMap.2 ⟨p, hp', hk⟩)) (hp p hp')
theorem Sat.regroup {F F' : List As} {w : World} (h : Sat F w) (hpm : (blocks F').Perm (blocks F)) (hx : ∀ x ∈ F', x ∈ F ∨ ∃ r, x = .res r ∧ r.p (hp w) ∧ ∀ z, r.q (hp w) z) : Sat F' w := by
  refine ⟨(hpm.nodup_iff).2 h.nodup, fun x hxm => ?_⟩
  rcases hx x hxm with h1 | ⟨r, rfl, h1, h2⟩
  · exact As.holds_mono (fun k hk => hpm.mem_iff.1 hk) (h.all x h1)
  · exact ⟨fun k hk => h.lt (hpm.mem_iff.1 (mem_blocks.2 ⟨_, hxm, hk⟩)), h1, h2 _⟩
section
variable {P : Program} [T : HasTT P] {w0 : World} {nt : Nat} {Γ Γ' : Env} {F F' G R : List As} {Q : Exit → Act → World → Prop} {ops : Array Oper} {rest : List Oper}
variable {d : Nat} {op : Op} {ty : Nat} {pos : String} {af : Array Edge} {X : List Oper → Act → World → Prop}
theorem Sat.nilDs {w : World} (h : Sat F w) (e : Nat) : Sat (.res (Ds e []) :: F) w :=
  h.add_res (Ext.refl w) (Ds e []) List.nodup_nil (fun k hk => by cases hk) (fun p hp => by cases hp)
theorem Sat.splitD {t e c : Nat} {A : Option Addr} {ye : List DY} {w : World} (h : Sat (.res (OwnD t e A c ye) :: F) w) : Sat (.res (OwnL encD t A c ye) :: .res (Ds e ye) :: F) w := by
  have h0 := h.res (r := OwnD t e A c ye) (List.mem_cons_self ..)
  refine h.regroup ?_ fun x hx => ?_
  · simp only [blocks, As.gs]
    rw [← List.append_assoc]
    exact List.Perm.refl _
  · rcases List.mem_cons.1 hx with rfl | hx
    · exact .inr ⟨_, rfl, h0.1, fun _ => trivial⟩
    · rcases List.mem_cons.1 hx with rfl | hx
      · exact .inr ⟨_, rfl, h0.2, fun _ => trivial⟩
      · exact .inl (List.mem_cons_of_mem _ hx)
theorem Sat.joinD {t e c : Nat} {A : Option Addr} {ye : List DY} {w : World} (h : Sat (.res (OwnL encD t A c ye) :: .res (Ds e ye) :: F) w) : Sat (.res (OwnD t e A c ye) :: F) w := by
  have h1 := h.res (r := OwnL encD t A c ye) (List.mem_cons_self ..)
  have h2 := h.res (r := Ds e ye) (by simp)
  refine h.regroup ?_ fun x hx => ?_
  · simp only [blocks, As.gs]
    rw [← List.append_assoc]
    exact List.Perm.refl _
  · rcases List.mem_cons.1 hx with rfl | hx
    · exact .inr ⟨_, rfl, ⟨h1, h2⟩, fun _ => trivial⟩
    · exact .inl (List.mem_cons_of_mem _ (List.mem_cons_of_mem _ hx))
theorem Sat.snocDs {e c : Nat} {A : Option Addr} {ye : List DY} {y : T_Setting} {w : World} (h : Sat (.res (OwnL eu8 e A c y.Value) :: .res (Ds e ye) :: F) w) : Sat (.res (Ds e (ye ++ [(y, A, c)])) :: F) w := by
  have h1 := h.res (r := OwnL eu8 e A c y.Value) (List.mem_cons_self ..)
  have h2 := h.res (r := Ds e ye) (by simp)
  refine h.regroup ?_ fun x hx => ?_
  · have : (Ds e (ye ++ [(y, A, c)])).gs = dG ye ++ blkOf A c := by simp [Ds, dG]
    simp only [blocks, As.gs, this]
    rw [← List.append_assoc]
    exact List.Perm.append_right _ List.perm_append_comm
  · rcases List.mem_cons.1 hx with rfl | hx
    · refine .inr ⟨_, rfl, fun p hp => ?_, fun _ => trivial⟩
      rcases List.mem_append.1 hp with hp | hp
      · exact h2 p hp
      · rw [List.mem_singleton] at hp
        subst hp
        exact h1
    · exact .inl (List.mem_cons_of_mem _ (List.mem_cons_of_mem _ hx))
theorem split_at {α : Type} {ye : List α} {i : Nat} {p : α} (h : ye[i]? = some p) : ye = ye.take i ++ p :: ye.drop (i + 1) := by
  obtain ⟨hi, e⟩ := List.getElem?_eq_some_iff.1 h
  rw [← e, List.getElem_cons_drop, List.take_append_drop]
theorem Sat.outDs {e i : Nat} {ye : List DY} {p : DY} {w : World} (hp : ye[i]? = some p) (h : Sat (.res (Ds e ye) :: F) w) : Sat (.res (OwnL eu8 e p.2.1 p.2.2 p.1.Value) :: .res (Ds e (ye.take i ++ ye.drop (i + 1))) :: F) w := by
  have h2 := h.res (r := Ds e ye) (List.mem_cons_self ..)
  have hs := split_at hp
  refine h.regroup ?_ fun x hx => ?_
  · have e1 : (Ds e ye).gs = dG (ye.take i) ++ (blkOf p.2.1 p.2.2 ++ dG (ye.drop (i + 1))) := by
      show dG ye = _
      conv => lhs; rw [hs]
      simp [dG]
    have e2 : (Ds e (ye.take i ++ ye.drop (i + 1))).gs = dG (ye.take i) ++ dG (ye.drop (i + 1)) := by simp [Ds, dG]
    have e3 : (OwnL eu8 e p.2.1 p.2.2 p.1.Value).gs = blkOf p.2.1 p.2.2 := rfl
    simp only [blocks, As.gs, e1, e2, e3]
    simp only [List.append_assoc]
    rw [← List.append_assoc, ← List.append_assoc (dG (ye.take i))]
    exact List.Perm.append_right _ List.perm_append_comm
  · rcases List.mem_cons.1 hx with rfl | hx
    · exact .inr ⟨_, rfl, h2 p (List.mem_of_getElem? hp), fun _ => trivial⟩
    · rcases List.mem_cons.1 hx with rfl | hx
      · refine .inr ⟨_, rfl, fun q hq => h2 q ?_, fun _ => trivial⟩
        rcases List.mem_append.1 hq with hq | hq
        · exact List.mem_of_mem_take hq
        · exact List.mem_of_mem_drop hq
      · exact .inl (List.mem_cons_of_mem _ hx)
theorem Sat.inDs {t e i c ci : Nat} {A Ai : Option Addr} {ye : List DY} {y : T_Setting} {zs : List Int} {w : World} (hp : ye[i]? = some (y, Ai, ci)) (hl : zs.length = y.Value.length)
    (h : Sat (.res (OwnL eu8 e Ai ci zs) :: .res (Ds e (ye.take i ++ ye.drop (i + 1))) :: .res (OwnL encD t A c ye) :: F) w) :
    Sat (.res (OwnD t e A c (ye.set i (⟨y.Key, zs, y.Delete⟩, Ai, ci))) :: F) w := by
  have h1 := h.res (r := OwnL eu8 e Ai ci zs) (List.mem_cons_self ..)
  have h2 := h.res (r := Ds e (ye.take i ++ ye.drop (i + 1))) (by simp)
  have h3 := h.res (r := OwnL encD t A c ye) (by simp)
  have hi := (List.getElem?_eq_some_iff.1 hp).1
  have hs : ye.set i (⟨y.Key, zs, y.Delete⟩, Ai, ci) = ye.take i ++ (⟨y.Key, zs, y.Delete⟩, Ai, ci) :: ye.drop (i + 1) := List.set_eq_take_append_cons_drop ▸ by rw [if_pos hi]
  have hm : (ye.set i (⟨y.Key, zs, y.Delete⟩, Ai, ci)).map encD.enc = ye.map encD.enc := by
    rw [List.map_set]
    have : encD.enc (⟨y.Key, zs, y.Delete⟩, Ai, ci) = encD.enc (y, Ai, ci) := by
      show [Value.int .u8 y.Key, .slice Ai zs.length ci, .bool y.Delete] = _
      rw [hl]
      rfl
    rw [this]
    apply List.ext_getElem?
    intro k
    rw [List.getElem?_set]
    split
    · rename_i hk
      subst hk
      rw [List.getElem?_map, hp]
      simp [hi]
    · rfl
  have h3' : (OwnL encD t A c (ye.set i (⟨y.Key, zs, y.Delete⟩, Ai, ci))).p (Go.Proofs.Ythdpagcklakahaa.hp w) := by
    unfold OwnL
    rw [hm, List.length_set]
    exact h3
  refine h.regroup ?_ fun x hx => ?_
  · have e1 : (OwnD t e A c (ye.set i (⟨y.Key, zs, y.Delete⟩, Ai, ci))).gs = blkOf A c ++ (dG (ye.take i) ++ (blkOf Ai ci ++ dG (ye.drop (i + 1)))) := by
      show blkOf A c ++ dG _ = _
      rw [hs]
      simp [dG]
    have e2 : (Ds e (ye.take i ++ ye.drop (i + 1))).gs = dG (ye.take i) ++ dG (ye.drop (i + 1)) := by simp [Ds, dG]
    have e3 : (OwnL eu8 e Ai ci zs).gs = blkOf Ai ci := rfl
    have e4 : (OwnL encD t A c ye).gs = blkOf A c := rfl
    simp only [blocks, As.gs, e1, e2, e3, e4]
    generalize blkOf A c = a
    generalize dG (ye.take i) = b
    generalize blkOf Ai ci = d
    generalize dG (ye.drop (i + 1)) = f
    simp only [List.append_assoc]
    refine (List.perm_append_comm (l₁ := a) (l₂ := b ++ (d ++ (f ++ blocks F)))).trans ?_
    have : (b ++ (d ++ (f ++ blocks F)) ++ a).Perm (d ++ (b ++ (f ++ (a ++ blocks F)))) := by
      have p1 : (b ++ (d ++ (f ++ (a ++ blocks F)))).Perm (d ++ (b ++ (f ++ (a ++ blocks F)))) := by
        exact List.perm_append_comm_assoc b d _
      refine List.Perm.trans ?_ p1
      simp only [List.append_assoc]
      refine List.Perm.append_left _ (List.Perm.append_left _ (List.Perm.append_left _ List.perm_append_comm))
    exact this
  · rcases List.mem_cons.1 hx with rfl | hx
    · refine .inr ⟨_, rfl, ⟨h3', fun q hq => ?_⟩, fun _ => trivial⟩
      rw [hs] at hq
      rcases List.mem_append.1 hq with hq | hq
      · exact h2 q (List.mem_append_left _ hq)
      · rcases List.mem_cons.1 hq with rfl | hq
        · exact h1
        · exact h2 q (List.mem_append_right _ hq)
    · exact .inl (List.mem_cons_of_mem _ (List.mem_cons_of_mem _ (List.mem_cons_of_mem _ hx)))
theorem map_set_fst {ye : List DY} {q : Int} {y' : T_Setting} {Ai : Option Addr} {ci : Nat} {xs zs : List T_Setting} (hx : ye.map (·.1) = xs) (hz : setE xs q y' = some zs) : (ye.set q.toNat (y', Ai, ci)).map (·.1) = zs := by
  unfold setE at hz
  split at hz
  · injection hz with hz
    rw [← hz, ← hx, List.map_set]
  · cases hz
theorem elt_fst {ye : List DY} {q : Int} {y : T_Setting} {xs : List T_Setting} (hx : ye.map (·.1) = xs) (hy : elt xs q = some y) : ∃ Ai ci, elt ye q = some (y, Ai, ci) ∧ ye[q.toNat]? = some (y, Ai, ci) := by
  obtain ⟨h0, h1, h2⟩ := elt_some hy
  rw [← hx, List.getElem?_map] at h2
  obtain ⟨p, hp, rfl⟩ := Option.map_eq_some_iff.1 h2
  obtain ⟨y, Ai, ci⟩ := p
  refine ⟨Ai, ci, ?_, hp⟩
  unfold elt
  rw [if_pos h0]
  exact hp
theorem Asks.deep {t e c : Nat} {A : Option Addr} {ye : List DY} {xs : List T_Setting} (hx : ye.map (·.1) = xs) (hm : As.res (OwnD t e A c ye) ∈ F) (h : Asks G F) : Asks (.ro (Sl (codL l_T_Setting) A c xs) :: G) F := fun w hw r' hr => by
  cases hr with
  | tail _ hr => exact h w hw r' hr
  | head =>
    have h0 := hw.res hm
    have h1 : SlP (cod encD) A c ye (hp w) := OwnP.sl (E := cod encD) h0.1 ye rfl (hp w) (fun _ _ => rfl) fun j x hx => ⟨encD.enc x, by rw [List.getElem?_map, hx]; rfl, rfl⟩
    subst hx
    obtain ⟨a1, a2, a3, a4⟩ := h1
    refine ⟨by simpa using a1, by simpa using a2, fun hn => by rw [a3 hn]; rfl, fun ad had j x hj => ?_⟩
    rw [List.getElem?_map] at hj
    obtain ⟨p, hp, rfl⟩ := Option.map_eq_some_iff.1 hj
    obtain ⟨b1, cs, hc1, hc2⟩ := a4 ad had j p hp
    refine ⟨b1, cs, ?_, hc2⟩
    have e : cs = encD.enc p := hc1
    subst e
    have hv : SlP (cod eu8) p.2.1 p.2.2 p.1.Value (Go.Proofs.Ythdpagcklakahaa.hp w) := OwnP.sl (E := cod eu8) (h0.2 p (List.mem_of_getElem? hp)) p.1.Value rfl (Go.Proofs.Ythdpagcklakahaa.hp w) (fun _ _ => rfl) fun j x hx => ⟨eu8.enc x, by rw [List.getElem?_map, hx]; rfl, rfl⟩
    exact ⟨rfl, ⟨p.2.1, p.2.2, rfl, hv⟩, rfl, trivial⟩
end
theorem c_sorted_deep {v_p0 : (Option (List (Int × (List Int))))} {M1 : Option Nat} {r : (List T_Setting)} (h : m__settings_values_sorted v_p0 = some r) :
    Fun Try.prog 43 [.map M1] [.res (MapV (kint .u8) (cod eu8) M1 v_p0)] (fun v_ F_ => ∃ (A1 : Option Addr) (c1 : Nat) (ye : List DY), ye.map (·.1) = r ∧ v_ = .slice A1 r.length c1 ∧ F_ = [.res (MapV (kint .u8) (cod eu8) M1 v_p0), .res (OwnD 39 5 A1 c1 ye)]) := by
  unfold m__settings_values_sorted at h
  refine Fun.intro Try.func43 rfl rfl rfl fun w R => ?_
  refine St.ab [0] rfl ?_
  refine St.ae rfl ?_
  refine St.seq ?_
  refine St.a 1 rfl ?_
  obtain ⟨r1, hr1, h⟩ := bnd_e h
  refine St.call (c_mapKeys hr1) ent65 rfl rfl rfl (fun _ w => w) ?_
  rintro _ _ ⟨g1, rfl, rfl⟩
  refine St.nm 2 rfl ?_
  obtain ⟨r2, hr2, h⟩ := bnd_e h
  refine St.call (c_sortedKeys hr2) ent64 rfl rfl rfl (fun _ w => w) ?_
  rintro _ _ ⟨A1, c1, rfl, rfl⟩
  refine St.nm 3 rfl ?_
  refine St.bf [0,3,8,9,10] [] 1 rfl rfl ?_
  refine St.asrt (fun _ w => ((w.nilDs 5).nilL encD 39)) ?_
  obtain ⟨o1, hl1, h⟩ := bnd_e h
  refine St.cutE (fun (e2 : {q : Option Addr × Nat × List DY // q.2.2.map (·.1) = o1}) => [(3, .slice e2.1.1 e2.1.2.2.length e2.1.2.1)]) (fun e2 => .res (OwnD 39 5 e2.1.1 e2.1.2.1 e2.1.2.2) :: .res (MapV (kint .u8) (cod eu8) M1 v_p0) :: R) ?_ ?_
  · refine St.block ?_
    refine St.loop hl1 (fun (s1 : List T_Setting × Int) (e1 : Option Addr × Nat × List DY) => [(0, .map M1), (3, .slice e1.1 e1.2.2.length e1.2.1), (8, .slice A1 r2.length c1), (9, .int .i64 (r2.length : Int)), (10, .int .i64 s1.2)]) (fun s1 e1 => .res (OwnL encD 39 e1.1 e1.2.1 e1.2.2) :: .res (Ds 5 e1.2.2) :: .res (MapV (kint .u8) (cod eu8) M1 v_p0) :: .res (OwnL eu8 5 A1 c1 r2) :: R) (fun s1 e1 => e1.2.2.map (·.1) = s1.1) (none, 0, []) rfl (zb rfl) (fun _ w => w) ?_
    rintro s1 ⟨A2, c2, ye⟩ hye hit1
    obtain ⟨st1, hm1, hd1⟩ := iter_e hit1
    have h1 := hm1
    refine St.ae rfl ?_
    refine St.seq ?_
    refine St.cb h1 rfl (fun h1 => ?_) (fun h1 => ?_)
    · refine St.sk ?_
      refine St.pr [0,3,8,9,10] rfl ?_
      refine St.seq ?_
      refine St.block ?_
      refine St.seq ?_
      refine St.region ?_
      obtain ⟨x1, hx1, h1⟩ := bnd_e h1
      refine St.ixO hx1 rfl rfl rfl (zm 3 rfl) rfl rfl rfl rfl rfl fun g2 hA => ?_
      subst hA
      refine St.ldO 0 hx1 rfl rfl (zm 3 rfl) rfl rfl ?_
      refine St.b [0,3,5,8,9,10] rfl ?_
      refine St.region ?_
      refine St.n 4 rfl ?_
      refine St.lookupV (K := (kint .u8)) (E := (cod eu8)) x1 rfl rfl rfl (zm 2 rfl) rfl rfl rfl rfl rfl rfl fun A4 c4 => ?_
      obtain ⟨r3, hr3, h1⟩ := bnd_e h1
      refine St.call (c_slices_Clone__byte_byte hr3) ent44 rfl rfl rfl (zd [0] [] 0 rfl) ?_
      rintro _ _ ⟨A5, c5, rfl, rfl⟩
      refine St.nm 6 rfl ?_
      refine St.p rfl rfl ?_
      refine St.buildSlice rfl rfl rfl rfl rfl rfl rfl rfl fun g3 => ?_
      obtain ⟨l1, hl1, h1⟩ := bnd_e h1
      obtain ⟨e1, b1, b2⟩ := app_some hl1
      have hlen : ye.length = s1.1.length := by
        have : (ye.map (·.1)).length = s1.1.length := congrArg List.length hye
        simpa using this
      have hlD : Go.Proofs.Ythdpagcklakahaa.app 40 ye [((⟨x1, r3, false⟩ : T_Setting), A5, c5)] = some (ye ++ [((⟨x1, r3, false⟩ : T_Setting), A5, c5)]) := by
        unfold Go.Proofs.Ythdpagcklakahaa.app at hl1 ⊢
        simp only [List.length_cons, List.length_nil] at hl1 ⊢
        rw [hlen]
        split at hl1
        · rename_i hc
          rw [if_pos hc]
        · cases hl1
      refine St.app (E := encD) hlD rfl rfl rfl (.s (.s (.s .z))) rfl rfl rfl rfl rfl rfl rfl rfl (srcB (E := encD) (ys := [((⟨x1, r3, false⟩ : T_Setting), A5, c5)]) (.head _) rfl rfl) rfl rfl fun A6 c6 => ?_
      refine St.asrt (fun _ w => (Sat.snocDs (y := ⟨x1, r3, false⟩) (w.sl [2,3,0] 2 rfl)).sl [1] 0 rfl) ?_
      refine St.p rfl rfl ?_
      refine St.done ?_
      refine St.blkN ?_
      refine St.thenN ?_
      refine St.pr [0,3,8,9,10] rfl ?_
      refine St.region ?_
      cases h1
      refine St.be rfl ?_
      exact St.again _ (A6, c6, ye ++ [((⟨x1, r3, false⟩ : T_Setting), A5, c5)]) hm1 (by show List.map _ (ye ++ _) = l1; rw [List.map_append, e1]; exact congrArg (· ++ _) hye) (zb rfl) (fun _ w => w)
    · refine St.exit ?_
      repeat (first | refine St.thenX ?_ | refine St.blkMiss rfl ?_)
      refine St.blkHit ?_
      cases h1
      have ho := hd1 _ rfl
      subst ho
      refine St.thenN ?_
      exact St.hereE ⟨(A2, c2, ye), hye⟩ (zb rfl) (fun _ w => (Sat.joinD w).sl [0,0] 1 rfl)
  · rintro ⟨⟨A3, c3, ye⟩, hye⟩
    refine St.ab [2] rfl ?_
    cases h
    have hl : ye.length = r.length := by rw [← hye, List.length_map]
    refine St.rt rfl Try.results43 (.tmp rfl .nil) rfl ⟨A3, c3, ye, hye, by show Value.slice A3 ye.length c3 = _; rw [hl], rfl⟩ (zl [1] 0 rfl)
theorem c_settings_Store_All_deep {s_p0 : T_settings_Store} {s_p0_d : T_Device} {A1 : Option Addr} {c1 : Nat} {A2 : Option Addr} {c2 : Nat} {M1 : Option Nat} {gb1 : Nat} {gb2 : Nat} {r : (List T_Setting)} (h : m_settings_Store_All s_p0 s_p0_d = some r) :
    Fun Try.prog 14 [.pointer (some ⟨gb1, 0, none⟩)] [.res (Box gb1 73 (bx_T_settings_Store s_p0 gb2 M1)), .res (MapV (kint .u8) (cod eu8) M1 s_p0.all), .res (Box gb2 80 (bx_T_Device s_p0_d A1 c1 A2 c2)), .res (OwnL eu8 5 A1 c1 s_p0_d.bytes), .res (OwnL ei64 3 A2 c2 s_p0_d.wear)] (fun v_ F_ => ∃ (A3 : Option Addr) (c3 : Nat) (ye : List DY), ye.map (·.1) = r ∧ v_ = .slice A3 r.length c3 ∧ F_ = [.res (Box gb1 73 (bx_T_settings_Store s_p0 gb2 M1)), .res (MapV (kint .u8) (cod eu8) M1 s_p0.all), .res (Box gb2 80 (bx_T_Device s_p0_d A1 c1 A2 c2)), .res (OwnL eu8 5 A1 c1 s_p0_d.bytes), .res (OwnL ei64 3 A2 c2 s_p0_d.wear), .res (OwnD 39 5 A3 c3 ye)]) := by
  unfold m_settings_Store_All at h
  refine Fun.intro Try.func14 rfl rfl rfl fun w R => ?_
  refine St.ab [0] rfl ?_
  refine St.a 3 rfl ?_
  refine St.loadB 4 rfl rfl (.head _) rfl rfl ?_
  obtain ⟨r1, hr1, h⟩ := bnd_e h
  refine St.call (c_sorted_deep hr1) ent43 rfl rfl rfl (zl [1] 0 rfl) ?_
  rintro _ _ ⟨A3, c3, ye, hye, rfl, rfl⟩
  refine St.nm 6 rfl ?_
  refine St.b [2] rfl ?_
  cases h
  exact St.rt rfl Try.results14 (.tmp rfl .nil) rfl ⟨A3, c3, ye, hye, rfl, rfl⟩ (zl [2,0,1,1,1] 0 rfl)
end Go.Proofs.Ythdpagcklakahaa
end
section
namespace Go.Proofs.Ythdpagcklakahaa
open Go
set_option linter.unusedVariables false
set_option maxRecDepth 4000
noncomputable def m_law06_SettingsKeeps (l_p0 : (List Int)) (updates : Int) (key : Int) : Option Bool :=
  bnd (m_made_Light l_p0) fun r1 => bif !r1 then (bnd (m_law06_awake) fun r2 => some r2) else (bnd (m_made_Mod updates 60) fun r3 => bnd (m_law06_filled l_p0 r3) fun r4 => optM r4.1 (bif !r4.2.2 then (some false) else (none)) (fun q1 => bif !r4.2.2 then (some false) else (bnd (m_settings_Open q1.1 0) fun r5 => optM r5.2.1 (some false) (fun q2 => bif (r5.2.2 != 0) then (some false) else (bnd (m_settings_Store_All q2 r5.1) fun r6 => bnd ((bnd (m_ref06_Same r6 r4.2.1) fun r7 => bif !r7 then (some true) else (bnd (m_settings_Store_All q1.2 r5.1) fun r8 => bnd (m_ref06_Same r8 r4.2.1) fun r9 => bif !r9 then (some true) else (bnd (m_settings_Store_Generation q1.2 r5.1) fun r10 => bnd (m_settings_Store_Generation q2 r5.1) fun r11 => some (r10 != r11))) : Option Bool)) fun o1 => bif o1 then (some false) else (bnd (loopM (τ := Bool × Int × List Int × Bool) (fun (s1 : Bool × Int × Int × List Int × Bool) => bif decide (s1.2.1 < (r4.2.1.length : Int)) then (bnd (elt r4.2.1 s1.2.1) fun x1 => bif (x1.Key == key) then (some (.next (true, IntKind.wrap .i64 (s1.2.1 + 1), x1.Key, x1.Value, x1.Delete))) else (some (.next (s1.1, IntKind.wrap .i64 (s1.2.1 + 1), s1.2.2.1, s1.2.2.2.1, s1.2.2.2.2)))) else (some (.done (s1.1, s1.2.2.1, s1.2.2.2.1, s1.2.2.2.2)))) (false, 0, 0, [], false)) fun o2 => bnd (m_settings_Store_Get q2 key r5.1) fun r12 => bnd ((bif !(r12.2 == o2.1) then (some true) else (bnd (m_ref01_Same r12.1 o2.2.2.1) fun r13 => some (!r13)) : Option Bool)) fun o3 => bif o3 then (some false) else (bnd (loopM (τ := List T_Setting) (fun (s2 : List T_Setting × Int) => bif decide (s2.2 < (r6.length : Int)) then (bnd (loopM (τ := List T_Setting) (fun (s3 : List T_Setting × Int) => bnd (elt s3.1 s2.2) fun x2 => bif decide (s3.2 < (x2.Value.length : Int)) then (bnd (elt s3.1 s2.2) fun x3 => bnd (elt x3.Value s3.2) fun x4 => bnd (setE x3.Value s3.2 (iXor .u8 x4 255)) fun l1 => bnd (setE s3.1 s2.2 (⟨x3.Key, l1, x3.Delete⟩ : T_Setting)) fun l2 => some (.next (l2, IntKind.wrap .i64 (s3.2 + 1)))) else (some (.done s3.1))) (s2.1, 0)) fun z1 => some (.next (z1, IntKind.wrap .i64 (s2.2 + 1)))) else (some (.done s2.1))) (r6, 0)) fun o4 => bnd ((bnd (m_settings_Store_All q2 r5.1) fun r14 => bnd (m_ref06_Same r14 r4.2.1) fun r15 => bif r15 then (bnd (m_law06_awake) fun r16 => some r16) else (some false) : Option Bool)) fun o5 => some o5)))))))
set_option maxHeartbeats 4000000 in
theorem c_law06_SettingsKeeps {l_p0 : (List Int)} {updates : Int} {key : Int} {A1 : Option Addr} {c1 : Nat} {r : Bool} (h : m_law06_SettingsKeeps l_p0 updates key = some r) :
    Fun Try.prog 3 [.slice A1 l_p0.length c1, .int .i64 updates, .int .u8 key] [.ro (SlL ei64 A1 c1 l_p0)] (Val (.bool r)) := by
 unfold m_law06_SettingsKeeps at h
 refine Fun.intro Try.func3 rfl rfl rfl fun w R => ?_;refine .ab [0,1,2] rfl ?_;refine .seq ?_;refine .a 1 rfl ?_;obtain ⟨r1, hr1, h⟩ := bnd_e h;refine .callV (c_made_Light hr1) ent9 rfl rfl rfl rfl (za [0] rfl) ?_;refine .b [0,1,2,23] rfl ?_;refine .cb h rfl (fun h => ?_) (fun h => ?_)
 ·refine .seq ?_;refine .region ?_;obtain ⟨r2, hr2, h⟩ := bnd_e h;refine .callV (c_law06_awake hr2) ent10 rfl rfl rfl rfl trivial ?_;refine .bf [6] [] 1 rfl rfl ?_;cases h;exact .rt rfl Try.results3 (.tmp rfl .nil) rfl ⟨rfl, rfl⟩ (fun _ w => w)
 refine .sk ?_;refine .pr [0,1,2] rfl ?_;refine .a 2 rfl ?_;obtain ⟨r3, hr3, h⟩ := bnd_e h;refine .callV (c_made_Mod hr3) ent12 rfl rfl rfl rfl trivial ?_;obtain ⟨r4, hr4, h⟩ := bnd_e h;refine .call (c_law06_filled hr4) ent11 rfl rfl rfl (zd [0] [] 0 rfl) ?_
 intro v_ F_ hp_
 rcases hq1 : r4.1 with _ | q1
 ·replace hp_ := optP_n hq1 hp_;replace h := optM_n hq1 h;obtain ⟨A2, c2, rfl, rfl⟩ := hp_;refine .nm 2 rfl ?_;refine .bf [2,7,8,9,10] [0] 1 rfl rfl ?_;refine .seq ?_;refine .ab [2,7,8,9,35] rfl ?_;refine .cb h rfl (fun h => ?_) (fun h => ?_)
  ·refine .abf [6] [] 1 rfl rfl ?_;cases h;exact .rt rfl Try.results3 (.tmp rfl .nil) rfl ⟨rfl, rfl⟩ (fun _ w => w)
  refine .sk ?_;refine .pr [2,7,8,9] rfl ?_;refine .a 1 rfl ?_;cases h
 replace hp_ := optP_s hq1 hp_;replace h := optM_s hq1 h;obtain ⟨g1, g2, A3, c3, A4, c4, M1, A5, c5, rfl, rfl⟩ := hp_;refine .nm 7 rfl ?_;refine .bf [2,7,8,9,10] [0,0,0,0,0,0] 1 rfl rfl ?_;refine .seq ?_;refine .ab [2,7,8,9,35] rfl ?_;refine .cb h rfl (fun h => ?_) (fun h => ?_)
 ·refine .abf [6] [] 6 rfl rfl ?_;cases h;exact .rt rfl Try.results3 (.tmp rfl .nil) rfl ⟨rfl, rfl⟩ (fun _ w => w)
 refine .sk ?_;refine .pr [2,7,8,9] rfl ?_;refine .a 1 rfl ?_;obtain ⟨r5, hr5, h⟩ := bnd_e h;refine .call (c_settings_Open hr5) ent13 rfl rfl rfl (zl [1,1,1] 0 rfl) ?_
 intro v_ F_ hp_
 rcases hq2 : r5.2.1 with _ | q2
 ·replace hp_ := optP_n hq2 hp_;replace h := optM_n hq2 h;obtain ⟨A6, c6, A7, c7, rfl, rfl⟩ := hp_;refine .nm 6 rfl ?_;refine .b [2,8,9,11,12] rfl ?_;refine .seq ?_;refine .ab [2,8,9,11,46] rfl ?_;refine .condT rfl ?_;refine .abf [6] [] 6 rfl rfl ?_;cases h;exact .rt rfl Try.results3 (.tmp rfl .nil) rfl ⟨rfl, rfl⟩ (fun _ w => w)
 replace hp_ := optP_s hq2 hp_;replace h := optM_s hq2 h;obtain ⟨A8, c8, A9, c9, g3, M2, rfl, rfl⟩ := hp_;refine .nm 8 rfl ?_;refine .b [2,8,9,11,12] rfl ?_;refine .seq ?_;refine .ab [2,8,9,11,46] rfl ?_;refine .cb h rfl (fun h => ?_) (fun h => ?_)
 ·refine .abf [6] [] 8 rfl rfl ?_;cases h;exact .rt rfl Try.results3 (.tmp rfl .nil) rfl ⟨rfl, rfl⟩ (fun _ w => w)
 refine .sk ?_;refine .pr [2,8,9,11] rfl ?_;refine .a 1 rfl ?_;obtain ⟨r6, hr6, h⟩ := bnd_e h;refine .call (c_settings_Store_All_deep (gb1 := g3) (gb2 := g1) hr6) ent14 rfl rfl rfl (zl [3,3] 0 rfl) ?_;rintro _ _ ⟨A10, c10, ye1, hye1, rfl, rfl⟩;refine .nm 9 rfl ?_;refine .b [2,8,9,11,13] rfl ?_;refine .seq ?_;refine .seq ?_;obtain ⟨o1, hj1, h⟩ := bnd_e h
 refine .cutE (fun (e1 : Unit) => [(2, .int .u8 key), (9, .slice A5 r4.2.1.length c5), (11, .pointer (some ⟨g3, 0, none⟩)), (13, .slice A10 r6.length c10), (66, .bool o1)]) (fun e1 => .res (Box g3 73 (bx_T_settings_Store q2 g1 M2)) :: .res (MapV (kint .u8) (cod eu8) M2 q2.all) :: .res (Box g1 80 (bx_T_Device r5.1 A8 c8 A9 c9)) :: .res (OwnL eu8 5 A8 c8 r5.1.bytes) :: .res (OwnL ei64 3 A9 c9 r5.1.wear) :: .res (OwnD 39 5 A10 c10 ye1) :: .ro (Sl (codL l_T_Setting) A5 c5 r4.2.1) :: R) ?_ ?_
 ·refine .region ?_;refine .n 2 rfl ?_;obtain ⟨r7, hr7, hj1⟩ := bnd_e hj1;refine .callL (c_ref06_Same hr7) ent15 rfl rfl rfl rfl (Asks.deep hye1 (zm 5 rfl) (Asks.ro (zm 6 rfl) Asks.nil)) (fun _ _ h => by rw [h.2]; exact True.intro) ?_;rintro _ _ ⟨rfl, rfl⟩;refine .nm 9 rfl ?_;refine .n 2 rfl ?_;refine .gSplit (dj := 53) _ rfl (fun hb5 => ?_) (fun hb5 => ?_)
  ·replace hj1 := bif_t hb5 hj1;cases hj1;refine .be rfl ?_;exact .hereE () (zb rfl) (zl [0,0,0,0,0,0,0] 2 rfl)
  replace hj1 := bif_f hb5 hj1;refine .n 1 rfl ?_;refine .gOn (dj := 53) rfl rfl ?_;obtain ⟨r8, hr8, hj1⟩ := bnd_e hj1;refine .call (c_settings_Store_All (gb1 := g2) (gb2 := g1) hr8) ent14 rfl rfl rfl (zl [7,7,2,2,2] 0 rfl) ?_;rintro _ _ ⟨A11, c11, rfl, rfl⟩;refine .nm 10 rfl ?_;refine .n 1 rfl ?_;refine .gOn (dj := 53) rfl rfl ?_;refine .asrt (fun _ w => (w.sl [5] 0 rfl).meltC) ?_
  obtain ⟨r9, hr9, hj1⟩ := bnd_e hj1;refine .callV (c_ref06_Same hr9) ent15 rfl rfl rfl rfl (za [0,9] rfl) ?_;refine .n 3 rfl ?_;refine .gSplit (dj := 60) _ rfl (fun hb6 => ?_) (fun hb6 => ?_)
  ·replace hj1 := bif_t hb6 hj1;cases hj1;refine .be rfl ?_;exact .hereE () (zb rfl) (zl [6,6] 3 rfl)
  replace hj1 := bif_f hb6 hj1;refine .n 1 rfl ?_;refine .gOn (dj := 60) rfl rfl ?_;obtain ⟨r10, hr10, hj1⟩ := bnd_e hj1;refine .call (c_settings_Store_Generation (gb1 := g2) (gb2 := g1) hr10) ent16 rfl rfl rfl (zl [1,1,1,1,1] 0 rfl) ?_;rintro _ _ ⟨rfl, rfl⟩;refine .nm 10 rfl ?_;refine .n 1 rfl ?_;refine .gOn (dj := 60) rfl rfl ?_;obtain ⟨r11, hr11, hj1⟩ := bnd_e hj1
  refine .call (c_settings_Store_Generation (gb1 := g3) (gb2 := g1) hr11) ent16 rfl rfl rfl (zl [6,6,2,2,2] 0 rfl) ?_;rintro _ _ ⟨rfl, rfl⟩;refine .nm 10 rfl ?_;cases hj1;refine .be rfl ?_;exact .hereE () (zb rfl) (zl [0,0,0,0,0] 3 rfl)
 rintro e1;refine .cb h rfl (fun h => ?_) (fun h => ?_)
 ·refine .abf [6] [] 7 rfl rfl ?_;cases h;exact .rt rfl Try.results3 (.tmp rfl .nil) rfl ⟨rfl, rfl⟩ (fun _ w => w)
 refine .sk ?_;refine .pr [2,9,11,13] rfl ?_;refine .a 1 rfl ?_;refine .alloc rfl rfl fun g4 => ?_;refine .store 0 rfl rfl rfl rfl rfl rfl .z rfl ?_;refine .b [2,9,11,13,14,15] rfl ?_;refine .seq ?_;refine .ae rfl ?_;refine .asrt (fun _ w => w.nilSl (cod eu8)) ?_;obtain ⟨o2, hl1, h⟩ := bnd_e h
 refine .cutE (fun (e3 : Option Addr × Nat) => [(2, .int .u8 key), (9, .slice A5 r4.2.1.length c5), (11, .pointer (some ⟨g3, 0, none⟩)), (13, .slice A10 r6.length c10), (14, .pointer (some ⟨g4, 0, none⟩)), (15, .bool o2.1)]) (fun e3 => .ro (SlL eu8 e3.1 e3.2 o2.2.2.1) :: .res (Box g4 39 [.int .u8 o2.2.1, .slice e3.1 o2.2.2.1.length e3.2, .bool o2.2.2.2]) :: .res (Box g3 73 (bx_T_settings_Store q2 g1 M2)) :: .res (MapV (kint .u8) (cod eu8) M2 q2.all) :: .res (Box g1 80 (bx_T_Device r5.1 A8 c8 A9 c9)) :: .res (OwnL eu8 5 A8 c8 r5.1.bytes) :: .res (OwnL ei64 3 A9 c9 r5.1.wear) :: .res (OwnD 39 5 A10 c10 ye1) :: .ro (Sl (codL l_T_Setting) A5 c5 r4.2.1) :: R) ?_ ?_
 ·refine .block ?_
  refine .loop hl1 (fun (s1 : Bool × Int × Int × List Int × Bool) (e2 : Option Addr × Nat) => [(2, .int .u8 key), (9, .slice A5 r4.2.1.length c5), (11, .pointer (some ⟨g3, 0, none⟩)), (13, .slice A10 r6.length c10), (14, .pointer (some ⟨g4, 0, none⟩)), (15, .bool s1.1), (16, .int .i64 s1.2.1)]) (fun s1 e2 => .ro (SlL eu8 e2.1 e2.2 s1.2.2.2.1) :: .res (Box g4 39 [.int .u8 s1.2.2.1, .slice e2.1 s1.2.2.2.1.length e2.2, .bool s1.2.2.2.2]) :: .res (Box g3 73 (bx_T_settings_Store q2 g1 M2)) :: .res (MapV (kint .u8) (cod eu8) M2 q2.all) :: .res (Box g1 80 (bx_T_Device r5.1 A8 c8 A9 c9)) :: .res (OwnL eu8 5 A8 c8 r5.1.bytes) :: .res (OwnL ei64 3 A9 c9 r5.1.wear) :: .res (OwnD 39 5 A10 c10 ye1) :: .ro (Sl (codL l_T_Setting) A5 c5 r4.2.1) :: R) (fun _ _ => True) (none, 0) trivial (zb rfl) (fun _ w => w) ?_
  rintro s1 ⟨A12, c12⟩ - hit1;obtain ⟨st1, hm1, hd1⟩ := iter_e hit1;have h1 := hm1;refine .seq ?_;refine .ab [2,9,11,13,14,15,16,71] rfl ?_;refine .cb h1 rfl (fun h1 => ?_) (fun h1 => ?_)
  ·refine .sk ?_;refine .pr [2,9,11,13,14,15,16] rfl ?_;refine .seq ?_;refine .block ?_;refine .a 2 rfl ?_;obtain ⟨x1, hx1, h1⟩ := bnd_e h1;refine .ixN hx1 rfl rfl rfl (zm 8 rfl) rfl rfl rfl rfl rfl fun b1 ob1 ex1 => ?_;obtain ⟨⟨A14, c14⟩, _⟩ := ex1;refine .nm 11 rfl ?_;refine .p rfl rfl ?_;refine .load ob1 0 rfl rfl (.head _) rfl rfl ?_;refine .bf [2,9,11,13,14,15,16,80] [] 2 rfl rfl ?_
   refine .cb h1 rfl (fun h1 => ?_) (fun h1 => ?_)
   ·refine .region ?_;refine .n 2 rfl ?_;refine .ixN hx1 rfl rfl rfl (zm 8 rfl) rfl rfl rfl rfl rfl fun b2 ob2 ex2 => ?_;obtain ⟨⟨A15, c15⟩, _⟩ := ex2;refine .nm 11 rfl ?_;refine .load ob2 0 rfl rfl (.head _) rfl rfl ?_;refine .store 0 rfl rfl rfl rfl rfl rfl (.s (.s (.s .z))) rfl ?_;refine .p rfl rfl ?_;refine .done ?_;refine .blkN ?_;refine .thenN ?_
    refine .pf [2,9,11,13,14,15,16] [0,1] 2 rfl rfl ?_;refine .region ?_;cases h1;refine .be rfl ?_;exact .again _ (A15, c15) hm1 trivial (zb rfl) (zl [1] 0 rfl)
   refine .skip ?_;refine .blkN ?_;refine .thenN ?_;refine .pr [2,9,11,13,14,15,16] rfl ?_;refine .region ?_;cases h1;refine .be rfl ?_;exact .again _ (A12, c12) hm1 trivial (zb rfl) (fun _ w => w)
  refine .exit ?_;repeat (first | refine .thenX ?_ | refine .blkMiss rfl ?_)
  refine .blkHit ?_;cases h1;have ho := hd1 _ rfl;subst ho;refine .thenN ?_;exact .hereE (A12, c12) (zb rfl) (fun _ w => w)
 rintro ⟨A13, c13⟩;refine .a 2 rfl ?_;obtain ⟨r12, hr12, h⟩ := bnd_e h;refine .call (c_settings_Store_Get (gb1 := g3) (gb2 := g1) hr12) ent17 rfl rfl rfl (zl [2,2,2,2,2] 0 rfl) ?_;rintro _ _ ⟨A16, c16, rfl, rfl⟩;refine .nm 10 rfl ?_;refine .b [9,11,13,14,15,17,18] rfl ?_;refine .seq ?_;refine .seq ?_;obtain ⟨o3, hj2, h⟩ := bnd_e h
 refine .cutE (fun (e4 : Unit) => [(9, .slice A5 r4.2.1.length c5), (11, .pointer (some ⟨g3, 0, none⟩)), (13, .slice A10 r6.length c10), (100, .bool o3)]) (fun e4 => .res (Box g3 73 (bx_T_settings_Store q2 g1 M2)) :: .res (MapV (kint .u8) (cod eu8) M2 q2.all) :: .res (Box g1 80 (bx_T_Device r5.1 A8 c8 A9 c9)) :: .res (OwnL eu8 5 A8 c8 r5.1.bytes) :: .res (OwnL ei64 3 A9 c9 r5.1.wear) :: .res (OwnD 39 5 A10 c10 ye1) :: .ro (Sl (codL l_T_Setting) A5 c5 r4.2.1) :: R) ?_ ?_
 ·refine .region ?_;refine .n 4 rfl ?_;refine .gSplit (dj := 94) _ rfl (fun hb10 => ?_) (fun hb10 => ?_)
  ·replace hj2 := bif_t hb10 hj2;cases hj2;refine .be rfl ?_;exact .hereE () (zb rfl) (zl [0,0,0,0,0] 3 rfl)
  replace hj2 := bif_f hb10 hj2;refine .n 2 rfl ?_;refine .gOn (dj := 94) rfl rfl ?_;refine .loadB 1 rfl rfl (zm 7 rfl) rfl rfl ?_;refine .gOn (dj := 94) rfl rfl ?_;refine .asrt (fun _ w => (w.sl [5] 0 rfl).meltL) ?_;obtain ⟨r13, hr13, hj2⟩ := bnd_e hj2;refine .callV (c_ref01_Same hr13) ent18 rfl rfl rfl rfl (za [0,6] rfl) ?_;cases hj2;refine .be rfl ?_
  exact .hereE () (zb rfl) (zl [1,1,1,1,1] 3 rfl)
 rintro e4;refine .cb h rfl (fun h => ?_) (fun h => ?_)
 ·refine .abf [6] [] 7 rfl rfl ?_;cases h;exact .rt rfl Try.results3 (.tmp rfl .nil) rfl ⟨rfl, rfl⟩ (fun _ w => w)
 refine .sk ?_;refine .pr [9,11,13] rfl ?_;refine .seq ?_;refine .ae rfl ?_
 refine .asrt (F' := .res (OwnD 39 5 A10 c10 ye1) :: .res (Box g3 73 (bx_T_settings_Store q2 g1 M2)) :: .res (MapV (kint .u8) (cod eu8) M2 q2.all) :: .res (Box g1 80 (bx_T_Device r5.1 A8 c8 A9 c9)) :: .res (OwnL eu8 5 A8 c8 r5.1.bytes) :: .res (OwnL ei64 3 A9 c9 r5.1.wear) :: .ro (Sl (codL l_T_Setting) A5 c5 r4.2.1) :: R) (zl [5] 0 rfl) ?_;obtain ⟨o4, hl2, h⟩ := bnd_e h
 refine .cutE (fun (_ : Unit) => [(9, .slice A5 r4.2.1.length c5), (11, .pointer (some ⟨g3, 0, none⟩))]) (fun _ => .res (Box g3 73 (bx_T_settings_Store q2 g1 M2)) :: .res (MapV (kint .u8) (cod eu8) M2 q2.all) :: .res (Box g1 80 (bx_T_Device r5.1 A8 c8 A9 c9)) :: .res (OwnL eu8 5 A8 c8 r5.1.bytes) :: .res (OwnL ei64 3 A9 c9 r5.1.wear) :: .ro (Sl (codL l_T_Setting) A5 c5 r4.2.1) :: R) ?_ ?_
 ·refine .block ?_
  refine .loop hl2 (fun (s2 : List T_Setting × Int) (e5 : List DY) => [(9, .slice A5 r4.2.1.length c5), (11, .pointer (some ⟨g3, 0, none⟩)), (13, .slice A10 r6.length c10), (19, .int .i64 s2.2)]) (fun s2 e5 => .res (OwnD 39 5 A10 c10 e5) :: .res (Box g3 73 (bx_T_settings_Store q2 g1 M2)) :: .res (MapV (kint .u8) (cod eu8) M2 q2.all) :: .res (Box g1 80 (bx_T_Device r5.1 A8 c8 A9 c9)) :: .res (OwnL eu8 5 A8 c8 r5.1.bytes) :: .res (OwnL ei64 3 A9 c9 r5.1.wear) :: .ro (Sl (codL l_T_Setting) A5 c5 r4.2.1) :: R) (fun s2 e5 => e5.map (·.1) = s2.1 ∧ e5.length = r6.length) ye1 ⟨hye1, by rw [← hye1, List.length_map]⟩ (zb rfl) (fun _ w => w) ?_
  rintro s2 e5 ⟨hy1, hn1⟩ hit2;obtain ⟨st2, hm2, hd2⟩ := iter_e hit2;have h2 := hm2;refine .seq ?_;refine .ae rfl ?_;refine .cb h2 rfl (fun h2 => ?_) (fun h2 => ?_)
  ·refine .sk ?_;refine .pr [9,11,13,19] rfl ?_;refine .seq ?_;refine .block ?_;refine .ab [9,11,13,19,20] rfl ?_;obtain ⟨z1, hl3, h2⟩ := bnd_e h2;refine .selfThen ?_
   refine .cutE (fun (e6 : {q : List DY // q.map (·.1) = z1 ∧ q.length = r6.length}) => [(9, .slice A5 r4.2.1.length c5), (11, .pointer (some ⟨g3, 0, none⟩)), (13, .slice A10 r6.length c10), (19, .int .i64 s2.2)]) (fun e6 => .res (OwnD 39 5 A10 c10 e6.1) :: .res (Box g3 73 (bx_T_settings_Store q2 g1 M2)) :: .res (MapV (kint .u8) (cod eu8) M2 q2.all) :: .res (Box g1 80 (bx_T_Device r5.1 A8 c8 A9 c9)) :: .res (OwnL eu8 5 A8 c8 r5.1.bytes) :: .res (OwnL ei64 3 A9 c9 r5.1.wear) :: .ro (Sl (codL l_T_Setting) A5 c5 r4.2.1) :: R) ?_ ?_
   ·refine .block ?_
    refine .loop hl3 (fun (s3 : List T_Setting × Int) (e6 : List DY) => [(9, .slice A5 r4.2.1.length c5), (11, .pointer (some ⟨g3, 0, none⟩)), (13, .slice A10 r6.length c10), (19, .int .i64 s2.2), (20, .int .i64 s3.2)]) (fun s3 e6 => .res (OwnD 39 5 A10 c10 e6) :: .res (Box g3 73 (bx_T_settings_Store q2 g1 M2)) :: .res (MapV (kint .u8) (cod eu8) M2 q2.all) :: .res (Box g1 80 (bx_T_Device r5.1 A8 c8 A9 c9)) :: .res (OwnL eu8 5 A8 c8 r5.1.bytes) :: .res (OwnL ei64 3 A9 c9 r5.1.wear) :: .ro (Sl (codL l_T_Setting) A5 c5 r4.2.1) :: R) (fun s3 e6 => e6.map (·.1) = s3.1 ∧ e6.length = r6.length) e5 ⟨hy1, hn1⟩ (zb rfl) (fun _ w => w) ?_
    rintro s3 e6 ⟨hy2, hn2⟩ hit3;obtain ⟨st3, hm3, hd3⟩ := iter_e hit3;have h3 := hm3;obtain ⟨x2, hx2, h3⟩ := bnd_e h3;obtain ⟨Bx2, cx2, hex2, hnx2⟩ := elt_fst hy2 hx2;refine .asrt (fun _ w => w.splitD) ?_;refine .seq ?_;refine .a 3 rfl ?_;refine .ixO (E := encD) hex2 rfl rfl rfl (.head _) hn2.symm rfl rfl rfl rfl fun gx2 hA => ?_;subst hA;refine .p rfl rfl ?_
    refine .ldO (E := encD) 1 hex2 rfl rfl (.head _) rfl rfl ?_;refine .b [9,11,13,19,20,114] rfl ?_;refine .asrt (fun _ w => Sat.joinD w) ?_;refine .cb h3 rfl (fun h3 => ?_) (fun h3 => ?_)
    ·refine .sk ?_;refine .pr [9,11,13,19,20] rfl ?_;refine .seq ?_;refine .block ?_;refine .region ?_;refine .n 2 rfl ?_;obtain ⟨x3, hx3, h3⟩ := bnd_e h3;obtain ⟨Bx3, cx3, hex3, hnx3⟩ := elt_fst hy2 hx3;refine .asrt (fun _ w => Sat.outDs hnx3 ((w.splitD).sl [1] 0 rfl)) ?_;refine .ixO (E := encD) hex3 rfl rfl rfl (zm 2 rfl) hn2.symm rfl rfl rfl rfl fun gx3 hA => ?_;cases hA;refine .p rfl rfl ?_
     refine .ldO (E := encD) 1 hex3 rfl rfl (zm 2 rfl) rfl rfl ?_;refine .p rfl rfl ?_;obtain ⟨x4, hx4, h3⟩ := bnd_e h3;refine .ixO (E := eu8) hx4 rfl rfl rfl (.head _) rfl rfl rfl rfl rfl fun gx4 hA => ?_;subst hA;refine .ldO (E := eu8) 0 hx4 rfl rfl (.head _) rfl rfl ?_;refine .p rfl rfl ?_;refine .ixO (E := eu8) hx4 rfl rfl rfl (.head _) rfl rfl rfl rfl rfl fun qx4 hA => ?_;cases hA
     obtain ⟨l1, hl1, h3⟩ := bnd_e h3;refine .stO (E := eu8) 0 hx4 hl1 rfl rfl .z rfl rfl rfl rfl rfl ?_;obtain ⟨l2, hl2, h3⟩ := bnd_e h3;refine .asrt (fun _ w => Sat.inDs hnx3 (setE_len hl1) w) ?_;refine .done ?_;refine .blkN ?_;refine .thenN ?_;refine .pr [9,11,13,19,20] rfl ?_;refine .region ?_;cases h3;refine .be rfl ?_
     exact .again _ (e6.set s2.2.toNat (⟨x3.Key, l1, x3.Delete⟩, some ⟨gx4, 0, none⟩, cx3)) hm3 ⟨map_set_fst hy2 hl2, by rw [List.length_set]; exact hn2⟩ (zb rfl) (fun _ w => w)
    refine .exit ?_;repeat (first | refine .thenX ?_ | refine .blkMiss rfl ?_)
    refine .blkHit ?_;cases h3;have ho := hd3 _ rfl;subst ho;refine .thenN ?_;exact .hereE ⟨e6, hy2, hn2⟩ (zb rfl) (fun _ w => w)
   rintro ⟨e6, hy2, hn2⟩;refine .blkN ?_;refine .thenN ?_;refine .region ?_;cases h2;refine .be rfl ?_;exact .again _ e6 hm2 ⟨hy2, hn2⟩ (zb rfl) (fun _ w => w)
  refine .exit ?_;repeat (first | refine .thenX ?_ | refine .blkMiss rfl ?_)
  refine .blkHit ?_;cases h2;have ho := hd2 _ rfl;subst ho;refine .thenN ?_;exact .hereE () (zb rfl) (fun _ w => w.sl [] 1 rfl)
 rintro _;refine .seq ?_;obtain ⟨o5, hj3, h⟩ := bnd_e h;refine .cutE (fun (e7 : Unit) => [(6, .bool o5)]) (fun e7 => R) ?_ ?_
 ·refine .region ?_;refine .p rfl rfl ?_;obtain ⟨r14, hr14, hj3⟩ := bnd_e hj3;refine .call (c_settings_Store_All (gb1 := g3) (gb2 := g1) hr14) ent14 rfl rfl rfl (fun _ w => w) ?_;rintro _ _ ⟨A17, c17, rfl, rfl⟩;refine .nm 7 rfl ?_;refine .p rfl rfl ?_;refine .asrt (fun _ w => (w.sl [5] 0 rfl).meltC) ?_;obtain ⟨r15, hr15, hj3⟩ := bnd_e hj3
  refine .callV (c_ref06_Same hr15) ent15 rfl rfl rfl rfl (za [0,6] rfl) ?_;refine .p rfl rfl ?_;refine .gSplit (dj := 131) _ rfl (fun hb12 => ?_) (fun hb12 => ?_)
  ·replace hj3 := bif_t hb12 hj3;refine .gOn (dj := 131) rfl rfl ?_;obtain ⟨r16, hr16, hj3⟩ := bnd_e hj3;refine .callV (c_law06_awake hr16) ent10 rfl rfl rfl rfl trivial ?_;cases hj3;refine .be rfl ?_;exact .hereE () (zb rfl) (zl [] 7 rfl)
  replace hj3 := bif_f hb12 hj3;cases hj3;refine .be rfl ?_;exact .hereE () (zb rfl) (zl [] 7 rfl)
 rintro e7;cases h;exact .rt rfl Try.results3 (.tmp rfl .nil) rfl ⟨rfl, rfl⟩ (fun _ w => w)
end Go.Proofs.Ythdpagcklakahaa
end
section
namespace Go.Proofs.Ythdpagcklakahaa
open Go
set_option linter.unusedSimpArgs false
set_option linter.unusedVariables false
def rng (l : List Int) : Prop := ∀ x ∈ l, 0 ≤ x ∧ x ≤ 255
theorem rng.nil : rng [] := fun x h => by cases h
theorem rng.app {l m : List Int} (h : rng l) (k : rng m) : rng (l ++ m) := fun x hx => by
  rcases List.mem_append.1 hx with hx | hx
  · exact h x hx
  · exact k x hx
theorem rng.cons {x : Int} {l : List Int} (h : 0 ≤ x ∧ x ≤ 255) (k : rng l) : rng (x :: l) := fun y hy => by
  rcases List.mem_cons.1 hy with rfl | hy
  · exact h
  · exact k y hy
theorem rng.sub {l m : List Int} (h : rng l) (k : ∀ x ∈ m, x ∈ l) : rng m := fun x hx => h x (k x hx)
theorem rng.take {l : List Int} (h : rng l) (n : Nat) : rng (l.take n) := h.sub fun _ hx => List.mem_of_mem_take hx
theorem rng.drop {l : List Int} (h : rng l) (n : Nat) : rng (l.drop n) := h.sub fun _ hx => List.mem_of_mem_drop hx
theorem rng.set {l : List Int} (h : rng l) (n : Nat) {v : Int} (hv : 0 ≤ v ∧ v ≤ 255) : rng (l.set n v) := fun x hx => by
  rcases List.mem_or_eq_of_mem_set hx with hx | hx
  · exact h x hx
  · subst hx; exact hv
theorem rng.get {l : List Int} (h : rng l) (i : Nat) : 0 ≤ l.getD i 0 ∧ l.getD i 0 ≤ 255 := by
  rw [List.getD_eq_getElem?_getD]
  cases hi : l[i]? with
  | none => exact ⟨Int.le_refl 0, by decide⟩
  | some x => exact h x (List.mem_of_getElem? hi)
theorem rng.rep {n : Nat} {v : Int} (hv : 0 ≤ v ∧ v ≤ 255) : rng (List.replicate n v) := fun x hx => by
  obtain ⟨_, rfl⟩ := List.mem_replicate.1 hx
  exact hv
theorem byte_nat {x : Int} (h : 0 ≤ x ∧ x ≤ 255) : ∃ n : Nat, n < 256 ∧ x = (n : Int) := ⟨x.toNat, by omega, by omega⟩
theorem and_r {x y : Int} (hx : 0 ≤ x ∧ x ≤ 255) (hy : 0 ≤ y ∧ y ≤ 255) : 0 ≤ iAnd .u8 x y ∧ iAnd .u8 x y ≤ 255 := by
  obtain ⟨a, ha, rfl⟩ := byte_nat hx
  obtain ⟨b, hb, rfl⟩ := byte_nat hy
  rw [iAnd_u8 ha hb]
  have := Nat.and_lt_two_pow (n := 8) a (y := b) hb
  omega
theorem or_r {x y : Int} (hx : 0 ≤ x ∧ x ≤ 255) (hy : 0 ≤ y ∧ y ≤ 255) : 0 ≤ iOr .u8 x y ∧ iOr .u8 x y ≤ 255 := by
  obtain ⟨a, ha, rfl⟩ := byte_nat hx
  obtain ⟨b, hb, rfl⟩ := byte_nat hy
  rw [iOr_u8 ha hb]
  have := Nat.or_lt_two_pow (n := 8) ha hb
  omega
theorem and_ff {x : Int} (hx : 0 ≤ x ∧ x ≤ 255) : iAnd .u8 255 x = x := by
  obtain ⟨a, ha, rfl⟩ := byte_nat hx
  have : (255 : Int) = ((255 : Nat) : Int) := rfl
  rw [this, iAnd_u8 (by decide) ha, Nat.and_comm]
  have e : a &&& 255 = a % 2 ^ 8 := Nat.and_two_pow_sub_one_eq_mod a 8
  rw [e]
  omega
theorem or_ff {x : Int} (hx : 0 ≤ x ∧ x ≤ 255) : iOr .u8 x 255 = 255 := by
  obtain ⟨a, ha, rfl⟩ := byte_nat hx
  have : (255 : Int) = ((255 : Nat) : Int) := rfl
  rw [this, iOr_u8 ha (by decide)]
  have h : ∀ a : Fin 256, a.val ||| 255 = 255 := by decide +kernel
  rw [h ⟨a, ha⟩]
theorem or_zero {x y : Int} (hx : 0 ≤ x ∧ x ≤ 255) (hy : 0 ≤ y ∧ y ≤ 255) : iOr .u8 x y = 0 ↔ x = 0 ∧ y = 0 := by
  obtain ⟨a, ha, rfl⟩ := byte_nat hx
  obtain ⟨b, hb, rfl⟩ := byte_nat hy
  rw [iOr_u8 ha hb]
  have := @Nat.or_eq_zero_iff a b
  omega
theorem or_z {x : Int} (hx : 0 ≤ x ∧ x ≤ 255) : iOr .u8 x 0 = x := by
  obtain ⟨a, ha, rfl⟩ := byte_nat hx
  have : (0 : Int) = ((0 : Nat) : Int) := rfl
  rw [this, iOr_u8 ha (by decide), Nat.or_zero]
structure OkD (d : T_Device) : Prop where
  size : 64 ≤ d.size ∧ d.size ≤ 1024
  wear : 1 ≤ d.wear.length ∧ d.wear.length ≤ 16
  len : (d.bytes.length : Int) = d.wear.length * d.size
  rng : rng d.bytes
  torn : 0 ≤ d.torn ∧ d.torn ≤ 255
  left : 0 ≤ d.left ∧ d.left ≤ 9223372036854775807
theorem OkD.bound {d : T_Device} (h : OkD d) : d.bytes.length ≤ 16384 := by
  have h1 := h.len
  have h2 := h.size
  have h3 := h.wear
  have : (d.wear.length : Int) * d.size ≤ 16 * 1024 := Int.mul_le_mul (by omega) (by omega) (by omega) (by omega)
  omega
def stepF (d : T_Device) : T_Device × Bool :=
  if 0 < d.left then (⟨d.size, d.bytes, d.wear, IntKind.wrap .i64 (d.steps + 1), d.left - 1, d.torn, d.left - 1 == 0⟩, d.left - 1 == 0)
  else (⟨d.size, d.bytes, d.wear, IntKind.wrap .i64 (d.steps + 1), d.left, d.torn, d.down⟩, d.down)
theorem step_eq {d : T_Device} (h : OkD d) : m_flash_Device_step d = some (stepF d) := by
  unfold m_flash_Device_step stepF
  by_cases hl : 0 < d.left
  · rw [cnd_t (by simpa using hl), if_pos hl, wrap_i64 (x := d.left - 1) (by have := h.left; omega) (by have := h.left; omega)]
  · rw [cnd_f (by simpa using hl), if_neg hl]
theorem stepF_bytes (d : T_Device) : (stepF d).1.bytes = d.bytes := by unfold stepF; split <;> rfl
theorem stepF_size (d : T_Device) : (stepF d).1.size = d.size := by unfold stepF; split <;> rfl
theorem stepF_wear (d : T_Device) : (stepF d).1.wear = d.wear := by unfold stepF; split <;> rfl
theorem stepF_torn (d : T_Device) : (stepF d).1.torn = d.torn := by unfold stepF; split <;> rfl
theorem stepF_down {d : T_Device} (h : d.down = false) : (stepF d).1.down = (stepF d).2 := by unfold stepF; split <;> rfl
theorem stepF_ok {d : T_Device} (h : OkD d) : OkD (stepF d).1 := by
  refine ⟨by rw [stepF_size]; exact h.size, by rw [stepF_wear]; exact h.wear, by rw [stepF_bytes, stepF_wear, stepF_size]; exact h.len, by rw [stepF_bytes]; exact h.rng, by rw [stepF_torn]; exact h.torn, ?_⟩
  have := h.left
  unfold stepF
  split <;> simp only <;> omega
def wrB (d : T_Device) (i : Nat) (v : Int) : T_Device := ⟨d.size, d.bytes.set i v, d.wear, d.steps, d.left, d.torn, d.down⟩
theorem wrB_ok {d : T_Device} (h : OkD d) (i : Nat) {v : Int} (hv : 0 ≤ v ∧ v ≤ 255) : OkD (wrB d i v) :=
  ⟨h.size, h.wear, by show ((d.bytes.set i v).length : Int) = _; rw [List.length_set]; exact h.len, h.rng.set i hv, h.torn, h.left⟩
def progL : T_Device → Nat → List Int → T_Device × Int
  | d, _, [] => (d, 0)
  | d, i, x :: b =>
    if (stepF d).2 then (wrB (stepF d).1 i (iAnd .u8 (d.bytes.getD i 0) (iOr .u8 x d.torn)), 10)
    else progL (wrB (stepF d).1 i (iAnd .u8 (d.bytes.getD i 0) x)) (i + 1) b
theorem progL_ok : ∀ (b : List Int) (d : T_Device) (i : Nat), OkD d → rng b → OkD (progL d i b).1 ∧ (progL d i b).1.size = d.size ∧ (progL d i b).1.wear = d.wear ∧ (progL d i b).1.bytes.length = d.bytes.length ∧ (progL d i b).1.torn = d.torn
  | [], d, i, h, _ => ⟨h, rfl, rfl, rfl, rfl⟩
  | x :: b, d, i, h, hb => by
    have hx := hb x (by simp)
    unfold progL
    split
    · exact ⟨wrB_ok (stepF_ok h) i (and_r (h.rng.get i) (or_r hx h.torn)), stepF_size d, stepF_wear d, by simp [wrB, stepF_bytes], stepF_torn d⟩
    · obtain ⟨h1, h2, h3, h4, h5⟩ := progL_ok b (wrB (stepF d).1 i (iAnd .u8 (d.bytes.getD i 0) x)) (i + 1) (wrB_ok (stepF_ok h) i (and_r (h.rng.get i) hx)) (fun y hy => hb y (by simp [hy]))
      exact ⟨h1, h2.trans (stepF_size d), h3.trans (stepF_wear d), by rw [h4]; simp [wrB, stepF_bytes], h5.trans (stepF_torn d)⟩
theorem getD_elt {l : List Int} {i : Nat} (h : i < l.length) : elt l (i : Int) = some (l.getD i 0) := by
  rw [elt_nat, List.getD_eq_getElem?_getD, List.getElem?_eq_getElem h]
  rfl
theorem setE_nat {α : Type} {l : List α} {i : Nat} (h : i < l.length) (v : α) : setE l (i : Int) v = some (l.set i v) := by
  unfold setE
  rw [if_pos ⟨by omega, by omega⟩]
  simp
theorem within_eq {d : T_Device} (h : OkD d) (at_ n : Int) (ha1 : -4611686018427387904 ≤ at_) : m_flash_Device_within d at_ n = some (decide (0 ≤ at_ ∧ at_ ≤ d.bytes.length ∧ 0 ≤ n ∧ n ≤ d.bytes.length - at_)) := by
  have hb := h.bound
  unfold m_flash_Device_within
  by_cases h1 : at_ ≥ 0
  · rw [cnd_t (by simpa using h1)]
    by_cases h2 : at_ ≤ (d.bytes.length : Int)
    · rw [cnd_t (by simpa using h2)]
      by_cases h3 : n ≥ 0
      · rw [cnd_t (by simpa using h3), bnd_some, wrap_i64 (by omega) (by omega)]
        congr 1
        rw [decide_eq_decide]
        omega
      · rw [cnd_f (by simpa using h3), bnd_some]
        congr 1
        symm
        rw [decide_eq_false_iff_not]
        omega
    · rw [cnd_f (by simpa using h2), bnd_some]
      congr 1
      symm
      rw [decide_eq_false_iff_not]
      omega
  · rw [cnd_f (by simpa using h1), bnd_some]
    congr 1
    symm
    rw [decide_eq_false_iff_not]
    omega
noncomputable def progStep (at_p1 : Int) (b_p2 : List Int) : T_Device × Int → Option (Step (T_Device × Int) ((T_Device × Int) ⊕ T_Device)) :=
  (fun (s1 : T_Device × Int) => bif decide (s1.2 < (b_p2.length : Int)) then (bnd (elt b_p2 s1.2) fun x1 => bnd (m_flash_Device_step s1.1) fun r2 => bif r2.2 then (bnd (elt r2.1.bytes (IntKind.wrap .i64 (at_p1 + s1.2))) fun x2 => bnd (elt r2.1.bytes (IntKind.wrap .i64 (at_p1 + s1.2))) fun x3 => bnd (elt r2.1.bytes (IntKind.wrap .i64 (at_p1 + s1.2))) fun x4 => bnd (setE r2.1.bytes (IntKind.wrap .i64 (at_p1 + s1.2)) (iAnd .u8 x3 (iOr .u8 x1 r2.1.torn))) fun l1 => some (.done (.inl ((⟨r2.1.size, l1, r2.1.wear, r2.1.steps, r2.1.left, r2.1.torn, r2.1.down⟩ : T_Device), 10)))) else (bnd (elt r2.1.bytes (IntKind.wrap .i64 (at_p1 + s1.2))) fun x5 => bnd (setE r2.1.bytes (IntKind.wrap .i64 (at_p1 + s1.2)) (iAnd .u8 x5 x1)) fun l2 => some (.next ((⟨r2.1.size, l2, r2.1.wear, r2.1.steps, r2.1.left, r2.1.torn, r2.1.down⟩ : T_Device), IntKind.wrap .i64 (s1.2 + 1))))) else (some (.done (.inr s1.1))))
def progOut (r : T_Device × Int) : (T_Device × Int) ⊕ T_Device := if r.2 = 0 then .inr r.1 else .inl r
theorem prog_loop (at_ : Nat) (b : List Int) (hr : rng b) : ∀ (rest : List Int) (j : Nat) (d : T_Device), OkD d → b.drop j = rest → j + rest.length = b.length → at_ + b.length ≤ d.bytes.length →
    loopM (progStep (at_ : Int) b) (d, (j : Int)) = some (progOut (progL d (at_ + j) rest))
  | [], j, d, hd, h1, h2, h3 => by
    refine loop_done ?_
    unfold progStep
    simp only [List.length_nil] at h2
    rw [cnd_f (by simp; omega)]
    rfl
  | x :: rest, j, d, hd, h1, h2, h3 => by
    have hb := hd.bound
    simp only [List.length_cons] at h2
    have hj : j < b.length := by omega
    have hx : b[j] = x := by
      have := List.getElem_cons_drop (h := hj)
      rw [h1] at this
      exact (List.cons.inj this).1
    have hrest : b.drop (j + 1) = rest := by
      have := List.getElem_cons_drop (h := hj)
      rw [h1] at this
      exact (List.cons.inj this).2
    have hxr := hr x (by rw [← hx]; exact List.getElem_mem hj)
    have hi : at_ + j < (stepF d).1.bytes.length := by rw [stepF_bytes]; omega
    have hw : IntKind.wrap .i64 ((at_ : Int) + (j : Int)) = ((at_ + j : Nat) : Int) := by rw [wrap_i64 (by omega) (by omega)]; omega
    have hstep : progStep (at_ : Int) b (d, (j : Int)) = some (if (stepF d).2 then .done (.inl (wrB (stepF d).1 (at_ + j) (iAnd .u8 (d.bytes.getD (at_ + j) 0) (iOr .u8 x d.torn)), 10)) else .next (wrB (stepF d).1 (at_ + j) (iAnd .u8 (d.bytes.getD (at_ + j) 0) x), ((j + 1 : Nat) : Int))) := by
      unfold progStep
      simp only
      rw [cnd_t (by simp; omega), elt_lt hj, bnd_some, hx, step_eq hd, bnd_some]
      cases hf : (stepF d).2
      · rw [cond_false, hw, getD_elt hi, bnd_some, setE_nat hi, bnd_some, wrap_succ hj (by omega), stepF_bytes, if_neg (by decide)]
        simp only [wrB, stepF_bytes]
      · rw [cond_true, hw, getD_elt hi, bnd_some, bnd_some, bnd_some, setE_nat hi, bnd_some, stepF_bytes, stepF_torn, if_pos rfl]
        simp only [wrB, stepF_bytes, stepF_torn]
    cases hf : (stepF d).2
    · rw [hf] at hstep
      refine loop_next hstep ?_
      have := prog_loop at_ b hr rest (j + 1) (wrB (stepF d).1 (at_ + j) (iAnd .u8 (d.bytes.getD (at_ + j) 0) x)) (wrB_ok (stepF_ok hd) _ (and_r (hd.rng.get _) hxr)) hrest (by omega) (by simp [wrB, stepF_bytes]; omega)
      rw [this]
      conv => rhs; unfold progL
      rw [if_neg (by rw [hf]; decide)]
      rfl
    · rw [hf] at hstep
      rw [loop_done hstep]
      conv => rhs; unfold progL
      rw [if_pos hf]
      simp only [progOut]
      rw [if_neg (by decide)]
theorem progL_err : ∀ (b : List Int) (d : T_Device) (i : Nat), (progL d i b).2 = 0 ∨ (progL d i b).2 = 10
  | [], d, i => .inl rfl
  | x :: b, d, i => by
    unfold progL
    split
    · exact .inr rfl
    · exact progL_err b _ _
theorem progOut_ret (r : T_Device × Int) (h : r.2 = 0 ∨ r.2 = 10) : (retOr (progOut r) fun o2 => some (o2, 0)) = some r := by
  unfold progOut
  rcases h with h | h
  · rw [if_pos h, retOr_inr, ← h]
  · rw [if_neg (by rw [h]; decide), retOr_inl]
def programF (d : T_Device) (at_ : Int) (b : List Int) : T_Device × Int :=
  if d.down then (d, 10) else if 0 ≤ at_ ∧ at_ ≤ d.bytes.length ∧ 0 ≤ (b.length : Int) ∧ (b.length : Int) ≤ d.bytes.length - at_ then progL d at_.toNat b else (d, 2)
theorem program_eq {d : T_Device} (h : OkD d) {b : List Int} (hb : rng b) (at_ : Int) (ha1 : -4611686018427387904 ≤ at_) : m_flash_Device_Program d at_ b = some (programF d at_ b) := by
  unfold m_flash_Device_Program programF
  cases hd : d.down
  · rw [cond_false, within_eq h at_ _ ha1, bnd_some]
    by_cases hw : 0 ≤ at_ ∧ at_ ≤ d.bytes.length ∧ 0 ≤ (b.length : Int) ∧ (b.length : Int) ≤ d.bytes.length - at_
    · rw [if_neg (by simp), if_pos hw, cnd_f (by simp only [hw, decide_true]; rfl)]
      have := prog_loop at_.toNat b hb b 0 d h rfl (by omega) (by omega)
      have e : ((at_.toNat : Nat) : Int) = at_ := by omega
      rw [e] at this
      unfold progStep at this
      exact bnd_eq this (progOut_ret _ (progL_err b d _))
    · rw [if_neg (by simp), if_neg hw, cnd_t (by rw [decide_eq_false hw]; rfl)]
  · rw [cond_true, if_pos rfl]
theorem programF_ok {d : T_Device} (h : OkD d) {b : List Int} (hb : rng b) (at_ : Int) : OkD (programF d at_ b).1 ∧ (programF d at_ b).1.size = d.size ∧ (programF d at_ b).1.wear = d.wear ∧ (programF d at_ b).1.bytes.length = d.bytes.length ∧ (programF d at_ b).1.torn = d.torn := by
  unfold programF
  split
  · exact ⟨h, rfl, rfl, rfl, rfl⟩
  · split
    · exact progL_ok b d _ h hb
    · exact ⟨h, rfl, rfl, rfl, rfl⟩
theorem clone_eq {b : List Int} (h : b.length ≤ 1000000) : m_slices_Clone__byte_byte b = some b := by
  unfold m_slices_Clone__byte_byte
  rw [app_eq (by simp; omega) (by simp; omega), bnd_some]
  rfl
def readF (d : T_Device) (at_ n : Int) : List Int × Int :=
  if d.down then ([], 10) else if 0 ≤ at_ ∧ at_ ≤ d.bytes.length ∧ 0 ≤ n ∧ n ≤ d.bytes.length - at_ then ((d.bytes.drop at_.toNat).take n.toNat, 0) else ([], 2)
theorem read_eq {d : T_Device} (h : OkD d) (at_ n : Int) (ha1 : -4611686018427387904 ≤ at_) : m_flash_Device_Read d at_ n = some (d, readF d at_ n) := by
  have hb := h.bound
  unfold m_flash_Device_Read readF
  cases hd : d.down
  · rw [cond_false, within_eq h at_ _ ha1, bnd_some]
    by_cases hw : 0 ≤ at_ ∧ at_ ≤ d.bytes.length ∧ 0 ≤ n ∧ n ≤ d.bytes.length - at_
    · rw [if_neg (by simp), if_pos hw, cnd_f (by simp only [hw, decide_true]; rfl), wrap_i64 (by omega) (by omega)]
      obtain ⟨a, rfl⟩ : ∃ a : Nat, at_ = (a : Int) := ⟨at_.toNat, by omega⟩
      obtain ⟨k, rfl⟩ : ∃ k : Nat, n = (k : Int) := ⟨n.toNat, by omega⟩
      have h1 : partM d.bytes.length (a : Int) ((a : Int) + (k : Int)) = some k := by
        unfold partM
        rw [if_pos ⟨by omega, by omega, by omega⟩]
        congr 1
        omega
      have h2 : Go.Proofs.Ythdpagcklakahaa.sub d.bytes (((a : Int).toNat : Nat) : Int) (((a : Int).toNat + k : Nat) : Int) = some ((d.bytes.take (a + k)).drop a) := by
        unfold Go.Proofs.Ythdpagcklakahaa.sub
        rw [if_pos ⟨by omega, by omega, by omega⟩]
        congr 2
      rw [h1, bnd_some, h2, bnd_some, clone_eq (by simp; omega), bnd_some]
      congr 3
      rw [List.take_drop, show (a : Int).toNat + (k : Int).toNat = a + k by omega]
      rfl
    · rw [if_neg (by simp), if_neg hw, cnd_t (by rw [decide_eq_false hw]; rfl)]
  · rw [cond_true, if_pos rfl]
def orP (l : List Int) (lo n : Nat) (v : Int) : List Int := l.take lo ++ ((l.drop lo).take n).map (fun x => iOr .u8 x v) ++ l.drop (lo + n)
theorem orP_len (l : List Int) (lo n : Nat) (v : Int) (h : lo + n ≤ l.length) : (orP l lo n v).length = l.length := by
  simp only [orP, List.length_append, List.length_take, List.length_map, List.length_drop]
  omega
theorem orP_rng {l : List Int} (h : rng l) (lo n : Nat) {v : Int} (hv : 0 ≤ v ∧ v ≤ 255) : rng (orP l lo n v) := by
  refine ((h.take lo).app fun x hx => ?_).app (h.drop _)
  obtain ⟨y, hy, rfl⟩ := List.mem_map.1 hx
  exact or_r (((h.drop lo).take n) y hy) hv
theorem orP_zero (l : List Int) (lo : Nat) (v : Int) : orP l lo 0 v = l := by simp [orP]
theorem orP_succ {l : List Int} {lo n : Nat} (v : Int) (h : lo + n < l.length) : (orP l lo n v).set (lo + n) (iOr .u8 (l.getD (lo + n) 0) v) = orP l lo (n + 1) v := by
  unfold orP
  have h1 : (l.take lo ++ ((l.drop lo).take n).map (fun x => iOr .u8 x v)).length = lo + n := by
    simp only [List.length_append, List.length_take, List.length_map, List.length_drop]; omega
  have h2 : l.drop (lo + n) = l[lo + n] :: l.drop (lo + (n + 1)) := (List.getElem_cons_drop (h := h)).symm
  have h3 : (l.drop lo).take (n + 1) = (l.drop lo).take n ++ [l[lo + n]] := by
    rw [take_succ_get (by simp; omega)]
    simp
  rw [List.set_append_right _ _ (by omega), h1, Nat.sub_self, h2, List.set_cons_zero, h3, List.map_append, List.getD_eq_getElem?_getD, List.getElem?_eq_getElem h]
  simp
theorem orP_get {l : List Int} {lo n : Nat} (v : Int) (h : lo + n < l.length) : (orP l lo n v).getD (lo + n) 0 = l.getD (lo + n) 0 := by
  unfold orP
  have h1 : (l.take lo ++ ((l.drop lo).take n).map (fun x => iOr .u8 x v)).length = lo + n := by
    simp only [List.length_append, List.length_take, List.length_map, List.length_drop]; omega
  rw [List.getD_eq_getElem?_getD, List.getD_eq_getElem?_getD, List.getElem?_append_right (by omega), h1, Nat.sub_self, List.getElem?_drop]
  simp
def wrW (d : T_Device) (i : Nat) : T_Device := ⟨d.size, d.bytes, d.wear.set i (IntKind.wrap .i64 (d.wear.getD i 0 + 1)), d.steps, d.left, d.torn, d.down⟩
def wrA (d : T_Device) (b : List Int) : T_Device := ⟨d.size, b, d.wear, d.steps, d.left, d.torn, d.down⟩
def eraseF (d : T_Device) (s : Int) : T_Device × Int :=
  if d.down then (d, 10) else if s < 0 ∨ s ≥ d.wear.length then (d, 2) else
    (wrA (stepF (wrW d s.toNat)).1 (orP d.bytes (s.toNat * d.size.toNat) d.size.toNat (if (stepF (wrW d s.toNat)).2 then d.torn else 255)), if (stepF (wrW d s.toNat)).2 then 10 else 0)
theorem wrW_ok {d : T_Device} (h : OkD d) (i : Nat) : OkD (wrW d i) :=
  ⟨h.size, by show 1 ≤ (d.wear.set _ _).length ∧ (d.wear.set _ _).length ≤ 16; rw [List.length_set]; exact h.wear, by show (d.bytes.length : Int) = ((d.wear.set _ _).length : Int) * _; rw [List.length_set]; exact h.len, h.rng, h.torn, h.left⟩
theorem wrA_ok {d : T_Device} (h : OkD d) {b : List Int} (hl : b.length = d.bytes.length) (hr : rng b) : OkD (wrA d b) :=
  ⟨h.size, h.wear, by show (b.length : Int) = _; rw [hl]; exact h.len, hr, h.torn, h.left⟩
theorem sector_le {d : T_Device} (h : OkD d) {k : Nat} (hk : k < d.wear.length) : k * d.size.toNat + d.size.toNat ≤ d.bytes.length := by
  have h1 := h.len
  have h2 := h.size
  obtain ⟨z, hz⟩ : ∃ z : Nat, d.size = (z : Int) := ⟨d.size.toNat, by omega⟩
  rw [hz] at h1 ⊢
  have h3 : d.bytes.length = d.wear.length * z := by exact_mod_cast h1
  have h4 : (k + 1) * z ≤ d.wear.length * z := Nat.mul_le_mul_right _ (by omega)
  rw [Nat.add_mul, Nat.one_mul] at h4
  show k * z + z ≤ _
  omega
theorem erase_eq {d : T_Device} (h : OkD d) (s : Int) (hs : s ≤ 4611686018427387904) : m_flash_Device_Erase d s = some (eraseF d s) := by
  have hb := h.bound
  unfold m_flash_Device_Erase eraseF
  cases hd : d.down
  · rw [cond_false, if_neg (by simp)]
    by_cases hs0 : s < 0
    · rw [cnd_t (by simpa using hs0), bnd_some, cond_true, if_pos (.inl hs0)]
    · rw [cnd_f (by simpa using hs0), bnd_some]
      by_cases hs1 : s ≥ d.wear.length
      · rw [cnd_t (by simpa using hs1), if_pos (.inr hs1)]
      · rw [cnd_f (by simpa using hs1), if_neg (by omega)]
        obtain ⟨k, rfl⟩ : ∃ k : Nat, s = (k : Int) := ⟨s.toNat, by omega⟩
        have hk : k < d.wear.length := by omega
        have hk16 := h.wear
        have hok := stepF_ok (wrW_ok h k)
        have hst : m_flash_Device_step (⟨d.size, d.bytes, d.wear.set k (IntKind.wrap .i64 (d.wear.getD k 0 + 1)), d.steps, d.left, d.torn, false⟩ : T_Device) = some (stepF (wrW d k)) := by rw [← step_eq (wrW_ok h k)]; simp only [wrW, hd]
        rw [getD_elt hk, bnd_some, setE_nat hk, bnd_some, hst, bnd_some]
        have hz := h.size
        obtain ⟨z, hzz⟩ : ∃ z : Nat, d.size = (z : Int) := ⟨d.size.toNat, by omega⟩
        have hsz : (stepF (wrW d k)).1.size = (z : Int) := (stepF_size _).trans hzz
        have hby : (stepF (wrW d k)).1.bytes = d.bytes := stepF_bytes _
        have hse := sector_le h hk
        rw [hzz] at hse
        have hkz : k * z ≤ 16384 := by
          have : ((z : Int)).toNat = z := rfl
          rw [this] at hse
          omega
        have hse' : k * z + z ≤ d.bytes.length := hse
        have e1 : IntKind.wrap .i64 ((k : Int) * (z : Int)) = ((k * z : Nat) : Int) := by
          have : (k : Int) * (z : Int) = ((k * z : Nat) : Int) := by simp
          rw [this, wrap_i64n (by omega)]
        have e2 : IntKind.wrap .i64 (IntKind.wrap .i64 ((k : Int) + 1) * (z : Int)) = ((k * z + z : Nat) : Int) := by
          rw [wrap_i64 (x := (k : Int) + 1) (by omega) (by omega)]
          have : ((k : Int) + 1) * (z : Int) = ((k * z + z : Nat) : Int) := by simp [Int.add_mul]
          rw [this, wrap_i64n (by omega)]
        simp only [hsz, hby, e1, e2]
        have hpm : partM d.bytes.length ((k * z : Nat) : Int) ((k * z + z : Nat) : Int) = some z := by
          unfold partM
          rw [if_pos ⟨by omega, by omega, by omega⟩]
          congr 1
          omega
        have ho : (bif (stepF (wrW d k)).2 then some (stepF (wrW d k)).1.torn else some 255) = some (if (stepF (wrW d k)).2 then d.torn else 255) := by
          rw [stepF_torn]
          cases (stepF (wrW d k)).2 <;> rfl
        rw [ho, bnd_some, hpm, bnd_some]
        generalize hv : (if (stepF (wrW d k)).2 = true then d.torn else 255) = v
        have hvr : 0 ≤ v ∧ v ≤ 255 := by rw [← hv]; split; exact h.torn; decide
        have e3 : (((k * z : Nat) : Int)).toNat = k * z := rfl
        rw [e3]
        refine bnd_loop (fun j => (wrA (stepF (wrW d k)).1 (orP d.bytes (k * z) j v), (j : Int))) z (wrA (stepF (wrW d k)).1 (orP d.bytes (k * z) z v)) ?_ (fun j hj => ?_) ?_ ?_
        · rw [orP_zero, ← hby]; rfl
        · have hlt : k * z + j < d.bytes.length := by omega
          have hlt2 : k * z + j < (orP d.bytes (k * z) j v).length := by rw [orP_len _ _ _ _ (by omega)]; exact hlt
          have hel : eltP (orP d.bytes (k * z) j v) (k * z) z (j : Int) = some (d.bytes.getD (k * z + j) 0) := by
            unfold eltP
            rw [if_pos ⟨by omega, by omega⟩]
            have : ((k * z : Nat) : Int) + (j : Int) = ((k * z + j : Nat) : Int) := by omega
            rw [this, getD_elt hlt2, orP_get v hlt]
          have hse2 : setE (orP d.bytes (k * z) j v) (((k * z : Nat) : Int) + (j : Int)) (iOr .u8 (d.bytes.getD (k * z + j) 0) v) = some (orP d.bytes (k * z) (j + 1) v) := by
            have : ((k * z : Nat) : Int) + (j : Int) = ((k * z + j : Nat) : Int) := by omega
            rw [this, setE_nat hlt2, orP_succ v hlt]
          simp only [wrA]
          rw [cnd_t (by simp; omega), hel, bnd_some, bnd_some, hse2, bnd_some, wrap_succ hj (by omega)]
        · simp only
          rw [cnd_f (by simp)]
        · have e4 : ((z : Int)).toNat = z := rfl
          have e5 : ((k : Int)).toNat = k := rfl
          rw [hzz]
          simp only [e4, e5]
          cases hf : (stepF (wrW d k)).2
          · rw [hf] at hv
            rw [cond_false, ← hv]
            rfl
          · rw [hf] at hv
            rw [cond_true, ← hv]
            rfl
  · rw [cond_true, if_pos rfl]
theorem eraseF_ok {d : T_Device} (h : OkD d) (s : Int) : OkD (eraseF d s).1 ∧ (eraseF d s).1.size = d.size ∧ (eraseF d s).1.wear.length = d.wear.length ∧ (eraseF d s).1.bytes.length = d.bytes.length ∧ (eraseF d s).1.torn = d.torn := by
  unfold eraseF
  split
  · exact ⟨h, rfl, rfl, rfl, rfl⟩
  · split
    · exact ⟨h, rfl, rfl, rfl, rfl⟩
    · rename_i hs
      have hk : s.toNat < d.wear.length := by omega
      have hse := sector_le h hk
      have hl := orP_len d.bytes (s.toNat * d.size.toNat) d.size.toNat (if (stepF (wrW d s.toNat)).2 then d.torn else 255) hse
      have hvr : 0 ≤ (if (stepF (wrW d s.toNat)).2 then d.torn else 255) ∧ (if (stepF (wrW d s.toNat)).2 then d.torn else 255) ≤ 255 := by split; exact h.torn; decide
      refine ⟨wrA_ok (stepF_ok (wrW_ok h _)) ?_ (orP_rng h.rng _ _ hvr), stepF_size _, ?_, hl, stepF_torn _⟩
      · rw [stepF_bytes]; exact hl
      · show (stepF (wrW d s.toNat)).1.wear.length = _
        rw [stepF_wear]
        simp [wrW]
def restF (d : T_Device) : T_Device := ⟨d.size, d.bytes, d.wear, d.steps, 0, d.torn, false⟩
end Go.Proofs.Ythdpagcklakahaa
end
section
namespace Go.Proofs.Ythdpagcklakahaa
open Go
set_option linter.unusedSimpArgs false
set_option linter.unusedVariables false
def chgF : List Int → Option (T_Setting × Nat)
  | k :: n :: r => if n = 128 then some (⟨k, [], true⟩, 2) else if n > 28 ∨ (r.length : Int) < n then none else some (⟨k, r.take n.toNat, false⟩, 2 + n.toNat)
  | _ => none
theorem chgF_cons (k n : Int) (r : List Int) : chgF (k :: n :: r) = if n = 128 then some (⟨k, [], true⟩, 2) else if n > 28 ∨ (r.length : Int) < n then none else some (⟨k, r.take n.toNat, false⟩, 2 + n.toNat) := rfl
theorem chgF_len {b : List Int} {x : T_Setting} {n : Nat} (hr : rng b) (h : chgF b = some (x, n)) : 2 ≤ n ∧ n ≤ b.length := by
  match b, h with
  | k :: c :: r, h =>
    rw [chgF_cons] at h
    split at h
    · injection h with h; injection h with _ h; subst h; simp
    · split at h
      · cases h
      · rename_i h1
        have := hr c (by simp)
        injection h with h; injection h with _ h; subst h
        simp only [List.length_cons]
        omega
theorem sub_nat {α : Type} {l : List α} {a b : Nat} (h1 : a ≤ b) (h2 : b ≤ l.length) : Go.Proofs.Ythdpagcklakahaa.sub l (a : Int) (b : Int) = some ((l.drop a).take (b - a)) := by
  unfold Go.Proofs.Ythdpagcklakahaa.sub
  rw [if_pos ⟨by omega, by omega, by omega⟩]
  congr 1
  have e1 : ((a : Int)).toNat = a := rfl
  have e2 : ((b : Int)).toNat = b := rfl
  rw [e1, e2, List.drop_take]
def chgOut (o : Option (T_Setting × Nat)) : T_Setting × Int × Bool := match o with | some (x, n) => (x, (n : Int), true) | none => (⟨0, [], false⟩, 0, false)
theorem change_eq {b : List Int} (hr : rng b) (hl : b.length ≤ 16384) : m_settings_change b = some (chgOut (chgF b)) := by
  unfold m_settings_change
  match b, hr, hl with
  | [], _, _ => rfl
  | [k], _, _ => rfl
  | k :: c :: r, hr, hl =>
    have hc := hr c (by simp)
    simp only [List.length_cons] at hl
    have e0 : elt (k :: c :: r) 0 = some k := rfl
    have e1 : elt (k :: c :: r) 1 = some c := rfl
    rw [cnd_f (by simp only [List.length_cons, decide_eq_false_iff_not]; omega), e1, bnd_some, e0, chgF_cons]
    by_cases h1 : c = 128
    · rw [cnd_t (by simpa using h1), bnd_some, if_pos h1]
      rfl
    · rw [cnd_f (by simpa using h1), if_neg h1]
      obtain ⟨n, hn, rfl⟩ := byte_nat hc
      have hw : IntKind.wrap .i64 (2 + IntKind.wrap .i64 (n : Int)) = ((2 + n : Nat) : Int) := by rw [wrap_i64n (by omega), wrap_i64 (by omega) (by omega)]; omega
      rw [hw]
      by_cases h2 : (n : Int) > 28
      · rw [cnd_t (by simpa using h2), bnd_some, cond_true, if_pos (.inl h2)]
        rfl
      · rw [cnd_f (by simpa using h2), bnd_some]
        by_cases h3 : (r.length : Int) < (n : Int)
        · rw [cnd_t (by simp only [List.length_cons, decide_eq_true_eq]; omega), if_pos (.inr h3)]
          rfl
        · rw [cnd_f (by simp only [List.length_cons, decide_eq_false_iff_not]; omega), bnd_some, if_neg (by omega)]
          have hs : Go.Proofs.Ythdpagcklakahaa.sub (k :: (n : Int) :: r) 2 ((2 + n : Nat) : Int) = some (r.take n) := by
            have := sub_nat (l := k :: (n : Int) :: r) (a := 2) (b := 2 + n) (by omega) (by simp; omega)
            rw [Nat.add_sub_cancel_left] at this
            exact this
          rw [hs, bnd_some, clone_eq (by simp; omega), bnd_some]
          rfl
def chgsF : Nat → List Int → Option (List T_Setting × Nat)
  | 0, _ => some ([], 0)
  | c + 1, b => match chgF b with
    | none => none
    | some (x, n) => match chgsF c (b.drop n) with
      | none => none
      | some (l, m) => some (x :: l, n + m)
theorem chgsF_len : ∀ (c : Nat) {b : List Int} {l : List T_Setting} {n : Nat}, rng b → chgsF c b = some (l, n) → n ≤ b.length ∧ l.length = c
  | 0, b, l, n, _, h => by injection h with h; injection h with h1 h2; subst h1; subst h2; simp
  | c + 1, b, l, n, hr, h => by
    unfold chgsF at h
    split at h
    · cases h
    · rename_i x k hk
      split at h
      · cases h
      · rename_i l' m hm
        injection h with h; injection h with h1 h2
        subst h1; subst h2
        have h3 := chgF_len hr hk
        have h4 := chgsF_len c (hr.drop k) hm
        simp only [List.length_drop, List.length_cons] at *
        omega
def batchF : List Int → Option (List T_Setting × Nat)
  | [] => none
  | c :: r => if c < 1 ∨ c > 32 then none else match chgsF c.toNat r with
    | none => none
    | some (l, n) => if r[n]? = some 0 then some (l, n + 2) else none
theorem batchF_cons (c : Int) (r : List Int) : batchF (c :: r) = if c < 1 ∨ c > 32 then none else match chgsF c.toNat r with
    | none => none
    | some (l, n) => if r[n]? = some 0 then some (l, n + 2) else none := rfl
theorem batchF_len {b : List Int} {l : List T_Setting} {n : Nat} (hr : rng b) (h : batchF b = some (l, n)) : 2 ≤ n ∧ n ≤ b.length := by
  match b, h with
  | c :: r, h =>
    rw [batchF_cons] at h
    split at h
    · cases h
    · split at h
      · cases h
      · rename_i l' m hm
        split at h
        · rename_i h0
          injection h with h; injection h with _ h; subst h
          have := (List.getElem?_eq_some_iff.1 h0).1
          simp only [List.length_cons]
          omega
        · cases h
def batchOut (o : Option (List T_Setting × Nat)) : List T_Setting × Int × Bool := match o with | some (l, n) => (l, (n : Int), true) | none => ([], 0, false)
noncomputable def batchStep (b_p0 : List Int) (x2 : Int) : List T_Setting × Int × Int → Option (Step (List T_Setting × Int × Int) (((List T_Setting) × Int × Bool) ⊕ (List T_Setting × Int))) :=
  (fun (s1 : List T_Setting × Int × Int) => bif decide (s1.2.2 < x2) then (bnd (Go.Proofs.Ythdpagcklakahaa.sub b_p0 s1.2.1 (b_p0.length : Int)) fun l1 => bnd (m_settings_change l1) fun r1 => bif !r1.2.2 then (some (.done (.inl ([], 0, false)))) else (bnd (app 40 s1.1 [r1.1]) fun l2 => some (.next (l2, IntKind.wrap .i64 (s1.2.1 + r1.2.1), IntKind.wrap .u8 (s1.2.2 + 1))))) else (some (.done (.inr (s1.1, s1.2.1)))))
theorem batch_loop {b : List Int} (hr : rng b) (hl : b.length ≤ 16384) (c : Nat) (hc : c ≤ 32) : ∀ (k i at_ : Nat) (acc : List T_Setting), i + k = c → at_ ≤ b.length → acc.length ≤ i →
    loopM (batchStep b (c : Int)) (acc, (at_ : Int), (i : Int)) = some (match chgsF k (b.drop at_) with | none => .inl ([], 0, false) | some (l, n) => .inr (acc ++ l, ((at_ + n : Nat) : Int)))
  | 0, i, at_, acc, h, _, _ => by
    refine loop_done ?_
    unfold batchStep
    simp only
    rw [cnd_f (by simp; omega)]
    simp [chgsF]
  | k + 1, i, at_, acc, h, hat, hacc => by
    have hsub : Go.Proofs.Ythdpagcklakahaa.sub b (at_ : Int) (b.length : Int) = some (b.drop at_) := by
      rw [sub_nat hat (Nat.le_refl _)]
      congr 1
      rw [List.take_of_length_le (by simp)]
    have hstep : batchStep b (c : Int) (acc, (at_ : Int), (i : Int)) = some (match chgF (b.drop at_) with | none => .done (.inl ([], 0, false)) | some (x, n) => .next (acc ++ [x], ((at_ + n : Nat) : Int), ((i + 1 : Nat) : Int))) := by
      unfold batchStep
      simp only
      rw [cnd_t (by simp; omega), hsub, bnd_some, change_eq (hr.drop _) (by simp; omega), bnd_some]
      cases hcg : chgF (b.drop at_) with
      | none => rfl
      | some p =>
        obtain ⟨x, n⟩ := p
        have hn := chgF_len (hr.drop _) hcg
        simp only [List.length_drop] at hn
        simp only [chgOut, Bool.not_true, cond_false]
        rw [app_eq (by simp; omega) (by simp; omega), bnd_some, wrap_i64 (by omega) (by omega), wrap_u8 (by omega) (by omega)]
        rfl
    unfold chgsF
    cases hcg : chgF (b.drop at_) with
    | none => rw [hcg] at hstep; exact loop_done hstep
    | some p =>
      obtain ⟨x, n⟩ := p
      have hn := chgF_len (hr.drop _) hcg
      simp only [List.length_drop] at hn
      rw [hcg] at hstep
      refine loop_next hstep ?_
      rw [batch_loop hr hl c hc k (i + 1) (at_ + n) (acc ++ [x]) (by omega) (by omega) (by simp; omega)]
      simp only [List.drop_drop]
      cases hcs : chgsF k (b.drop (at_ + n)) with
      | none => rfl
      | some q =>
        obtain ⟨l, m⟩ := q
        simp only [List.append_assoc, List.singleton_append]
        rw [Nat.add_assoc]
theorem batch_eq {b : List Int} (hr : rng b) (hl : b.length ≤ 16384) : m_settings_batch b = some (batchOut (batchF b)) := by
  unfold m_settings_batch
  match b, hr, hl with
  | [], _, _ => rfl
  | c :: r, hr, hl =>
    have hc := hr c (by simp)
    have e0 : elt (c :: r) 0 = some c := rfl
    have hr' : rng r := fun x hx => hr x (by simp [hx])
    simp only [List.length_cons] at hl
    rw [cnd_f (by simp only [List.length_cons, beq_eq_false_iff_ne, ne_eq]; omega), e0, bnd_some, batchF_cons]
    by_cases h1 : c < 1
    · rw [cnd_t (by simpa using h1), bnd_some, cond_true, if_pos (.inl h1)]
      rfl
    · rw [cnd_f (by simpa using h1), bnd_some]
      by_cases h2 : c > 32
      · rw [cnd_t (by simpa using h2), if_pos (.inr h2)]
        rfl
      · rw [cnd_f (by simpa using h2), bnd_some, if_neg (by omega)]
        obtain ⟨n, hn, rfl⟩ := byte_nat hc
        have hlp := batch_loop hr (by simp; omega) n (by omega) n 0 1 [] (by omega) (by simp) (by simp)
        unfold batchStep at hlp
        refine bnd_eq hlp ?_
        have e2 : ((n : Int)).toNat = n := rfl
        rw [List.drop_succ_cons, List.drop_zero, e2]
        cases hcs : chgsF n r with
        | none => rfl
        | some q =>
          obtain ⟨l, m⟩ := q
          have hm := (chgsF_len n hr' hcs).1
          simp only [List.nil_append, retOr_inr, List.length_cons]
          by_cases h3 : 1 + m = r.length + 1
          · rw [cnd_t (by simp; omega), bnd_some, cond_true, if_neg (by rw [List.getElem?_eq_none (by omega)]; simp)]
            rfl
          · have hmr : m < r.length := by omega
            have e3 : elt ((n : Int) :: r) ((1 + m : Nat) : Int) = some r[m] := by
              rw [elt_nat, Nat.add_comm, List.getElem?_cons_succ, List.getElem?_eq_getElem hmr]
            rw [cnd_f (by simp; omega), e3, bnd_some, bnd_some, List.getElem?_eq_getElem hmr]
            by_cases h4 : r[m] = 0
            · rw [cnd_f (by simpa using h4), if_pos (by rw [h4]), wrap_i64 (by omega) (by omega)]
              simp only [batchOut]
              congr 3
              omega
            · rw [cnd_t (by simpa using h4), if_neg (by simpa using h4)]
              rfl
def encS (x : T_Setting) : List Int := if x.Delete then [x.Key, 128] else x.Key :: IntKind.wrap .u8 (x.Value.length : Int) :: x.Value
def encF (l : List T_Setting) : List Int := IntKind.wrap .u8 (l.length : Int) :: l.flatMap encS ++ [0]
theorem encS_len (x : T_Setting) : 2 ≤ (encS x).length ∧ (encS x).length ≤ 2 + x.Value.length := by
  unfold encS
  split
  · simp
  · simp only [List.length_cons]
    omega
theorem flat_le {l : List T_Setting} (h : ∀ x ∈ l, x.Value.length ≤ 1000) : (l.flatMap encS).length ≤ l.length * 1002 := by
  induction l with
  | nil => simp
  | cons x r ih =>
    have h1 := (encS_len x).2
    have h2 := h x (by simp)
    have h3 := ih fun y hy => h y (by simp [hy])
    simp only [List.flatMap_cons, List.length_append, List.length_cons]
    omega
theorem encode_eq {l : List T_Setting} (hl : l.length ≤ 1000) (hv : ∀ x ∈ l, x.Value.length ≤ 1000) : m_settings_encode l = some (encF l) := by
  unfold m_settings_encode
  have hb : ∀ i, i ≤ l.length → (IntKind.wrap .u8 (l.length : Int) :: (l.take i).flatMap encS).length ≤ 1 + i * 1002 := fun i hi => by
    have := flat_le (l := l.take i) fun x hx => hv x (List.mem_of_mem_take hx)
    simp only [List.length_take, List.length_cons] at *
    rw [Nat.min_eq_left hi] at this
    omega
  refine bnd_loop (fun i => (IntKind.wrap .u8 (l.length : Int) :: (l.take i).flatMap encS, (i : Int))) l.length (IntKind.wrap .u8 (l.length : Int) :: l.flatMap encS) rfl (fun i hi => ?_) ?_ ?_
  · have h1 := hb i (by omega)
    have h2 := hv l[i] (List.getElem_mem hi)
    have h3 : i * 1002 ≤ 1000 * 1002 := Nat.mul_le_mul_right _ (by omega)
    simp only
    rw [cnd_t (by simp; omega), elt_lt hi, bnd_some, take_succ_get hi, List.flatMap_append]
    simp only [List.flatMap_cons, List.flatMap_nil, List.append_nil]
    have hE : ∀ (z : List Int), (IntKind.wrap .u8 (l.length : Int) :: ((l.take i).flatMap encS ++ z)) = (IntKind.wrap .u8 (l.length : Int) :: (l.take i).flatMap encS) ++ z := fun z => rfl
    rw [hE]
    generalize hpre : IntKind.wrap .u8 (l.length : Int) :: (l.take i).flatMap encS = pre at h1 ⊢
    unfold encS
    cases hd : l[i].Delete
    · simp only [cond_false]
      rw [app_eq (by simp; omega) (by simp; omega), bnd_some, app_eq (by simp; omega) (by simp; omega), bnd_some, wrap_succ hi (by omega)]
      simp
    · simp only [cond_true]
      rw [app_eq (by simp; omega) (by simp; omega), bnd_some, wrap_succ hi (by omega)]
      simp
  · simp only
    rw [cnd_f (by simp), List.take_length]
  · have h1 := hb l.length (Nat.le_refl _)
    rw [List.take_length] at h1
    have h3 : l.length * 1002 ≤ 1000 * 1002 := Nat.mul_le_mul_right _ hl
    rw [app_eq (by simp only [List.length_cons, List.length_nil] at *; omega) (by simp only [List.length_cons, List.length_nil] at *; omega), bnd_some]
    rfl
def blankF (b : List Int) : Bool := b.all fun x => x == 255
theorem blank_eq {b : List Int} (hl : b.length ≤ 16384) : m_settings_blank b = some (blankF b) := by
  unfold m_settings_blank m_slices_ContainsFunc__byte_byte_f74 m_slices_IndexFunc__byte_byte_f74
  have hf : ∀ i (h : i < b.length), (fun i : Nat => if (b.getD i 255 != 255) then some (.inl (i : Int) : Int ⊕ Unit) else none) i = if (fun x : Int => x != 255) b[i] then some ((fun (i : Nat) (_ : Int) => (.inl (i : Int) : Int ⊕ Unit)) i b[i]) else none := fun i h => by
    simp only [List.getD_eq_getElem?_getD, List.getElem?_eq_getElem h, Option.getD_some]
  have hL := loop_find (m := fun (s1 : Int) => bif decide (s1 < (b.length : Int)) then (bnd (elt b s1) fun x1 => bnd (m_settings_blank_1 x1) fun r1 => bif r1 then (some (.done (.inl s1 : Int ⊕ Unit))) else (some (.next (IntKind.wrap .i64 (s1 + 1))))) else (some (.done (.inr ())))) (fun i => (i : Int)) b.length (fun i => if (b.getD i 255 != 255) then some (.inl (i : Int) : Int ⊕ Unit) else none) (t := .inr ()) (fun i hi => ?_) ?_
  · have h0 : ((0 : Nat) : Int) = 0 := rfl
    rw [h0] at hL
    rw [hL, bnd_some]
    rcases find_range b (fun x => x != 255) (fun i _ => (.inl (i : Int) : Int ⊕ Unit)) _ hf with ⟨i, hi, h1, _, h3⟩ | ⟨_, h2, h3⟩
    · rw [h3]
      simp only [Option.getD_some, retOr_inl, bnd_some]
      congr 1
      have : blankF b = false := by
        unfold blankF
        rw [List.all_eq_false]
        exact ⟨b[i], List.getElem_mem hi, by simpa using h1⟩
      rw [this]
      simp
    · rw [h3]
      simp only [Option.getD_none, retOr_inr, bnd_some]
      congr 1
      have : blankF b = true := by
        unfold blankF
        rw [List.all_eq_true]
        intro x hx
        simpa using h2 x hx
      rw [this]
      rfl
  · rw [cnd_t (by simp; omega), elt_lt hi, bnd_some]
    unfold m_settings_blank_1
    rw [bnd_some, List.getD_eq_getElem?_getD, List.getElem?_eq_getElem hi]
    simp only [Option.getD_some]
    by_cases hb : b[i] = 255
    · rw [cnd_f (by simpa using hb), wrap_succ hi (by omega), if_neg (by simpa using hb)]
    · rw [cnd_t (by simpa using hb), if_pos (by simpa using hb)]
  · rw [cnd_f (by simp)]
theorem blankF_iff {b : List Int} : blankF b = true ↔ b = List.replicate b.length 255 := by
  unfold blankF
  rw [List.all_eq_true, List.eq_replicate_iff]
  simp
end Go.Proofs.Ythdpagcklakahaa
end
section
namespace Go.Proofs.Ythdpagcklakahaa
open Go
set_option linter.unusedSimpArgs false
set_option linter.unusedVariables false
abbrev MapS := List (Int × List Int)
def mgetS (m : MapS) (k : Int) : Option (List Int) := mget (kint .u8).eq m k
def msetS (m : MapS) (k : Int) (v : List Int) : MapS := mset (kint .u8).eq m k v
def mdelS (m : MapS) (k : Int) : MapS := mdel (kint .u8).eq m k
def keysS (m : MapS) : List Int := m.map (·.1)
theorem kint_iff (a b : Int) : (kint .u8).eq a b = true ↔ a = b := by
  show (a == b) = true ↔ _
  simp
theorem mgetS_set (m : MapS) (k k' : Int) (v : List Int) : mgetS (msetS m k v) k' = if k' = k then some v else mgetS m k' := mget_mset kint_iff m k k' v
theorem mgetS_cons (x : Int × List Int) (r : MapS) (k : Int) : mgetS (x :: r) k = if k = x.1 then some x.2 else mgetS r k := by
  show (bif (kint .u8).eq k x.1 then some x.2 else mget (kint .u8).eq r k) = _
  by_cases h : k = x.1
  · rw [(kint_iff k x.1).2 h, if_pos h]; rfl
  · have : (kint .u8).eq k x.1 = false := by cases hc : (kint .u8).eq k x.1; rfl; exact absurd ((kint_iff k x.1).1 hc) h
    rw [this, if_neg h]; rfl
theorem msetS_cons (x : Int × List Int) (r : MapS) (k : Int) (v : List Int) : msetS (x :: r) k v = if k = x.1 then (k, v) :: r else x :: msetS r k v := by
  show (bif (kint .u8).eq k x.1 then (k, v) :: r else x :: mset (kint .u8).eq r k v) = _
  by_cases h : k = x.1
  · rw [(kint_iff k x.1).2 h, if_pos h]; rfl
  · have : (kint .u8).eq k x.1 = false := by cases hc : (kint .u8).eq k x.1; rfl; exact absurd ((kint_iff k x.1).1 hc) h
    rw [this, if_neg h]; rfl
theorem mdelS_cons (x : Int × List Int) (r : MapS) (k : Int) : mdelS (x :: r) k = if k = x.1 then r else x :: mdelS r k := by
  show (bif (kint .u8).eq k x.1 then r else x :: mdel (kint .u8).eq r k) = _
  by_cases h : k = x.1
  · rw [(kint_iff k x.1).2 h, if_pos h]; rfl
  · have : (kint .u8).eq k x.1 = false := by cases hc : (kint .u8).eq k x.1; rfl; exact absurd ((kint_iff k x.1).1 hc) h
    rw [this, if_neg h]; rfl
theorem keysS_cons (x : Int × List Int) (r : MapS) : keysS (x :: r) = x.1 :: keysS r := rfl
theorem mgetS_none {m : MapS} {k : Int} : mgetS m k = none ↔ k ∉ keysS m := by
  induction m with
  | nil => simp [mgetS, mget, keysS]
  | cons x r ih =>
    rw [mgetS_cons, keysS_cons, List.mem_cons]
    by_cases h : k = x.1
    · simp [h]
    · rw [if_neg h, ih]
      simp [h]
theorem keysS_del_mem {m : MapS} {k x : Int} (h : x ∈ keysS (mdelS m k)) : x ∈ keysS m := by
  induction m with
  | nil => exact h
  | cons y r ih =>
    rw [keysS_cons, List.mem_cons]
    rw [mdelS_cons] at h
    split at h
    · exact .inr h
    · rw [keysS_cons, List.mem_cons] at h
      rcases h with h | h
      · exact .inl h
      · exact .inr (ih h)
theorem keysS_set_mem {m : MapS} {k x : Int} {v : List Int} (h : x ∈ keysS (msetS m k v)) : x = k ∨ x ∈ keysS m := by
  induction m with
  | nil => left; simpa [msetS, mset, keysS] using h
  | cons y r ih =>
    rw [keysS_cons, List.mem_cons]
    rw [msetS_cons] at h
    split at h
    · rw [keysS_cons, List.mem_cons] at h
      rcases h with h | h
      · exact .inl h
      · exact .inr (.inr h)
    · rw [keysS_cons, List.mem_cons] at h
      rcases h with h | h
      · exact .inr (.inl h)
      · rcases ih h with h | h
        · exact .inl h
        · exact .inr (.inr h)
def NdK (m : MapS) : Prop := (keysS m).Nodup
theorem NdK.set {m : MapS} (h : NdK m) (k : Int) (v : List Int) : NdK (msetS m k v) := by
  induction m with
  | nil => simp [NdK, msetS, mset, keysS]
  | cons y r ih =>
    have h1 := List.nodup_cons.1 h
    rw [msetS_cons]
    split
    · rename_i e
      exact List.nodup_cons.2 ⟨by rw [e]; exact h1.1, h1.2⟩
    · rename_i e
      refine List.nodup_cons.2 ⟨fun hm => ?_, ih h1.2⟩
      rcases keysS_set_mem hm with e' | hm
      · exact e e'.symm
      · exact h1.1 hm
theorem NdK.del {m : MapS} (h : NdK m) (k : Int) : NdK (mdelS m k) := by
  induction m with
  | nil => exact h
  | cons y r ih =>
    have h1 := List.nodup_cons.1 h
    rw [mdelS_cons]
    split
    · exact h1.2
    · exact List.nodup_cons.2 ⟨fun hm => h1.1 (keysS_del_mem hm), ih h1.2⟩
theorem mgetS_del {m : MapS} (h : NdK m) (k k' : Int) : mgetS (mdelS m k) k' = if k' = k then none else mgetS m k' := by
  induction m with
  | nil => simp [mgetS, mdelS, mdel, mget]
  | cons y r ih =>
    have h1 := List.nodup_cons.1 h
    have ih := ih h1.2
    rw [mdelS_cons]
    by_cases hk : k = y.1
    · rw [if_pos hk]
      by_cases hk' : k' = k
      · rw [if_pos hk', mgetS_none, hk', hk]
        exact h1.1
      · rw [if_neg hk', mgetS_cons, if_neg (by rw [← hk]; exact hk')]
    · rw [if_neg hk, mgetS_cons, ih, mgetS_cons]
      by_cases hk' : k' = y.1
      · rw [if_pos hk', if_neg (by rw [hk']; exact fun e => hk e.symm), if_pos hk']
      · rw [if_neg hk', if_neg hk']
def Asc (K : List T_Setting) : Prop := K.Pairwise fun a b => a.Key < b.Key
def Nd (K : List T_Setting) : Prop := ∀ x ∈ K, x.Delete = false
def look (K : List T_Setting) (k : Int) : Option (List Int) := (K.find? fun x => x.Key == k).map (·.Value)
theorem look_nil (k : Int) : look [] k = none := rfl
theorem look_cons (x : T_Setting) (K : List T_Setting) (k : Int) : look (x :: K) k = if x.Key = k then some x.Value else look K k := by
  unfold look
  rw [List.find?_cons]
  by_cases h : x.Key = k
  · simp [h]
  · have : (x.Key == k) = false := by simpa using h
    rw [this, if_neg h]
theorem look_none {K : List T_Setting} {k : Int} : look K k = none ↔ ∀ x ∈ K, x.Key ≠ k := by
  unfold look
  rw [Option.map_eq_none_iff, List.find?_eq_none]
  simp
theorem asc_ext : ∀ {K1 K2 : List T_Setting}, Asc K1 → Asc K2 → Nd K1 → Nd K2 → (∀ k, look K1 k = look K2 k) → K1 = K2
  | [], [], _, _, _, _, _ => rfl
  | [], b :: r, _, _, _, _, h => by
    have := h b.Key
    rw [look_nil, look_cons, if_pos rfl] at this
    cases this
  | a :: r, [], _, _, _, _, h => by
    have := h a.Key
    rw [look_nil, look_cons, if_pos rfl] at this
    cases this
  | a :: r1, b :: r2, h1, h2, n1, n2, h => by
    have p1 := List.pairwise_cons.1 h1
    have p2 := List.pairwise_cons.1 h2
    have hk : a.Key = b.Key := by
      rcases Int.lt_trichotomy a.Key b.Key with hlt | heq | hgt
      · exfalso
        have := h a.Key
        rw [look_cons, if_pos rfl, look_cons, if_neg (by omega)] at this
        have h3 : look r2 a.Key = none := look_none.2 fun x hx => by have := p2.1 x hx; omega
        rw [h3] at this
        cases this
      · exact heq
      · exfalso
        have := h b.Key
        rw [look_cons, if_neg (by omega), look_cons, if_pos rfl] at this
        have h3 : look r1 b.Key = none := look_none.2 fun x hx => by have := p1.1 x hx; omega
        rw [h3] at this
        cases this
    have hv : a.Value = b.Value := by
      have := h a.Key
      rw [look_cons, if_pos rfl, look_cons, if_pos hk.symm] at this
      injection this
    have hd : a.Delete = b.Delete := (n1 a (by simp)).trans (n2 b (by simp)).symm
    have hab : a = b := by
      obtain ⟨ak, av, ad⟩ := a
      obtain ⟨bk, bv, bd⟩ := b
      simp only at hk hv hd
      subst hk; subst hv; subst hd
      rfl
    subst hab
    congr 1
    refine asc_ext p1.2 p2.2 (fun x hx => n1 x (by simp [hx])) (fun x hx => n2 x (by simp [hx])) fun k => ?_
    by_cases hka : a.Key = k
    · rw [look_none.2 (fun x hx => by have := p1.1 x hx; omega), look_none.2 (fun x hx => by have := p2.1 x hx; omega)]
    · have := h k
      rwa [look_cons, if_neg hka, look_cons, if_neg hka] at this
def appK (K : List T_Setting) (c : T_Setting) : List T_Setting :=
  if c.Delete then K.filter fun x => x.Key != c.Key else (K.filter fun x => decide (x.Key < c.Key)) ++ c :: K.filter fun x => decide (c.Key < x.Key)
def allK (K : List T_Setting) (l : List T_Setting) : List T_Setting := l.foldl appK K
theorem appK_asc {K : List T_Setting} (h : Asc K) (c : T_Setting) : Asc (appK K c) := by
  unfold appK
  split
  · exact h.sublist List.filter_sublist
  · refine List.pairwise_append.2 ⟨h.sublist List.filter_sublist, List.pairwise_cons.2 ⟨fun x hx => ?_, h.sublist List.filter_sublist⟩, fun x hx y hy => ?_⟩
    · have := (List.mem_filter.1 hx).2
      simpa using this
    · have h1 := (List.mem_filter.1 hx).2
      simp only [decide_eq_true_eq] at h1
      rcases List.mem_cons.1 hy with rfl | hy
      · exact h1
      · have h2 := (List.mem_filter.1 hy).2
        simp only [decide_eq_true_eq] at h2
        omega
theorem appK_nd {K : List T_Setting} (h : Nd K) (c : T_Setting) : Nd (appK K c) := by
  unfold appK
  split
  · exact fun x hx => h x (List.mem_filter.1 hx).1
  · rename_i hc
    intro x hx
    rcases List.mem_append.1 hx with hx | hx
    · exact h x (List.mem_filter.1 hx).1
    · rcases List.mem_cons.1 hx with rfl | hx
      · simpa using hc
      · exact h x (List.mem_filter.1 hx).1
theorem look_filter (K : List T_Setting) (p : T_Setting → Bool) (k : Int) (hp : ∀ x ∈ K, x.Key = k → p x = true) : look (K.filter p) k = look K k := by
  induction K with
  | nil => rfl
  | cons y r ih =>
    have ih := ih fun x hx => hp x (by simp [hx])
    rw [List.filter_cons, look_cons]
    by_cases hy : y.Key = k
    · rw [if_pos (hp y (by simp) hy), look_cons, if_pos hy, if_pos hy]
    · rw [if_neg hy]
      split
      · rw [look_cons, if_neg hy, ih]
      · exact ih
theorem look_filter_none (K : List T_Setting) (p : T_Setting → Bool) (k : Int) (hp : ∀ x ∈ K, x.Key = k → p x = false) : look (K.filter p) k = none := by
  rw [look_none]
  intro x hx e
  have := List.mem_filter.1 hx
  rw [hp x this.1 e] at this
  exact absurd this.2 (by decide)
theorem look_app (K L : List T_Setting) (k : Int) : look (K ++ L) k = (look K k).or (look L k) := by
  unfold look
  rw [List.find?_append]
  cases K.find? _ <;> rfl
theorem look_appK (K : List T_Setting) (c : T_Setting) (k : Int) : look (appK K c) k = if k = c.Key then (if c.Delete then none else some c.Value) else look K k := by
  unfold appK
  by_cases hk : k = c.Key
  · subst hk
    rw [if_pos rfl]
    split
    · exact look_filter_none _ _ _ fun x _ e => by simp [e]
    · rw [look_app, look_filter_none _ _ _ (fun x _ e => by simp [e]), look_cons, if_pos rfl]
      rfl
  · rw [if_neg hk]
    split
    · exact look_filter _ _ _ fun x _ e => by simp [e, hk]
    · rw [look_app, look_cons, if_neg (fun e => hk e.symm)]
      by_cases hlt : k < c.Key
      · rw [look_filter _ _ _ (fun x _ e => by simp [e, hlt]), look_filter_none _ _ _ (fun x _ e => by simp [e]; omega)]
        cases look K k <;> rfl
      · rw [look_filter_none _ _ _ (fun x _ e => by simp [e]; omega), look_filter _ _ _ (fun x _ e => by simp [e]; omega)]
        rfl
theorem allK_asc : ∀ {l K : List T_Setting}, Asc K → Asc (allK K l)
  | [], _, h => h
  | c :: l, _, h => allK_asc (l := l) (appK_asc h c)
theorem allK_nd : ∀ {l K : List T_Setting}, Nd K → Nd (allK K l)
  | [], _, h => h
  | c :: l, _, h => allK_nd (l := l) (appK_nd h c)
theorem allK_mem : ∀ {l K : List T_Setting} {x : T_Setting}, x ∈ allK K l → x ∈ K ∨ x ∈ l
  | [], _, _, h => .inl h
  | c :: l, K, x, h => by
    rcases allK_mem (l := l) h with h | h
    · unfold appK at h
      split at h
      · exact .inl (List.mem_filter.1 h).1
      · rcases List.mem_append.1 h with h | h
        · exact .inl (List.mem_filter.1 h).1
        · rcases List.mem_cons.1 h with rfl | h
          · exact .inr (by simp)
          · exact .inl (List.mem_filter.1 h).1
    · exact .inr (by simp [h])
def lastS (l : List T_Setting) (k : Int) (o : Option (List Int)) : Option (List Int) := l.foldl (fun o c => if k = c.Key then (if c.Delete then none else some c.Value) else o) o
theorem look_allK : ∀ (l K : List T_Setting) (k : Int), look (allK K l) k = lastS l k (look K k)
  | [], _, _ => rfl
  | c :: l, K, k => by
    unfold allK lastS
    rw [List.foldl_cons, List.foldl_cons, ← look_appK]
    exact look_allK l (appK K c) k
def sortK (ks : List Int) : List Int := ks.mergeSort fun x y => decide (x ≤ y)
theorem sortK_perm (ks : List Int) : (sortK ks).Perm ks := List.mergeSort_perm _ _
theorem sortK_asc {ks : List Int} (h : ks.Nodup) : (sortK ks).Pairwise (· < ·) := by
  have h1 : (sortK ks).Pairwise fun x y => decide (x ≤ y) = true := List.pairwise_mergeSort (fun a b c h1 h2 => by simp only [decide_eq_true_eq] at *; omega) (fun a b => by simp only [Bool.or_eq_true, decide_eq_true_eq]; omega) ks
  have h2 : (sortK ks).Nodup := (sortK_perm ks).nodup_iff.2 h
  have := h1.and h2
  refine this.imp fun hh => ?_
  simp only [decide_eq_true_eq, ne_eq] at hh
  omega
def toL (m : MapS) : List T_Setting := (sortK (keysS m)).map fun k => ⟨k, (mgetS m k).getD [], false⟩
theorem toL_nd (m : MapS) : Nd (toL m) := fun x hx => by
  obtain ⟨k, _, rfl⟩ := List.mem_map.1 hx
  rfl
theorem toL_asc {m : MapS} (h : NdK m) : Asc (toL m) := by
  unfold Asc toL
  rw [List.pairwise_map]
  exact (sortK_asc h).imp fun h => h
theorem toL_len (m : MapS) : (toL m).length = m.length := by
  unfold toL
  rw [List.length_map, (sortK_perm _).length_eq]
  simp [keysS]
theorem look_toL (m : MapS) (k : Int) : look (toL m) k = mgetS m k := by
  have key : ∀ (ks : List Int), look (ks.map fun k => (⟨k, (mgetS m k).getD [], false⟩ : T_Setting)) k = if k ∈ ks then some ((mgetS m k).getD []) else none := by
    intro ks
    induction ks with
    | nil => rfl
    | cons a r ih =>
      rw [List.map_cons, look_cons]
      by_cases h : a = k
      · subst h; simp
      · rw [if_neg h, ih]
        have : k ≠ a := fun e => h e.symm
        simp [this]
  unfold toL
  rw [key]
  by_cases h : k ∈ keysS m
  · rw [if_pos ((sortK_perm _).mem_iff.2 h)]
    cases hg : mgetS m k with
    | none => exact absurd h (mgetS_none.1 hg)
    | some v => rfl
  · rw [if_neg (fun hm => h ((sortK_perm _).mem_iff.1 hm)), mgetS_none.2 h]
def aftS (m : MapS) (l : List T_Setting) : MapS := l.foldl (fun m c => if c.Delete then mdelS m c.Key else msetS m c.Key c.Value) m
theorem aftS_nd : ∀ {l : List T_Setting} {m : MapS}, NdK m → NdK (aftS m l)
  | [], _, h => h
  | c :: l, m, h => by
    unfold aftS
    rw [List.foldl_cons]
    split
    · exact aftS_nd (l := l) (h.del _)
    · exact aftS_nd (l := l) (h.set _ _)
theorem toL_aft : ∀ {l : List T_Setting} {m : MapS}, NdK m → toL (aftS m l) = allK (toL m) l
  | [], _, _ => rfl
  | c :: l, m, h => by
    unfold aftS allK
    rw [List.foldl_cons, List.foldl_cons]
    have h1 : NdK (if c.Delete = true then mdelS m c.Key else msetS m c.Key c.Value) := by split; exact h.del _; exact h.set _ _
    have h2 : toL (if c.Delete = true then mdelS m c.Key else msetS m c.Key c.Value) = appK (toL m) c := by
      refine asc_ext (toL_asc h1) (appK_asc (toL_asc h) c) (toL_nd _) (appK_nd (toL_nd _) c) fun k => ?_
      rw [look_toL, look_appK, look_toL]
      split
      · rw [mgetS_del h]
      · rw [mgetS_set]
    rw [← h2]
    exact toL_aft (l := l) h1
theorem aftS_len {l : List T_Setting} {m : MapS} (h : NdK m) : (aftS m l).length = (allK (toL m) l).length := by rw [← toL_aft h, toL_len]
theorem after_eq (m : MapS) (l : List T_Setting) (hl : l.length ≤ 1000000) (hv : ∀ x ∈ l, x.Value.length ≤ 1000000) : m__settings_values_after (some m) l = some (some (aftS m l)) := by
  unfold m__settings_values_after m_mapsClone
  rw [bnd_some]
  refine bnd_loop (fun i => ((i : Int), some (aftS m (l.take i)))) l.length (some (aftS m l)) rfl (fun i hi => ?_) ?_ rfl
  · have h2 := hv l[i] (List.getElem_mem hi)
    simp only
    rw [cnd_t (by simp; omega), elt_lt hi, bnd_some, take_succ_get hi, wrap_succ hi (by omega)]
    unfold aftS
    rw [List.foldl_append, List.foldl_cons, List.foldl_nil]
    cases hd : l[i].Delete
    · rw [cond_false, clone_eq (by omega), bnd_some]
      rfl
    · rw [cond_true]
      rfl
  · simp only
    rw [cnd_f (by simp), List.take_length]
theorem sorted_eq {m : MapS} (hm : NdK m) (hl : m.length ≤ 1000) (hv : ∀ k v, mgetS m k = some v → v.length ≤ 1000000) : m__settings_values_sorted (some m) = some (toL m) := by
  unfold m__settings_values_sorted m_mapKeys m_sortedKeys
  have hsk : ((some m : Option MapS).getD []) = m := rfl
  have hlen : (sortK (keysS m)).length = m.length := by rw [(sortK_perm _).length_eq]; simp [keysS]
  have hks : ((m.map (·.1)).mergeSort fun x y => decide (x ≤ y)) = sortK (keysS m) := rfl
  rw [bnd_some, hsk, if_pos hl, bnd_some, hks]
  refine bnd_loop (fun i => ((toL m).take i, (i : Int))) m.length (toL m) rfl (fun i hi => ?_) ?_ rfl
  · have hi' : i < (sortK (keysS m)).length := by omega
    have hit : i < (toL m).length := by rw [toL_len]; exact hi
    have hg : (toL m)[i] = ⟨(sortK (keysS m))[i], (mgetS m (sortK (keysS m))[i]).getD [], false⟩ := by simp [toL]
    have hvl : ((mgetS m (sortK (keysS m))[i]).getD []).length ≤ 1000000 := by
      cases hh : mgetS m (sortK (keysS m))[i] with
      | none => simp
      | some v => exact hv _ v hh
    simp only
    rw [cnd_t (by simp; omega), elt_lt hi', bnd_some]
    have hcl : m_slices_Clone__byte_byte ((mget (kint .u8).eq m (sortK (keysS m))[i]).getD []) = some ((mgetS m (sortK (keysS m))[i]).getD []) := clone_eq hvl
    rw [hcl, bnd_some, app_eq (by simp; omega) (by simp; omega), bnd_some, wrap_succ hi (by omega), take_succ_get hit, hg]
  · simp only
    rw [cnd_f (by rw [hlen]; simp), ← toL_len, List.take_length]
end Go.Proofs.Ythdpagcklakahaa
end
section
namespace Go.Proofs.Ythdpagcklakahaa
open Go
set_option linter.unusedSimpArgs false
set_option linter.unusedVariables false
structure OkC (x : T_Setting) : Prop where
  key : 0 ≤ x.Key ∧ x.Key ≤ 255
  len : x.Value.length ≤ 28
  rng : rng x.Value
  del : x.Delete = true → x.Value = []
theorem chgF_ok {b : List Int} (hr : rng b) {x : T_Setting} {n : Nat} (h : chgF b = some (x, n)) : OkC x := by
  match b, h with
  | k :: c :: r, h =>
    have hk := hr k (by simp)
    have hc := hr c (by simp)
    have hr' : rng r := fun y hy => hr y (by simp [hy])
    rw [chgF_cons] at h
    split at h
    · injection h with h; injection h with h _; subst h
      exact ⟨hk, by simp, rng.nil, fun _ => rfl⟩
    · split at h
      · cases h
      · rename_i h1
        injection h with h; injection h with h _; subst h
        exact ⟨hk, by simp; omega, hr'.take _, fun hd => by cases hd⟩
theorem chgsF_ok : ∀ (c : Nat) {b : List Int} {l : List T_Setting} {n : Nat}, rng b → chgsF c b = some (l, n) → ∀ x ∈ l, OkC x
  | 0, b, l, n, _, h => by injection h with h; injection h with h1 h2; subst h1; intro x hx; cases hx
  | c + 1, b, l, n, hr, h => by
    unfold chgsF at h
    split at h
    · cases h
    · rename_i x k hk
      split at h
      · cases h
      · rename_i l' m hm
        injection h with h; injection h with h1 h2
        subst h1
        intro y hy
        rcases List.mem_cons.1 hy with rfl | hy
        · exact chgF_ok hr hk
        · exact chgsF_ok c (hr.drop k) hm y hy
theorem batchF_ok {b : List Int} {l : List T_Setting} {n : Nat} (hr : rng b) (h : batchF b = some (l, n)) : 1 ≤ l.length ∧ l.length ≤ 32 ∧ ∀ x ∈ l, OkC x := by
  match b, h with
  | c :: r, h =>
    have hr' : rng r := fun y hy => hr y (by simp [hy])
    rw [batchF_cons] at h
    split at h
    · cases h
    · rename_i hc
      split at h
      · cases h
      · rename_i l' m hm
        split at h
        · injection h with h; injection h with h _; subst h
          have := (chgsF_len _ hr' hm).2
          exact ⟨by omega, by omega, chgsF_ok _ hr' hm⟩
        · cases h
structure OkK (K : List T_Setting) : Prop where
  asc : Asc K
  nd : Nd K
  len : K.length ≤ 32
  ok : ∀ x ∈ K, OkC x
theorem OkK.nil : OkK [] := ⟨List.Pairwise.nil, fun x h => (by cases h), by simp, fun x h => (by cases h)⟩
theorem OkK.all {K l : List T_Setting} (h : OkK K) (hl : ∀ x ∈ l, OkC x) (hn : (allK K l).length ≤ 32) : OkK (allK K l) :=
  ⟨allK_asc h.asc, allK_nd h.nd, hn, fun x hx => by
    rcases allK_mem hx with hx | hx
    · exact h.ok x hx
    · exact hl x hx⟩
def readG : Nat → List Int → List T_Setting → Nat → List T_Setting × Nat
  | 0, _, K, t => (K, t)
  | f + 1, b, K, t => match batchF b with
    | none => (K, t)
    | some (l, n) => if (allK K l).length > 32 then (K, t) else readG f (b.drop n) (allK K l) (t + n)
theorem readG_fuel : ∀ (f g : Nat) {b : List Int} (K : List T_Setting) (t : Nat), rng b → b.length ≤ f → b.length ≤ g → readG f b K t = readG g b K t
  | 0, 0, b, K, t, _, _, _ => rfl
  | 0, g + 1, b, K, t, _, h, _ => by
    have : b = [] := List.eq_nil_of_length_eq_zero (by omega)
    subst this
    rfl
  | f + 1, 0, b, K, t, _, _, h => by
    have : b = [] := List.eq_nil_of_length_eq_zero (by omega)
    subst this
    rfl
  | f + 1, g + 1, b, K, t, hr, h1, h2 => by
    unfold readG
    cases hb : batchF b with
    | none => rfl
    | some p =>
      obtain ⟨l, n⟩ := p
      have hn := batchF_len hr hb
      simp only
      split
      · rfl
      · exact readG_fuel f g _ _ (hr.drop n) (by simp; omega) (by simp; omega)
def readK (b : List Int) (K : List T_Setting) (t : Nat) : List T_Setting × Nat := readG b.length b K t
theorem readK_eq {b : List Int} (hr : rng b) (K : List T_Setting) (t : Nat) : readK b K t = match batchF b with
    | none => (K, t)
    | some (l, n) => if (allK K l).length > 32 then (K, t) else readK (b.drop n) (allK K l) (t + n) := by
  have h1 : readK b K t = readG (b.length + 1) b K t := readG_fuel _ _ _ _ hr (Nat.le_refl _) (by omega)
  rw [h1]
  unfold readG
  cases hb : batchF b with
  | none => rfl
  | some p =>
    obtain ⟨l, n⟩ := p
    have hn := batchF_len hr hb
    simp only
    split
    · rfl
    · exact readG_fuel _ _ _ _ (hr.drop n) (by simp) (Nat.le_refl _)
theorem readG_ok : ∀ (f : Nat) {b : List Int} {K : List T_Setting} (t : Nat), rng b → OkK K → OkK (readG f b K t).1 ∧ t ≤ (readG f b K t).2 ∧ (readG f b K t).2 ≤ t + b.length
  | 0, b, K, t, _, h => ⟨h, by simp [readG], by simp [readG]⟩
  | f + 1, b, K, t, hr, h => by
    unfold readG
    cases hb : batchF b with
    | none => exact ⟨h, by simp, by simp⟩
    | some p =>
      obtain ⟨l, n⟩ := p
      have hn := batchF_len hr hb
      simp only
      split
      · exact ⟨h, by simp, by simp⟩
      · obtain ⟨h1, h2, h3⟩ := readG_ok f (t + n) (hr.drop n) (h.all (batchF_ok hr hb).2.2 (by omega))
        simp only [List.length_drop] at h3
        exact ⟨h1, by omega, by omega⟩
theorem readK_ok {b : List Int} {K : List T_Setting} (t : Nat) (hr : rng b) (h : OkK K) : OkK (readK b K t).1 ∧ t ≤ (readK b K t).2 ∧ (readK b K t).2 ≤ t + b.length := readG_ok _ t hr h
def genF (b : List Int) : Int := b.getD 0 0 + 256 * b.getD 1 0 + 65536 * b.getD 2 0 + 16777216 * b.getD 3 0
theorem gen_or {a b c d : Int} (ha : 0 ≤ a ∧ a ≤ 255) (hb : 0 ≤ b ∧ b ≤ 255) (hc : 0 ≤ c ∧ c ≤ 255) (hd : 0 ≤ d ∧ d ≤ 255) :
    iOr .i64 (iOr .i64 (iOr .i64 (IntKind.wrap .i64 a) (iShl .i64 (IntKind.wrap .i64 b) 8)) (iShl .i64 (IntKind.wrap .i64 c) 16)) (iShl .i64 (IntKind.wrap .i64 d) 24) = a + 256 * b + 65536 * c + 16777216 * d := by
  obtain ⟨a, ha, rfl⟩ := byte_nat ha
  obtain ⟨b, hb, rfl⟩ := byte_nat hb
  obtain ⟨c, hc, rfl⟩ := byte_nat hc
  obtain ⟨d, hd, rfl⟩ := byte_nat hd
  have e8 : (8 : Int) = ((8 : Nat) : Int) := rfl
  have e16 : (16 : Int) = ((16 : Nat) : Int) := rfl
  have e24 : (24 : Int) = ((24 : Nat) : Int) := rfl
  have p8 : 2 ^ 8 = 256 := rfl
  have p16 : 2 ^ 16 = 65536 := rfl
  have p24 : 2 ^ 24 = 16777216 := rfl
  rw [wrap_i64n (by omega), wrap_i64n (by omega), wrap_i64n (by omega), wrap_i64n (by omega), e8, e16, e24, iShl_i64 (by omega) (by omega), iShl_i64 (by omega) (by omega), iShl_i64 (by omega) (by omega)]
  rw [iOr_i64 (by omega) (by omega), or_add (by omega), iOr_i64 (by omega) (by omega), or_add (by omega), iOr_i64 (by omega) (by omega), or_add (by omega), p8, p16, p24]
  omega
def secF (b : List Int) : Option (Int × List T_Setting × Nat) :=
  if b.getD 4 0 ≠ 0 ∨ genF b < 1 ∨ genF b > 2147483648 then none else some (genF b, readK (b.drop 5) [] 5)
noncomputable def readStep (b_p0 : List Int) : T_sector → Option (Step T_sector T_sector) :=
  (fun (s1 : T_sector) => bnd (Go.Proofs.Ythdpagcklakahaa.sub b_p0 s1.tail (b_p0.length : Int)) fun l1 => bnd (m_settings_batch l1) fun r1 => bif !r1.2.2 then (some (.done s1)) else (bnd (m__settings_values_after s1.all r1.1) fun r2 => bif decide ((((r2.getD []).length : Nat) : Int) > 32) then (some (.done s1)) else (some (.next (⟨s1.generation, r2, IntKind.wrap .i64 (s1.tail + r1.2.1), s1.clean⟩ : T_sector)))))
theorem sub_drop {b : List Int} {t : Nat} (h : t ≤ b.length) : Go.Proofs.Ythdpagcklakahaa.sub b (t : Int) (b.length : Int) = some (b.drop t) := by
  rw [sub_nat h (Nat.le_refl _), List.take_of_length_le (by simp)]
theorem read_loop {b : List Int} (hr : rng b) (hl : b.length ≤ 16384) (g : Int) : ∀ (f t : Nat) (m : MapS), (b.drop t).length ≤ f → t ≤ b.length → NdK m →
    ∃ m', loopM (readStep b) (⟨g, some m, (t : Int), false⟩ : T_sector) = some (⟨g, some m', ((readK (b.drop t) (toL m) t).2 : Int), false⟩ : T_sector) ∧ NdK m' ∧ toL m' = (readK (b.drop t) (toL m) t).1
  | f, t, m, hf, ht, hm => by
    have hrd := hr.drop t
    rw [readK_eq hrd]
    have hstep : readStep b (⟨g, some m, (t : Int), false⟩ : T_sector) = some (match batchF (b.drop t) with
        | none => .done (⟨g, some m, (t : Int), false⟩ : T_sector)
        | some (l, n) => if (allK (toL m) l).length > 32 then .done (⟨g, some m, (t : Int), false⟩ : T_sector) else .next (⟨g, some (aftS m l), ((t + n : Nat) : Int), false⟩ : T_sector)) := by
      unfold readStep
      simp only
      rw [sub_drop ht, bnd_some, batch_eq hrd (by simp; omega), bnd_some]
      cases hb : batchF (b.drop t) with
      | none => rfl
      | some p =>
        obtain ⟨l, n⟩ := p
        have hn := batchF_len hrd hb
        have ho := batchF_ok hrd hb
        simp only [List.length_drop] at hn
        simp only [batchOut, Bool.not_true, cond_false]
        rw [after_eq m l (by omega) (fun x hx => by have := (ho.2.2 x hx).len; omega), bnd_some]
        have hlen : (((some (aftS m l) : Option MapS).getD []).length : Int) = ((allK (toL m) l).length : Int) := by
          show ((aftS m l).length : Int) = _
          rw [aftS_len hm]
        rw [hlen]
        by_cases hgt : (allK (toL m) l).length > 32
        · rw [cnd_t (by simp; omega), if_pos hgt]
        · rw [cnd_f (by simp; omega), if_neg hgt, wrap_i64 (by omega) (by omega)]
          rfl
    cases hb : batchF (b.drop t) with
    | none =>
      rw [hb] at hstep
      exact ⟨m, loop_done hstep, hm, rfl⟩
    | some p =>
      obtain ⟨l, n⟩ := p
      have hn := batchF_len hrd hb
      simp only [List.length_drop] at hn hf
      rw [hb] at hstep
      simp only at hstep ⊢
      split
      · rename_i hgt
        rw [if_pos hgt] at hstep
        exact ⟨m, loop_done hstep, hm, rfl⟩
      · rename_i hgt
        rw [if_neg hgt] at hstep
        match f, hf with
        | 0, hf => omega
        | f + 1, hf =>
          obtain ⟨m', h1, h2, h3⟩ := read_loop hr hl g f (t + n) (aftS m l) (by simp; omega) (by omega) (aftS_nd hm)
          rw [toL_aft hm] at h1 h3
          refine ⟨m', ?_, h2, ?_⟩
          · rw [List.drop_drop]
            exact loop_next hstep h1
          · rw [List.drop_drop]
            exact h3
theorem read_sector {b : List Int} (hr : rng b) (h64 : 64 ≤ b.length) (hl : b.length ≤ 16384) : (secF b = none ∧ m_settings_read b = some (⟨0, none, 0, false⟩, false)) ∨
    ∃ m, secF b = some (genF b, readK (b.drop 5) [] 5) ∧ m_settings_read b = some (⟨genF b, some m, ((readK (b.drop 5) [] 5).2 : Int), blankF (b.drop (readK (b.drop 5) [] 5).2)⟩, true) ∧ NdK m ∧ toL m = (readK (b.drop 5) [] 5).1 := by
  have hg := gen_or (hr.get 0) (hr.get 1) (hr.get 2) (hr.get 3)
  have e : ∀ i : Nat, i < 64 → elt b (i : Int) = some (b.getD i 0) := fun i hi => getD_elt (by omega)
  have e0 : elt b 0 = some (b.getD 0 0) := e 0 (by omega)
  have e1 : elt b 1 = some (b.getD 1 0) := e 1 (by omega)
  have e2 : elt b 2 = some (b.getD 2 0) := e 2 (by omega)
  have e3 : elt b 3 = some (b.getD 3 0) := e 3 (by omega)
  have e4 : elt b 4 = some (b.getD 4 0) := e 4 (by omega)
  have hgen : iOr .i64 (iOr .i64 (iOr .i64 (IntKind.wrap .i64 (b.getD 0 0)) (iShl .i64 (IntKind.wrap .i64 (b.getD 1 0)) 8)) (iShl .i64 (IntKind.wrap .i64 (b.getD 2 0)) 16)) (iShl .i64 (IntKind.wrap .i64 (b.getD 3 0)) 24) = genF b := hg
  unfold m_settings_read secF
  rw [e0, bnd_some, e1, bnd_some, e2, bnd_some, e3, bnd_some, e4, bnd_some, hgen]
  by_cases h4 : b.getD 4 0 ≠ 0
  · left
    rw [if_pos (.inl h4), cnd_t (by simpa using h4), bnd_some]
    exact ⟨rfl, rfl⟩
  · rw [cnd_f (by simpa using h4)]
    by_cases hg1 : genF b < 1
    · left
      rw [if_pos (.inr (.inl hg1)), cnd_t (by simpa using hg1), bnd_some]
      exact ⟨rfl, rfl⟩
    · rw [cnd_f (by simpa using hg1), bnd_some]
      by_cases hg2 : genF b > 2147483648
      · left
        rw [if_pos (.inr (.inr hg2)), cnd_t (by simpa using hg2)]
        exact ⟨rfl, rfl⟩
      · right
        rw [if_neg (by simp only [not_or]; exact ⟨h4, hg1, hg2⟩), cnd_f (by simpa using hg2)]
        obtain ⟨m', h1, h2, h3⟩ := read_loop hr hl (genF b) (b.drop 5).length 5 [] (Nat.le_refl _) (by omega) (by simp [NdK, keysS])
        have e5 : toL [] = [] := by simp [toL, sortK, keysS]
        rw [e5] at h1 h3
        refine ⟨m', rfl, ?_, h2, h3⟩
        have ht := (readK_ok 5 (hr.drop 5) OkK.nil).2.2
        simp only [List.length_drop] at ht
        unfold readStep at h1
        refine bnd_eq h1 ?_
        simp only
        rw [sub_drop (by omega), bnd_some, blank_eq (by simp; omega), bnd_some]
structure OS where
  act : Int
  gen : Int
  K : List T_Setting
  tail : Int
  clean : Bool
def pick (o : OS) (i : Int) (b : List Int) : OS := match secF b with
  | none => o
  | some (g, K, t) => if g > o.gen then ⟨i, g, K, (t : Int), blankF (b.drop t)⟩ else o
def sect (d : T_Device) (k : Nat) : List Int := (d.bytes.drop (k * d.size.toNat)).take d.size.toNat
def os0 : OS := ⟨-1, 0, [], 0, false⟩
def openF (d : T_Device) (f : Nat) : OS := pick (pick os0 0 (sect d f)) 1 (sect d (f + 1))
structure RelO (s : T_settings_Store) (f : Nat) (o : OS) : Prop where
  d : s.d = true
  first : s.first = (f : Int)
  act : s.active = o.act
  gen : s.generation = o.gen
  all : ∃ m, s.all = some m ∧ NdK m ∧ toL m = o.K
  tail : s.tail = o.tail
  clean : s.clean = o.clean
  ended : s.ended = false
theorem sect_len {d : T_Device} (h : OkD d) {k : Nat} (hk : k < d.wear.length) : (sect d k).length = d.size.toNat := by
  have := sector_le h hk
  simp only [sect, List.length_take, List.length_drop]
  omega
theorem sect_rng {d : T_Device} (h : OkD d) (k : Nat) : rng (sect d k) := (h.rng.drop _).take _
theorem readF_sect {d : T_Device} (h : OkD d) (hd : d.down = false) {k : Nat} (hk : k < d.wear.length) : readF d (((k * d.size.toNat : Nat) : Int)) d.size = (sect d k, 0) := by
  have h1 := sector_le h hk
  have h2 := h.size
  unfold readF
  rw [if_neg (by simp [hd]), if_pos ⟨by omega, by omega, by omega, by omega⟩]
  rfl
noncomputable def openStep (first : Int) : T_settings_Store × T_Device × Int → Option (Step (T_settings_Store × T_Device × Int) ((T_Device × (Option T_settings_Store) × Int) ⊕ (T_settings_Store × T_Device))) :=
  (fun (s1 : T_settings_Store × T_Device × Int) => bif decide (s1.2.2 < 2) then (bnd (m_flash_Device_Size s1.2.1) fun r3 => bnd (m_flash_Device_Size s1.2.1) fun r4 => bnd (m_flash_Device_Read s1.2.1 (IntKind.wrap .i64 ((IntKind.wrap .i64 (first + s1.2.2)) * r3)) r4) fun r5 => bif (r5.2.2 != 0) then (some (.done (.inl (r5.1, none, r5.2.2)))) else (bnd (m_settings_read r5.2.1) fun r6 => bnd ((bif r6.2 then (some (decide (r6.1.generation > s1.1.generation))) else (some false) : Option Bool)) fun o4 => bif o4 then (some (.next ((⟨s1.1.d, s1.1.first, s1.2.2, r6.1.generation, r6.1.all, r6.1.tail, r6.1.clean, s1.1.ended⟩ : T_settings_Store), r5.1, IntKind.wrap .i64 (s1.2.2 + 1)))) else (some (.next (s1.1, r5.1, IntKind.wrap .i64 (s1.2.2 + 1)))))) else (some (.done (.inr (s1.1, s1.2.1)))))
theorem open_step {d : T_Device} (h : OkD d) (hd : d.down = false) (hz : 1024 ≤ d.size) {f i : Nat} (hi : i < 2) (hf : f + i < d.wear.length) {s : T_settings_Store} {o : OS} (hs : RelO s f o) :
    ∃ s', openStep (f : Int) (s, d, (i : Int)) = some (.next (s', d, ((i + 1 : Nat) : Int))) ∧ RelO s' f (pick o (i : Int) (sect d (f + i))) := by
  have hw := h.wear
  have hsz := h.size
  have hle := sector_le h hf
  have hb := h.bound
  obtain ⟨z, hzz⟩ : ∃ z : Nat, d.size = (z : Int) := ⟨d.size.toNat, by omega⟩
  have hz1 : d.size.toNat = z := by rw [hzz]; rfl
  rw [hz1] at hle
  have hoff : IntKind.wrap .i64 (IntKind.wrap .i64 ((f : Int) + (i : Int)) * d.size) = (((f + i) * d.size.toNat : Nat) : Int) := by
    rw [wrap_i64 (x := (f : Int) + (i : Int)) (by omega) (by omega), hz1, hzz]
    have : ((f : Int) + (i : Int)) * (z : Int) = (((f + i) * z : Nat) : Int) := by simp [Int.add_mul, Nat.add_mul]
    rw [this, wrap_i64n (by omega)]
  have hrd := readF_sect h hd hf
  have hsl : (sect d (f + i)).length = d.size.toNat := sect_len h hf
  have hred := read_sector (sect_rng h (f + i)) (by omega) (by omega)
  unfold openStep
  simp only
  rw [cnd_t (by simp; omega)]
  unfold m_flash_Device_Size
  rw [bnd_some, bnd_some, read_eq h _ _ (by rw [hoff]; omega), bnd_some, hoff, hrd]
  simp only
  rw [cnd_f (by decide)]
  rcases hred with ⟨h1, h2⟩ | ⟨m, h1, h2, h3, h4⟩
  · rw [h2, bnd_some]
    simp only
    rw [cnd_f rfl, bnd_some, cond_false, wrap_i64 (by omega) (by omega)]
    refine ⟨s, rfl, ?_⟩
    unfold pick
    rw [h1]
    exact hs
  · rw [h2, bnd_some]
    simp only
    rw [cnd_t rfl, bnd_some, wrap_i64 (by omega) (by omega)]
    unfold pick
    rw [h1]
    simp only
    by_cases hg : genF (sect d (f + i)) > o.gen
    · rw [cnd_t (by rw [hs.gen]; simpa using hg), if_pos hg]
      exact ⟨_, rfl, ⟨hs.d, hs.first, rfl, rfl, ⟨m, rfl, h3, h4⟩, rfl, rfl, hs.ended⟩⟩
    · rw [cnd_f (by rw [hs.gen]; simpa using hg), if_neg hg]
      exact ⟨s, rfl, hs⟩
theorem open_eq {d : T_Device} (h : OkD d) (hd : d.down = false) (hz : 1024 ≤ d.size) {f : Nat} (hf : f + 1 < d.wear.length) : ∃ s, m_settings_Open d (f : Int) = some (d, some s, 0) ∧ RelO s f (openF d f) := by
  have hw := h.wear
  unfold m_settings_Open
  rw [cnd_f (by simp <;> omega)]
  unfold m_flash_Device_Sectors
  rw [bnd_some, bnd_some, wrap_i64 (by omega) (by omega), cnd_f (by simp <;> omega)]
  unfold m_flash_Device_Size
  rw [bnd_some, cnd_f (by simp <;> omega)]
  have et : toL [] = [] := by simp [toL, sortK, keysS]
  have h0 : RelO (⟨true, (f : Int), (-1), 0, (some []), 0, false, false⟩ : T_settings_Store) f os0 := ⟨rfl, rfl, rfl, rfl, ⟨[], rfl, by simp [NdK, keysS], et⟩, rfl, rfl, rfl⟩
  obtain ⟨s1, e1, r1⟩ := open_step h hd hz (i := 0) (by omega) (by omega) h0
  obtain ⟨s2, e2, r2⟩ := open_step h hd hz (i := 1) (by omega) hf r1
  have e3 : openStep (f : Int) (s2, d, ((2 : Nat) : Int)) = some (.done (.inr (s2, d))) := by
    unfold openStep
    simp only
    rw [cnd_f (by simp)]
  have hl := loop_next e1 (loop_next e2 (loop_done e3))
  unfold openStep m_flash_Device_Size at hl
  refine ⟨s2, ?_, r2⟩
  have e0 : ((0 : Nat) : Int) = 0 := rfl
  rw [e0] at hl
  exact bnd_eq hl rfl
theorem pick_ok {o : OS} {i : Int} {b : List Int} (hr : rng b) (h : OkK o.K) : OkK (pick o i b).K := by
  unfold pick
  cases hb : secF b with
  | none => exact h
  | some p =>
    obtain ⟨g, K, t⟩ := p
    simp only
    split
    · unfold secF at hb
      split at hb
      · cases hb
      · injection hb with hb
        injection hb with _ hb
        have := (readK_ok 5 (hr.drop 5) OkK.nil).1
        rw [hb] at this
        exact this
    · exact h
theorem openF_ok {d : T_Device} (h : OkD d) (f : Nat) : OkK (openF d f).K := pick_ok (sect_rng h _) (pick_ok (sect_rng h _) OkK.nil)
end Go.Proofs.Ythdpagcklakahaa
end
section
namespace Go.Proofs.Ythdpagcklakahaa
open Go
set_option linter.unusedSimpArgs false
set_option linter.unusedVariables false
def chkG (seen : List Int) : List T_Setting → Int
  | [] => 0
  | x :: r => if x.Value.length > 28 ∨ (x.Delete = true ∧ x.Value.length > 0) then 1 else if x.Key ∈ seen then 7 else chkG (x.Key :: seen) r
def chkF (l : List T_Setting) : Int := if l.length > 32 then 3 else chkG [] l
theorem chkG_val : ∀ (l : List T_Setting) (seen : List Int), chkG seen l = 0 ∨ chkG seen l = 1 ∨ chkG seen l = 7
  | [], _ => .inl rfl
  | x :: r, seen => by
    unfold chkG
    split
    · exact .inr (.inl rfl)
    · split
      · exact .inr (.inr rfl)
      · exact chkG_val r _
theorem chkF_val (l : List T_Setting) : chkF l = 0 ∨ chkF l = 1 ∨ chkF l = 7 ∨ chkF l = 3 := by
  unfold chkF
  split
  · simp
  · rcases chkG_val l [] with h | h | h <;> simp [h]
theorem chkG_ok : ∀ {l : List T_Setting} {seen : List Int}, chkG seen l = 0 → ∀ x ∈ l, x.Value.length ≤ 28 ∧ (x.Delete = true → x.Value = [])
  | [], _, _, x, hx => by cases hx
  | y :: r, seen, h, x, hx => by
    unfold chkG at h
    split at h
    · cases h
    · rename_i h1
      split at h
      · cases h
      · rcases List.mem_cons.1 hx with rfl | hx
        · refine ⟨by omega, fun hd => List.eq_nil_of_length_eq_zero ?_⟩
          simp only [hd, true_and] at h1
          omega
        · exact chkG_ok h x hx
theorem chkF_ok {l : List T_Setting} (h : chkF l = 0) : l.length ≤ 32 ∧ ∀ x ∈ l, x.Value.length ≤ 28 ∧ (x.Delete = true → x.Value = []) := by
  unfold chkF at h
  split at h
  · cases h
  · exact ⟨by omega, chkG_ok h⟩
noncomputable def chkStep (l_p0 : List T_Setting) : Int × (List (Int × Bool)) → Option (Step (Int × (List (Int × Bool))) (Int ⊕ (List (Int × Bool)))) :=
  (fun (s1 : Int × (List (Int × Bool))) => bif decide (s1.1 < (l_p0.length : Int)) then (bnd (elt l_p0 s1.1) fun x1 => bnd ((bif decide ((x1.Value.length : Int) > 28) then (some true) else (bif x1.Delete then (some (decide ((x1.Value.length : Int) > 0))) else (some false)) : Option Bool)) fun o3 => bif o3 then (some (.done (.inl 1))) else (bif (mget (kint .u8).eq s1.2 x1.Key).getD false then (some (.done (.inl 7))) else (some (.next (IntKind.wrap .i64 (s1.1 + 1), mset (kint .u8).eq s1.2 x1.Key true))))) else (some (.done (.inr s1.2))))
def chkOut (e : Int) (m : List (Int × Bool)) : Int ⊕ (List (Int × Bool)) := if e = 0 then .inr m else .inl e
theorem chk_loop {l : List T_Setting} (hl : l.length ≤ 1000000) : ∀ (k i : Nat) (m : List (Int × Bool)) (seen : List Int), i + k = l.length → (∀ q, (mget (kint .u8).eq m q).getD false = decide (q ∈ seen)) →
    ∃ m', loopM (chkStep l) ((i : Int), m) = some (chkOut (chkG seen (l.drop i)) m')
  | 0, i, m, seen, h, _ => by
    refine ⟨m, loop_done ?_⟩
    unfold chkStep
    simp only
    rw [cnd_f (by simp; omega), List.drop_eq_nil_of_le (by omega)]
    rfl
  | k + 1, i, m, seen, h, hm => by
    have hi : i < l.length := by omega
    have hd : l.drop i = l[i] :: l.drop (i + 1) := (List.getElem_cons_drop (h := hi)).symm
    rw [hd]
    have hst : chkStep l ((i : Int), m) = some (if l[i].Value.length > 28 ∨ (l[i].Delete = true ∧ l[i].Value.length > 0) then .done (.inl 1) else if l[i].Key ∈ seen then .done (.inl 7) else .next (((i + 1 : Nat) : Int), mset (kint .u8).eq m l[i].Key true)) := by
      unfold chkStep
      simp only
      rw [cnd_t (by simp; omega), elt_lt hi, bnd_some]
      have hc : (bif decide ((l[i].Value.length : Int) > 28) then (some true) else (bif l[i].Delete then (some (decide ((l[i].Value.length : Int) > 0))) else (some false)) : Option Bool) = some (decide (l[i].Value.length > 28 ∨ (l[i].Delete = true ∧ l[i].Value.length > 0))) := by
        by_cases h1 : l[i].Value.length > 28
        · rw [cnd_t (by simp; omega), decide_eq_true (.inl h1)]
        · rw [cnd_f (by simp; omega)]
          cases hdl : l[i].Delete
          · rw [cond_false]
            congr 1
            symm
            simp [h1]
          · rw [cond_true]
            congr 1
            rw [decide_eq_decide]
            simp [h1]
      rw [hc, bnd_some, hm]
      by_cases h1 : l[i].Value.length > 28 ∨ (l[i].Delete = true ∧ l[i].Value.length > 0)
      · rw [decide_eq_true h1, cond_true, if_pos h1]
      · rw [decide_eq_false h1, cond_false, if_neg h1]
        by_cases h2 : l[i].Key ∈ seen
        · rw [decide_eq_true h2, cond_true, if_pos h2]
        · rw [decide_eq_false h2, cond_false, if_neg h2, wrap_succ hi (by omega)]
    unfold chkG
    by_cases h1 : l[i].Value.length > 28 ∨ (l[i].Delete = true ∧ l[i].Value.length > 0)
    · rw [if_pos h1] at hst
      rw [if_pos h1]
      exact ⟨m, loop_done hst⟩
    · rw [if_neg h1] at hst
      rw [if_neg h1]
      by_cases h2 : l[i].Key ∈ seen
      · rw [if_pos h2] at hst
        rw [if_pos h2]
        exact ⟨m, loop_done hst⟩
      · rw [if_neg h2] at hst
        rw [if_neg h2]
        obtain ⟨m', hm'⟩ := chk_loop hl k (i + 1) (mset (kint .u8).eq m l[i].Key true) (l[i].Key :: seen) (by omega) fun q => by
          rw [mget_mset kint_iff]
          by_cases hq : q = l[i].Key
          · simp [hq]
          · rw [if_neg hq, hm]
            simp [hq]
        exact ⟨m', loop_next hst hm'⟩
theorem check_eq {l : List T_Setting} (hl : l.length ≤ 1000000) : m_settings_check l = some (chkF l) := by
  unfold m_settings_check chkF
  by_cases h : l.length > 32
  · rw [cnd_t (by simp; omega), if_pos h]
  · rw [cnd_f (by simp; omega), if_neg h]
    obtain ⟨m', hm'⟩ := chk_loop hl l.length 0 [] [] (by omega) (fun q => by simp [mget])
    unfold chkStep at hm'
    refine bnd_eq hm' ?_
    rw [List.drop_zero]
    unfold chkOut
    split
    · rename_i h0
      rw [h0]
      rfl
    · rfl
def gen4 (g : Int) : List Int := [IntKind.wrap .u8 g, IntKind.wrap .u8 (iShr .i64 g 8), IntKind.wrap .u8 (iShr .i64 g 16), IntKind.wrap .u8 (iShr .i64 g 24)]
def andD (r : T_Device × Int) (f : T_Device → T_Device × Int) : T_Device × Int := if r.2 = 0 then f r.1 else r
def othF (o : OS) : Nat := if o.act = 0 then 1 else 0
def moveD (o : OS) (d : T_Device) (f : Nat) (next : List T_Setting) : T_Device × Int :=
  let k := f + othF o
  let at_ : Int := ((k * d.size.toNat : Nat) : Int)
  andD (andD (andD (if blankF (sect d k) then (d, 0) else eraseF d (k : Int)) fun d1 => programF d1 at_ (gen4 (o.gen + 1))) fun d2 => if next = [] then (d2, 0) else programF d2 (at_ + 5) (encF next)) fun d3 => programF d3 (at_ + 4) [0]
def moveO (o : OS) (next : List T_Setting) : OS := ⟨(othF o : Int), o.gen + 1, next, 5 + (if next = [] then 0 else ((encF next).length : Int)), true⟩
def finU (o o' : OS) (r : T_Device × Int) : Option OS × T_Device × Int := if r.2 = 0 then (some o', r.1, 0) else if r.2 = 10 then (none, r.1, 10) else (some o, r.1, r.2)
def updF (o : OS) (d : T_Device) (f : Nat) (l : List T_Setting) : Option OS × T_Device × Int :=
  if d.down then (none, d, 10) else if chkF l ≠ 0 then (some o, d, chkF l) else if l = [] then (some o, d, 0) else if (allK o.K l).length > 32 then (some o, d, 3) else
    if 0 ≤ o.act ∧ o.clean = true ∧ ((encF l).length : Int) ≤ d.size - o.tail then finU o ⟨o.act, o.gen, allK o.K l, o.tail + (encF l).length, o.clean⟩ (programF d (((f + o.act.toNat) * d.size.toNat : Nat) + o.tail) (encF l))
    else if o.gen = 2147483648 then (some o, d, 3) else finU o (moveO o (allK o.K l)) (moveD o d f (allK o.K l))
def endS : T_settings_Store := ⟨false, 0, 0, 0, none, 0, false, true⟩
def RelU (s' : T_settings_Store) (f : Nat) (o : Option OS) : Prop := match o with
  | none => s' = endS
  | some o => RelO s' f o
structure OkO (o : OS) : Prop where
  K : OkK o.K
  act : -1 ≤ o.act ∧ o.act ≤ 1
  tail : 0 ≤ o.tail ∧ o.tail ≤ 16384
  gen : 0 ≤ o.gen ∧ o.gen ≤ 2147483648
theorem enc_rng {l : List T_Setting} (hl : l.length ≤ 32) (h : ∀ x ∈ l, OkC x) : rng (encF l) := by
  unfold encF
  refine rng.app (rng.cons ?_ fun y hy => ?_) (rng.cons (by decide) rng.nil)
  · rw [wrap_u8 (by omega) (by omega)]; omega
  · obtain ⟨x, hx, hy⟩ := List.mem_flatMap.1 hy
    have hok := h x hx
    unfold encS at hy
    split at hy
    · simp only [List.mem_cons, List.not_mem_nil, or_false] at hy
      rcases hy with rfl | rfl
      · exact hok.key
      · decide
    · rcases List.mem_cons.1 hy with rfl | hy
      · exact hok.key
      · rcases List.mem_cons.1 hy with rfl | hy
        · have := hok.len
          rw [wrap_u8 (by omega) (by omega)]
          omega
        · exact hok.rng y hy
theorem enc_len {l : List T_Setting} (hl : l.length ≤ 32) (h : ∀ x ∈ l, OkC x) : 2 ≤ (encF l).length ∧ (encF l).length ≤ 962 := by
  have key : ∀ (l : List T_Setting), (∀ x ∈ l, OkC x) → (l.flatMap encS).length ≤ l.length * 30 := by
    intro l
    induction l with
    | nil => intro _; simp
    | cons x r ih =>
      intro h
      have h1 := (encS_len x).2
      have h2 := (h x (by simp)).len
      have h3 := ih fun y hy => h y (by simp [hy])
      simp only [List.flatMap_cons, List.length_append, List.length_cons]
      omega
  have := key l h
  unfold encF
  simp only [List.length_append, List.length_cons, List.length_nil]
  omega
theorem gen4_rng (g : Int) : rng (gen4 g) := by
  have h : ∀ x : Int, 0 ≤ IntKind.wrap .u8 x ∧ IntKind.wrap .u8 x ≤ 255 := fun x => by rw [wrap_u8_mod]; omega
  exact rng.cons (h _) (rng.cons (h _) (rng.cons (h _) (rng.cons (h _) rng.nil)))
theorem andD_ok {r : T_Device × Int} {g : T_Device → T_Device × Int} {d : T_Device} (hr : OkD r.1 ∧ r.1.size = d.size ∧ r.1.wear.length = d.wear.length ∧ r.1.bytes.length = d.bytes.length ∧ r.1.torn = d.torn)
    (hg : ∀ e, OkD e → e.size = d.size → e.wear.length = d.wear.length → e.bytes.length = d.bytes.length → e.torn = d.torn → OkD (g e).1 ∧ (g e).1.size = d.size ∧ (g e).1.wear.length = d.wear.length ∧ (g e).1.bytes.length = d.bytes.length ∧ (g e).1.torn = d.torn) :
    OkD (andD r g).1 ∧ (andD r g).1.size = d.size ∧ (andD r g).1.wear.length = d.wear.length ∧ (andD r g).1.bytes.length = d.bytes.length ∧ (andD r g).1.torn = d.torn := by
  unfold andD
  split
  · exact hg r.1 hr.1 hr.2.1 hr.2.2.1 hr.2.2.2.1 hr.2.2.2.2
  · exact hr
theorem progF_ok {d : T_Device} (h : OkD d) {b : List Int} (hb : rng b) (at_ : Int) : OkD (programF d at_ b).1 ∧ (programF d at_ b).1.size = d.size ∧ (programF d at_ b).1.wear.length = d.wear.length ∧ (programF d at_ b).1.bytes.length = d.bytes.length ∧ (programF d at_ b).1.torn = d.torn := by
  obtain ⟨h1, h2, h3, h4, h5⟩ := programF_ok h hb at_
  exact ⟨h1, h2, by rw [h3], h4, h5⟩
theorem progOk' {d e : T_Device} (h : OkD e) (h1 : e.size = d.size) (h2 : e.wear.length = d.wear.length) (h3 : e.bytes.length = d.bytes.length) (h4 : e.torn = d.torn) {b : List Int} (hb : rng b) (at_ : Int) :
    OkD (programF e at_ b).1 ∧ (programF e at_ b).1.size = d.size ∧ (programF e at_ b).1.wear.length = d.wear.length ∧ (programF e at_ b).1.bytes.length = d.bytes.length ∧ (programF e at_ b).1.torn = d.torn := by
  obtain ⟨a1, a2, a3, a4, a5⟩ := progF_ok h hb at_
  exact ⟨a1, a2.trans h1, a3.trans h2, a4.trans h3, a5.trans h4⟩
end Go.Proofs.Ythdpagcklakahaa
end
section
namespace Go.Proofs.Ythdpagcklakahaa
open Go
set_option linter.unusedSimpArgs false
set_option linter.unusedVariables false
theorem mgetS_ok {m : MapS} {K : List T_Setting} (h : toL m = K) (hK : OkK K) : ∀ k v, mgetS m k = some v → v.length ≤ 28 ∧ rng v := fun k v hv => by
  rw [← look_toL, h] at hv
  unfold look at hv
  rw [Option.map_eq_some_iff] at hv
  obtain ⟨x, hx, rfl⟩ := hv
  have := hK.ok x (List.mem_of_find?_eq_some hx)
  exact ⟨this.len, this.rng⟩
def moveS (s : T_settings_Store) (o : OS) (m : MapS) (N : List T_Setting) : T_settings_Store := ⟨s.d, s.first, (othF o : Int), o.gen + 1, some m, 5 + (if N = [] then 0 else ((encF N).length : Int)), true, s.ended⟩
theorem move_eq {s : T_settings_Store} {f : Nat} {o : OS} {d : T_Device} {m : MapS} {N : List T_Setting} (hs : RelO s f o) (ho : OkO o) (hg : o.gen ≠ 2147483648) (h : OkD d) (hd : d.down = false) (hz : 1024 ≤ d.size) (hf : f + 1 < d.wear.length) (hm : NdK m) (hN : toL m = N) (hK : OkK N) :
    m_settings_Store_move s (some m) d = some (if (moveD o d f N).2 = 0 then moveS s o m N else s, (moveD o d f N).1, (moveD o d f N).2) := by
  have hw := h.wear
  have hsz := h.size
  have hgb := ho.gen
  have hb := h.bound
  obtain ⟨z, hzz⟩ : ∃ z : Nat, d.size = (z : Int) := ⟨d.size.toNat, by omega⟩
  have hz1 : d.size.toNat = z := by rw [hzz]; rfl
  have hk : f + othF o < d.wear.length := by unfold othF; split <;> omega
  have hle := sector_le h hk
  rw [hz1] at hle
  have hoth : ((bif (s.active == 0) then (some 1) else (some 0) : Option Int)) = some ((othF o : Nat) : Int) := by
    rw [hs.act]
    unfold othF
    by_cases ha : o.act = 0
    · rw [cnd_t (by simpa using ha), if_pos ha]; rfl
    · rw [cnd_f (by simpa using ha), if_neg ha]; rfl
  have hchk : chkB s.d = some true := by rw [hs.d]; rfl
  have hot1 : othF o ≤ 1 := by unfold othF; split <;> omega
  have hfo : IntKind.wrap .i64 (s.first + ((othF o : Nat) : Int)) = ((f + othF o : Nat) : Int) := by rw [hs.first, wrap_i64 (by omega) (by omega)]; omega
  have hoff : IntKind.wrap .i64 (((f + othF o : Nat) : Int) * d.size) = (((f + othF o) * d.size.toNat : Nat) : Int) := by
    rw [hz1, hzz]
    have : (((f + othF o : Nat) : Int) * (z : Int)) = (((f + othF o) * z : Nat) : Int) := by simp
    rw [this, wrap_i64n (by omega)]
  have hgen : IntKind.wrap .i64 (s.generation + 1) = o.gen + 1 := by rw [hs.gen, wrap_i64 (by omega) (by omega)]
  have hsl : (sect d (f + othF o)).length = d.size.toNat := sect_len h hk
  have hbl := blank_eq (b := sect d (f + othF o)) (by omega)
  have he := erase_eq h ((f + othF o : Nat) : Int) (by omega)
  unfold m_settings_Store_move
  rw [cnd_f (by rw [hs.gen]; simpa using hg), hoth, bnd_some, hchk, bnd_some]
  unfold m_flash_Device_Size
  rw [bnd_some, bnd_some, bnd_some, hfo, hoff, hgen, read_eq h _ _ (by omega), bnd_some, readF_sect h hd hk]
  -- the first stage
  obtain ⟨r1, hr1⟩ : ∃ r1, (if blankF (sect d (f + othF o)) then (d, 0) else eraseF d ((f + othF o : Nat) : Int)) = r1 := ⟨_, rfl⟩
  have ok1 : OkD r1.1 ∧ r1.1.size = d.size ∧ r1.1.wear.length = d.wear.length ∧ r1.1.bytes.length = d.bytes.length ∧ r1.1.torn = d.torn := by
    rw [← hr1]
    split
    · exact ⟨h, rfl, rfl, rfl, rfl⟩
    · exact eraseF_ok h _
  refine bnd_eq (a := (r1.2, r1.1)) ?_ ?_
  · rw [cnd_t (by rfl), hbl, bnd_some, bnd_some, ← hr1]
    cases blankF (sect d (f + othF o))
    · simp only [Bool.not_false, cond_true, hchk, bnd_some, he]
      rfl
    · rfl
  simp only
  -- the generation
  obtain ⟨r2, hr2⟩ : ∃ r2, (andD r1 fun d1 => programF d1 (((f + othF o) * d.size.toNat : Nat) : Int) (gen4 (o.gen + 1))) = r2 := ⟨_, rfl⟩
  have ok2 : OkD r2.1 ∧ r2.1.size = d.size ∧ r2.1.wear.length = d.wear.length ∧ r2.1.bytes.length = d.bytes.length ∧ r2.1.torn = d.torn := by
    rw [← hr2]
    exact andD_ok ok1 fun e a b c g t => progOk' a b c g t (gen4_rng _) _
  refine bnd_eq (a := (r2.2, r2.1)) ?_ ?_
  · rw [← hr2]
    unfold andD
    by_cases h0 : r1.2 = 0
    · rw [cnd_t (by simpa using h0), if_pos h0, bnd_some]
      have := program_eq ok1.1 (gen4_rng (o.gen + 1)) (((f + othF o) * d.size.toNat : Nat) : Int) (by omega)
      unfold gen4 at this
      rw [this, bnd_some]
      rfl
    · rw [cnd_f (by simpa using h0), if_neg h0]
  simp only
  -- the settings
  obtain ⟨r3, hr3⟩ : ∃ r3, (andD r2 fun d2 => if N = [] then (d2, 0) else programF d2 ((((f + othF o) * d.size.toNat : Nat) : Int) + 5) (encF N)) = r3 := ⟨_, rfl⟩
  have ok3 : OkD r3.1 ∧ r3.1.size = d.size ∧ r3.1.wear.length = d.wear.length ∧ r3.1.bytes.length = d.bytes.length ∧ r3.1.torn = d.torn := by
    rw [← hr3]
    refine andD_ok ok2 fun e a b c g t => ?_
    split
    · exact ⟨a, b, c, g, t⟩
    · exact progOk' a b c g t (enc_rng hK.len hK.ok) _
  have hmo : moveD o d f N = andD r3 fun d3 => programF d3 ((((f + othF o) * d.size.toNat : Nat) : Int) + 4) [0] := by
    unfold moveD
    simp only
    rw [hr1, hr2, hr3]
  have hlen : (((some m : Option MapS).getD []).length : Int) = (N.length : Int) := by
    show (m.length : Int) = _
    rw [← hN, toL_len]
  refine bnd_eq (a := (if r2.2 = 0 ∧ N ≠ [] then 5 + ((encF N).length : Int) else 5, r3.2, r3.1)) ?_ ?_
  · rw [← hr3, hlen]
    unfold andD
    by_cases h0 : r2.2 = 0
    · rw [cnd_t (by simpa using h0), bnd_some, if_pos h0]
      dsimp only
      by_cases hne : N = []
      · rw [if_pos hne, cnd_f (by rw [hne]; rfl), if_neg (by rw [hne]; simp)]
        rw [h0]
      · have hpos : 0 < N.length := List.length_pos_iff.2 hne
        have hel := enc_len hK.len hK.ok
        have hso : m__settings_values_sorted (some m) = some N := by
          rw [sorted_eq hm (by have := toL_len m; rw [hN] at this; have := hK.len; omega) (fun k v hv => by have := (mgetS_ok hN hK k v hv).1; omega), hN]
        rw [if_neg hne, cnd_t (by simp; omega), if_pos ⟨h0, hne⟩, hso, bnd_some, encode_eq (by have := hK.len; omega) (fun x hx => by have := (hK.ok x hx).len; omega), bnd_some, bnd_some, wrap_i64 (x := (((f + othF o) * d.size.toNat : Nat) : Int) + 5) (by omega) (by rw [hz1]; omega), program_eq ok2.1 (enc_rng hK.len hK.ok) _ (by omega), bnd_some, wrap_i64 (by omega) (by omega)]
    · rw [cnd_f (by simpa using h0), bnd_some, cond_false, if_neg h0, if_neg (fun hh => h0 hh.1)]
  simp only
  -- the status
  refine bnd_eq (a := ((moveD o d f N).2, (moveD o d f N).1)) ?_ ?_
  · rw [hmo]
    unfold andD
    by_cases h0 : r3.2 = 0
    · rw [cnd_t (by simpa using h0), if_pos h0, bnd_some, wrap_i64 (x := (((f + othF o) * d.size.toNat : Nat) : Int) + 4) (by omega) (by rw [hz1]; omega), program_eq ok3.1 (rng.cons (by decide) rng.nil) _ (by omega), bnd_some]
    · rw [cnd_f (by simpa using h0), if_neg h0]
  simp only
  by_cases h0 : (moveD o d f N).2 = 0
  · rw [cnd_t (by simpa using h0), if_pos h0]
    have h2 : r2.2 = 0 := by
      by_cases h2 : r2.2 = 0
      · exact h2
      · exfalso
        have e3 : r3 = r2 := by rw [← hr3]; unfold andD; rw [if_neg h2]
        have e4 : moveD o d f N = r2 := by rw [hmo, e3]; unfold andD; rw [if_neg h2]
        rw [e4] at h0
        exact h2 h0
    unfold moveS
    congr 3
    by_cases hne : N = []
    · simp [hne]
    · rw [if_pos ⟨h2, hne⟩, if_neg hne]
  · rw [cnd_f (by simpa using h0), if_neg h0]
theorem finU_rel {s s' : T_settings_Store} {f : Nat} {o o' : OS} (r : T_Device × Int) (hs : RelO s f o) (hs' : RelO s' f o') : RelU (if r.2 = 0 then s' else if r.2 = 10 then endS else s) f (finU o o' r).1 := by
  unfold finU
  split
  · exact hs'
  · split
    · rfl
    · exact hs
theorem update_eq {s : T_settings_Store} {f : Nat} {o : OS} {d : T_Device} {l : List T_Setting} (hs : RelO s f o) (ho : OkO o) (h : OkD d) (hz : 1024 ≤ d.size) (hf : f + 1 < d.wear.length) (hll : l.length ≤ 1000000) (hl : ∀ x ∈ l, 0 ≤ x.Key ∧ x.Key ≤ 255 ∧ rng x.Value) :
    ∃ s', m_settings_Store_Update s l d = some (s', (updF o d f l).2) ∧ RelU s' f (updF o d f l).1 := by
  have hw := h.wear
  have hsz := h.size
  have hb := h.bound
  have hot := ho.tail
  have hoa := ho.act
  obtain ⟨m, hm1, hm2, hm3⟩ := hs.all
  have hchk : chkB s.d = some true := by rw [hs.d]; rfl
  obtain ⟨z, hzz⟩ : ∃ z : Nat, d.size = (z : Int) := ⟨d.size.toNat, by omega⟩
  have hz1 : d.size.toNat = z := by rw [hzz]; rfl
  unfold m_settings_Store_Update updF
  rw [hs.ended, cond_false, hchk, bnd_some]
  unfold m_flash_Device_Down
  rw [bnd_some, bnd_some]
  cases hd : d.down
  case true => exact ⟨endS, rfl, rfl⟩
  rw [cond_false, check_eq hll, bnd_some, if_neg (by decide)]
  by_cases hc : chkF l ≠ 0
  · rw [cnd_t (by simpa using hc), bnd_some, cond_true, if_pos hc]
    exact ⟨s, rfl, hs⟩
  have hc0 : chkF l = 0 := by omega
  rw [cnd_f (by simpa using hc), bnd_some, if_neg hc]
  by_cases hnil : l = []
  · rw [cnd_t (by rw [hnil]; rfl), if_pos hnil, hc0]
    exact ⟨s, rfl, hs⟩
  have hpos : 0 < l.length := List.length_pos_iff.2 hnil
  have hco := chkF_ok hc0
  have hlok : ∀ x ∈ l, OkC x := fun x hx => ⟨⟨(hl x hx).1, (hl x hx).2.1⟩, (hco.2 x hx).1, (hl x hx).2.2, (hco.2 x hx).2⟩
  rw [cnd_f (by simp; omega), if_neg hnil, hm1, after_eq m l hll (fun x hx => by have := (hco.2 x hx).1; omega), bnd_some]
  have hla : (((some (aftS m l) : Option MapS).getD []).length : Int) = ((allK o.K l).length : Int) := by
    show ((aftS m l).length : Int) = _
    rw [aftS_len hm2, hm3]
  have hta : toL (aftS m l) = allK o.K l := by rw [toL_aft hm2, hm3]
  rw [hla]
  by_cases h32 : (allK o.K l).length > 32
  · rw [cnd_t (by simp; omega), if_pos h32]
    exact ⟨s, rfl, hs⟩
  rw [cnd_f (by simp; omega), if_neg h32]
  have hKok : OkK (allK o.K l) := ho.K.all hlok (by omega)
  have hel := enc_len hco.1 hlok
  have her := enc_rng hco.1 hlok
  rw [encode_eq (by omega) (fun x hx => by have := (hco.2 x hx).1; omega), bnd_some]
  have hcond : ((bif decide (s.active ≥ 0) then (bif s.clean then (bnd (some true) fun b2 => bnd (m_flash_Device_Size d) fun r5 => some (decide (((encF l).length : Int) ≤ (IntKind.wrap .i64 (r5 - s.tail))))) else (some false)) else (some false) : Option Bool)) = some (decide (0 ≤ o.act ∧ o.clean = true ∧ ((encF l).length : Int) ≤ d.size - o.tail)) := by
    rw [hs.act, hs.clean, hs.tail, bnd_some]
    unfold m_flash_Device_Size
    rw [bnd_some, wrap_i64 (by omega) (by omega)]
    by_cases ha : 0 ≤ o.act
    · rw [cnd_t (by simpa using ha)]
      cases hcl : o.clean
      · rw [cond_false]
        congr 1
        simp
      · rw [cond_true]
        congr 1
        rw [decide_eq_decide]
        simp [ha]
    · rw [cnd_f (by simpa using ha)]
      congr 1
      simp [ha]
  rw [hcond, bnd_some]
  by_cases hap : 0 ≤ o.act ∧ o.clean = true ∧ ((encF l).length : Int) ≤ d.size - o.tail
  · rw [decide_eq_true hap, cond_true, if_pos hap, bnd_some]
    unfold m_flash_Device_Size
    rw [bnd_some, hs.first, hs.act, hs.tail]
    have hfa : f + o.act.toNat < d.wear.length := by omega
    have hle := sector_le h hfa
    rw [hz1] at hle
    have e1 : IntKind.wrap .i64 ((f : Int) + o.act) = ((f + o.act.toNat : Nat) : Int) := by rw [wrap_i64 (by omega) (by omega)]; omega
    have e2 : IntKind.wrap .i64 (((f + o.act.toNat : Nat) : Int) * d.size) = (((f + o.act.toNat) * d.size.toNat : Nat) : Int) := by
      rw [hz1, hzz]
      have : (((f + o.act.toNat : Nat) : Int) * (z : Int)) = (((f + o.act.toNat) * z : Nat) : Int) := by simp
      rw [this, wrap_i64n (by omega)]
    rw [e1, e2, wrap_i64 (x := (((f + o.act.toNat) * d.size.toNat : Nat) : Int) + o.tail) (by omega) (by rw [hz1]; omega), program_eq h her _ (by omega), bnd_some]
    obtain ⟨r, hr⟩ : ∃ r, programF d ((((f + o.act.toNat) * d.size.toNat : Nat) : Int) + o.tail) (encF l) = r := ⟨_, rfl⟩
    rw [hr]
    have hs' : RelO (⟨s.d, (f : Int), o.act, s.generation, some (aftS m l), o.tail + ((encF l).length : Int), s.clean, s.ended⟩ : T_settings_Store) f ⟨o.act, o.gen, allK o.K l, o.tail + ((encF l).length : Int), o.clean⟩ := ⟨hs.d, rfl, rfl, hs.gen, ⟨_, rfl, aftS_nd hm2, hta⟩, rfl, hs.clean, hs.ended⟩
    refine ⟨_, ?_, finU_rel r hs hs'⟩
    unfold finU
    by_cases h0 : r.2 = 0
    · rw [cnd_t (by simpa using h0), cnd_f (by rw [h0]; rfl), if_pos h0, if_pos h0, wrap_i64 (by omega) (by omega)]
      rw [h0, hs.ended]
    · rw [cnd_f (by simpa using h0), if_neg h0, if_neg h0]
      by_cases h10 : r.2 = 10
      · rw [cnd_t (by simpa using h10), if_pos h10, if_pos h10, h10]
        rfl
      · rw [cnd_f (by simpa using h10), if_neg h10, if_neg h10]
  · rw [decide_eq_false hap, cond_false, if_neg hap]
    by_cases hg : o.gen = 2147483648
    · rw [if_pos hg]
      unfold m_settings_Store_move
      rw [cnd_t (by rw [hs.gen]; simpa using hg), bnd_some]
      simp only
      rw [cnd_f (by decide)]
      exact ⟨s, rfl, hs⟩
    · rw [if_neg hg, move_eq hs ho hg h hd hz hf (aftS_nd hm2) hta hKok, bnd_some]
      obtain ⟨r, hr⟩ : ∃ r, moveD o d f (allK o.K l) = r := ⟨_, rfl⟩
      rw [hr]
      have hs' : RelO (moveS s o (aftS m l) (allK o.K l)) f (moveO o (allK o.K l)) := ⟨hs.d, hs.first, rfl, rfl, ⟨_, rfl, aftS_nd hm2, hta⟩, rfl, rfl, hs.ended⟩
      refine ⟨_, ?_, finU_rel r hs hs'⟩
      unfold finU
      simp only
      by_cases h0 : r.2 = 0
      · rw [cnd_f (by rw [h0]; rfl), if_pos h0, if_pos h0, if_pos h0, h0]
      · rw [if_neg h0, if_neg h0, if_neg h0]
        by_cases h10 : r.2 = 10
        · rw [cnd_t (by simpa using h10), if_pos h10, if_pos h10, h10]
          rfl
        · rw [cnd_f (by simpa using h10), if_neg h10, if_neg h10]
end Go.Proofs.Ythdpagcklakahaa
end
section
namespace Go.Proofs.Ythdpagcklakahaa
open Go
set_option linter.unusedSimpArgs false
set_option linter.unusedVariables false
def spl (l : List Int) (i : Nat) (w : List Int) : List Int := l.take i ++ w ++ l.drop (i + w.length)
theorem spl_len {l : List Int} {i : Nat} {w : List Int} (h : i + w.length ≤ l.length) : (spl l i w).length = l.length := by
  simp only [spl, List.length_append, List.length_take, List.length_drop]
  omega
theorem spl_get {l : List Int} {i : Nat} {w : List Int} (h : i + w.length ≤ l.length) (j : Nat) : (spl l i w)[j]? = if j < i then l[j]? else if j < i + w.length then w[j - i]? else l[j]? := by
  unfold spl
  have h1 : (l.take i).length = i := by rw [List.length_take]; omega
  by_cases c1 : j < i
  · rw [if_pos c1, List.append_assoc, List.getElem?_append_left (by omega), List.getElem?_take, if_pos c1]
  · rw [if_neg c1, List.append_assoc, List.getElem?_append_right (by omega), h1]
    by_cases c2 : j < i + w.length
    · rw [if_pos c2, List.getElem?_append_left (by omega)]
    · rw [if_neg c2, List.getElem?_append_right (by omega), List.getElem?_drop]
      congr 1
      omega
theorem spl_nil (l : List Int) (i : Nat) : spl l i [] = l := by simp [spl]
theorem spl_set {l : List Int} {i : Nat} (h : i < l.length) (x : Int) : l.set i x = spl l i [x] := by
  apply List.ext_getElem?
  intro j
  rw [spl_get (by simp; omega), List.getElem?_set]
  by_cases c : i = j
  · subst c
    rw [if_pos rfl, if_pos h, if_neg (by omega), if_pos (by simp)]
    simp
  · rw [if_neg c]
    by_cases c1 : j < i
    · rw [if_pos c1]
    · rw [if_neg c1, if_neg (by simp; omega)]
theorem spl_cons {l : List Int} {i : Nat} {w : List Int} (x : Int) (h : i + 1 + w.length ≤ l.length) : spl (l.set i x) (i + 1) w = spl l i (x :: w) := by
  apply List.ext_getElem?
  intro j
  rw [spl_get (by simp; omega), spl_get (by simp; omega), List.getElem?_set]
  simp only [List.length_cons]
  by_cases c1 : j < i
  · rw [if_pos (by omega), if_neg (by omega), if_pos c1]
  · rw [if_neg c1]
    by_cases c2 : i = j
    · subst c2
      rw [if_pos (by omega), if_pos rfl, if_pos (by omega), if_pos (by omega), Nat.sub_self]
      rfl
    · rw [if_neg (by omega)]
      by_cases c3 : j < i + 1 + w.length
      · rw [if_pos c3, if_pos (by omega), show j - i = (j - (i + 1)) + 1 by omega, List.getElem?_cons_succ]
      · rw [if_neg c3, if_neg c2, if_neg (by omega)]
def erasedP (l : List Int) (i n : Nat) : Prop := ∀ j, i ≤ j → j < i + n → l[j]? = some 255
theorem progL_spec : ∀ (b : List Int) (d : T_Device) (i : Nat), OkD d → d.down = false → rng b → i + b.length ≤ d.bytes.length → erasedP d.bytes i b.length →
    ((progL d i b).2 = 0 ∧ (progL d i b).1.bytes = spl d.bytes i b ∧ (progL d i b).1.down = false) ∨
    ((progL d i b).2 = 10 ∧ (progL d i b).1.down = true ∧ ∃ k, k < b.length ∧ (progL d i b).1.bytes = spl d.bytes i (b.take k ++ [iOr .u8 (b.getD k 0) d.torn]))
  | [], d, i, h, hd, _, _, _ => .inl ⟨rfl, (spl_nil _ _).symm, hd⟩
  | x :: b, d, i, h, hd, hr, hl, he => by
    have hx := hr x (by simp)
    simp only [List.length_cons] at hl he
    have h255 : d.bytes.getD i 0 = 255 := by
      rw [List.getD_eq_getElem?_getD, he i (Nat.le_refl _) (by omega)]
      rfl
    unfold progL
    rw [h255]
    by_cases hf : (stepF d).2 = true
    · rw [if_pos hf]
      right
      refine ⟨rfl, ?_, 0, by simp, ?_⟩
      · show (stepF d).1.down = true
        rw [stepF_down hd, hf]
      · show (stepF d).1.bytes.set i _ = _
        rw [stepF_bytes, and_ff (or_r hx h.torn), spl_set (by omega)]
        rfl
    · rw [if_neg hf, and_ff hx]
      have hf' : (stepF d).2 = false := by simpa using hf
      have hb1 : (wrB (stepF d).1 i x).bytes = d.bytes.set i x := by show (stepF d).1.bytes.set i x = _; rw [stepF_bytes]
      have ht1 : (wrB (stepF d).1 i x).torn = d.torn := stepF_torn d
      have ih := progL_spec b (wrB (stepF d).1 i x) (i + 1) (wrB_ok (stepF_ok h) i hx) (by show (stepF d).1.down = false; rw [stepF_down hd, hf']) (fun y hy => hr y (by simp [hy])) (by rw [hb1]; simp; omega) (fun j h1 h2 => by
        rw [hb1, List.getElem?_set, if_neg (by omega)]
        exact he j (by omega) (by omega))
      rw [hb1, ht1] at ih
      rcases ih with ⟨h1, h2, h3⟩ | ⟨h1, h2, k, hk, h3⟩
      · exact .inl ⟨h1, by rw [h2, spl_cons x (by omega)], h3⟩
      · refine .inr ⟨h1, h2, k + 1, by simp; omega, ?_⟩
        rw [h3, spl_cons x (by simp; omega)]
        rfl
theorem programF_spec {b : List Int} {d : T_Device} {i : Nat} (h : OkD d) (hd : d.down = false) (hr : rng b) (hl : i + b.length ≤ d.bytes.length) (he : erasedP d.bytes i b.length) :
    ((programF d (i : Int) b).2 = 0 ∧ (programF d (i : Int) b).1.bytes = spl d.bytes i b ∧ (programF d (i : Int) b).1.down = false) ∨
    ((programF d (i : Int) b).2 = 10 ∧ (programF d (i : Int) b).1.down = true ∧ ∃ k, k < b.length ∧ (programF d (i : Int) b).1.bytes = spl d.bytes i (b.take k ++ [iOr .u8 (b.getD k 0) d.torn])) := by
  unfold programF
  rw [if_neg (by simp [hd]), if_pos ⟨by omega, by omega, by omega, by omega⟩]
  exact progL_spec b d i h hd hr hl he
theorem chgF_pre {b : List Int} {x : T_Setting} {n : Nat} (hr : rng b) (h : chgF b = some (x, n)) (q : List Int) : chgF (b.take n ++ q) = some (x, n) := by
  match b, h with
  | k :: c :: r, h =>
    have hc := hr c (by simp)
    rw [chgF_cons] at h
    split at h
    · rename_i h1
      injection h with h; injection h with h0 h3; subst h0; subst h3
      show chgF (k :: c :: ([] ++ q)) = _
      rw [chgF_cons, if_pos h1]
    · rename_i h1
      split at h
      · cases h
      · rename_i h2
        injection h with h; injection h with h0 h3; subst h0; subst h3
        have e : (k :: c :: r).take (2 + c.toNat) ++ q = k :: c :: (r.take c.toNat ++ q) := by
          rw [Nat.add_comm]; rfl
        have hl : (r.take c.toNat).length = c.toNat := by rw [List.length_take]; omega
        rw [e, chgF_cons, if_neg h1, if_neg (by rw [List.length_append, hl]; omega), List.take_append_of_le_length (by omega), List.take_of_length_le (by omega)]
theorem take_split {b : List Int} (n m : Nat) : b.take (n + m) = b.take n ++ (b.drop n).take m := by rw [List.take_add]
theorem chgsF_pre : ∀ (c : Nat) {b : List Int} {l : List T_Setting} {n : Nat}, rng b → chgsF c b = some (l, n) → ∀ q, chgsF c (b.take n ++ q) = some (l, n)
  | 0, b, l, n, _, h, q => by injection h with h; injection h with h1 h2; subst h1; subst h2; rfl
  | c + 1, b, l, n, hr, h, q => by
    unfold chgsF at h
    split at h
    · cases h
    · rename_i x k hk
      split at h
      · cases h
      · rename_i l' m hm
        injection h with h; injection h with h1 h2
        subst h1; subst h2
        have hk2 := chgF_len hr hk
        have h3 := chgF_pre hr hk ((b.drop k).take m ++ q)
        have h4 := chgsF_pre c (hr.drop k) hm q
        unfold chgsF
        rw [take_split, List.append_assoc, h3]
        have e : (b.take k ++ ((b.drop k).take m ++ q)).drop k = (b.drop k).take m ++ q := by
          rw [List.drop_append_of_le_length (by rw [List.length_take]; omega), List.drop_eq_nil_of_le (by rw [List.length_take]; omega)]
          rfl
        simp only
        rw [e, h4]
theorem batchF_pre {b : List Int} {l : List T_Setting} {n : Nat} (hr : rng b) (h : batchF b = some (l, n)) (q : List Int) : batchF (b.take n ++ q) = some (l, n) := by
  match b, h with
  | c :: r, h =>
    have hr' : rng r := fun y hy => hr y (by simp [hy])
    rw [batchF_cons] at h
    split at h
    · cases h
    · rename_i h1
      split at h
      · cases h
      · rename_i l' m hm
        split at h
        · rename_i h0
          injection h with h; injection h with h2 h3
          subst h2; subst h3
          have hml := (List.getElem?_eq_some_iff.1 h0).1
          have e : (c :: r).take (m + 2) ++ q = c :: (r.take m ++ ((r.drop m).take 1 ++ q)) := by
            show c :: (r.take (m + 1) ++ q) = _
            rw [take_split, List.append_assoc]
          rw [e, batchF_cons, if_neg h1, chgsF_pre _ hr' hm]
          simp only
          have hl : (r.take m).length = m := by rw [List.length_take]; omega
          rw [if_pos]
          rw [List.getElem?_append_right (by omega), hl, Nat.sub_self]
          have : (r.drop m).take 1 = [r[m]] := by
            rw [← List.getElem_cons_drop (h := hml)]
            rfl
          rw [this]
          rw [List.getElem?_eq_getElem hml] at h0
          exact h0
        · cases h
theorem chgF_enc {x : T_Setting} (h : OkC x) (q : List Int) : chgF (encS x ++ q) = some (x, (encS x).length) := by
  obtain ⟨k, v, dl⟩ := x
  have hl := h.len
  simp only at hl
  unfold encS
  cases dl
  · have hw : IntKind.wrap .u8 (v.length : Int) = (v.length : Int) := wrap_u8 (by omega) (by omega)
    rw [if_neg (by simp)]
    show chgF (k :: IntKind.wrap .u8 (v.length : Int) :: (v ++ q)) = _
    rw [chgF_cons, hw, if_neg (by omega), if_neg (by rw [List.length_append]; omega)]
    have e : ((v.length : Int)).toNat = v.length := rfl
    rw [e, List.take_left]
    congr 2
    simp
    omega
  · have hv : v = [] := h.del rfl
    subst hv
    rfl
theorem chgsF_enc : ∀ {l : List T_Setting}, (∀ x ∈ l, OkC x) → ∀ q, chgsF l.length (l.flatMap encS ++ q) = some (l, (l.flatMap encS).length)
  | [], _, _ => rfl
  | x :: l, h, q => by
    have h1 := chgF_enc (h x (by simp)) (l.flatMap encS ++ q)
    have h2 := chgsF_enc (l := l) (fun y hy => h y (by simp [hy])) q
    show chgsF (l.length + 1) _ = _
    unfold chgsF
    rw [List.flatMap_cons, List.append_assoc, h1]
    simp only
    rw [List.drop_left, h2]
    simp
theorem batchF_enc {l : List T_Setting} (h1 : 1 ≤ l.length) (h2 : l.length ≤ 32) (h : ∀ x ∈ l, OkC x) (q : List Int) : batchF (encF l ++ q) = some (l, (encF l).length) := by
  have hw : IntKind.wrap .u8 (l.length : Int) = (l.length : Int) := wrap_u8 (by omega) (by omega)
  have e : encF l ++ q = (l.length : Int) :: (l.flatMap encS ++ (0 :: q)) := by
    unfold encF
    rw [hw]
    simp
  have e2 : ((l.length : Int)).toNat = l.length := rfl
  rw [e, batchF_cons, if_neg (by omega), e2, chgsF_enc h]
  simp only
  rw [if_pos (by rw [List.getElem?_append_right (Nat.le_refl _), Nat.sub_self]; rfl)]
  unfold encF
  simp
theorem batchF_ff (j : Nat) : batchF (List.replicate j 255) = none := by
  cases j with
  | zero => rfl
  | succ j =>
    rw [List.replicate_succ, batchF_cons, if_pos (.inr (by decide))]
theorem batchF_zero {b : List Int} {l : List T_Setting} {n : Nat} (hr : rng b) (h : batchF b = some (l, n)) : b[n - 1]? = some 0 := by
  have hn := batchF_len hr h
  match b, h with
  | c :: r, h =>
    rw [batchF_cons] at h
    split at h
    · cases h
    · split at h
      · cases h
      · rename_i l' m hm
        split at h
        · rename_i h0
          injection h with h; injection h with h2 h3
          subst h3
          exact h0
        · cases h
theorem batchF_part {l : List T_Setting} (h1 : 1 ≤ l.length) (h2 : l.length ≤ 32) (h : ∀ x ∈ l, OkC x) {k j : Nat} {t : Int} (ht : 0 ≤ t ∧ t ≤ 255) (hk : k < (encF l).length) (hne : k + 1 < (encF l).length ∨ t ≠ 0) :
    batchF ((encF l).take k ++ [iOr .u8 ((encF l).getD k 0) t] ++ List.replicate j 255) = none := by
  have her := enc_rng h2 h
  have hgr := her.get k
  have hyr := or_r hgr ht
  have htl : ((encF l).take k).length = k := by rw [List.length_take]; omega
  have hrng : rng ((encF l).take k ++ [iOr .u8 ((encF l).getD k 0) t] ++ List.replicate j 255) := ((her.take k).app (rng.cons hyr rng.nil)).app (rng.rep (by decide))
  cases hb : batchF ((encF l).take k ++ [iOr .u8 ((encF l).getD k 0) t] ++ List.replicate j 255) with
  | none => rfl
  | some p =>
    exfalso
    obtain ⟨l', n⟩ := p
    have hn := batchF_len hrng hb
    have hz := batchF_zero hrng hb
    have key : ∀ w : List Int, ((encF l).take k ++ [iOr .u8 ((encF l).getD k 0) t] ++ List.replicate j 255).take n = (encF l).take n → False := fun w hw => by
      have := batchF_pre hrng hb ((encF l).drop n)
      rw [hw, List.take_append_drop] at this
      have h3 := batchF_enc h1 h2 h []
      rw [List.append_nil, this] at h3
      injection h3 with h3; injection h3 with _ h3
      -- the whole batch would have been read
      have h4 : n ≤ k + 1 := by
        rcases Nat.lt_or_ge (n - 1) (k + 1) with hlt | hge
        · omega
        · exfalso
          rw [List.getElem?_append_right (by simp; omega), List.getElem?_replicate] at hz
          split at hz
          · injection hz with hz
            cases hz
          · cases hz
      have h5 : k + 1 = (encF l).length := by omega
      rcases hne with hne | hne
      · omega
      · have h6 : n - 1 = k := by omega
        rw [h6, List.append_assoc, List.getElem?_append_right (by omega), htl, Nat.sub_self] at hz
        injection hz with hz
        exact hne ((or_zero hgr ht).1 hz).2
    rcases Nat.lt_or_ge (n - 1) k with hlt | hge
    · refine key [] ?_
      rw [List.append_assoc, List.take_append_of_le_length (by omega), List.take_take, Nat.min_eq_left (by omega)]
    · rcases Nat.lt_or_ge k (n - 1) with hlt2 | hge2
      · rw [List.getElem?_append_right (by simp; omega), List.getElem?_replicate] at hz
        split at hz
        · injection hz with hz
          cases hz
        · cases hz
      · have h6 : n - 1 = k := by omega
        rw [h6, List.append_assoc, List.getElem?_append_right (by omega), htl, Nat.sub_self] at hz
        injection hz with hz
        have hoz := (or_zero hgr ht).1 hz
        refine key [] ?_
        have h7 : n = k + 1 := by omega
        have e1 : (encF l)[k]? = some 0 := by
          have := hoz.1
          rw [List.getD_eq_getElem?_getD, List.getElem?_eq_getElem hk] at this
          rw [List.getElem?_eq_getElem hk]
          exact congrArg some this
        have e2 : (encF l)[k] = 0 := by
          rw [List.getElem?_eq_getElem hk] at e1
          injection e1
        rw [h7, take_succ_get hk, e2, hz, List.take_append_of_le_length (by simp; omega), List.take_of_length_le (by simp; omega)]
theorem readK_pre : ∀ (f : Nat) {b : List Int} (K : List T_Setting) (t : Nat), b.length ≤ f → rng b → ∀ q, rng q → readK (b.take ((readK b K t).2 - t) ++ q) K t = readK q (readK b K t).1 (readK b K t).2 := by
  intro f
  induction f with
  | zero =>
    intro b K t hf hr q hq
    have : b = [] := List.eq_nil_of_length_eq_zero (by omega)
    subst this
    have e : readK [] K t = (K, t) := rfl
    rw [e]
    simp
  | succ f ih =>
    intro b K t hf hr q hq
    rw [readK_eq hr]
    cases hb : batchF b with
    | none => simp
    | some p =>
      obtain ⟨l, n⟩ := p
      have hn := batchF_len hr hb
      simp only
      split
      · simp
      · rename_i h32
        have ih := ih (allK K l) (t + n) (b := b.drop n) (by simp; omega) (hr.drop n) q hq
        have hge : t + n ≤ (readK (b.drop n) (allK K l) (t + n)).2 := by
          have : ∀ (f : Nat) (b : List Int) (K : List T_Setting) (t : Nat), t ≤ (readG f b K t).2 := by
            intro f
            induction f with
            | zero => intro b K t; exact Nat.le_refl _
            | succ f ih =>
              intro b K t
              unfold readG
              cases batchF b with
              | none => exact Nat.le_refl _
              | some p =>
                obtain ⟨l, n⟩ := p
                simp only
                split
                · exact Nat.le_refl _
                · have := ih (b.drop n) (allK K l) (t + n)
                  omega
          exact this _ _ _ _
        obtain ⟨m, hm⟩ : ∃ m, (readK (b.drop n) (allK K l) (t + n)).2 = t + n + m := ⟨(readK (b.drop n) (allK K l) (t + n)).2 - (t + n), by omega⟩
        rw [hm] at ih ⊢
        have e1 : t + n + m - t = n + m := by omega
        have e2 : t + n + m - (t + n) = m := by omega
        rw [e2] at ih
        rw [e1, take_split, List.append_assoc]
        have hr2 : rng (b.take n ++ ((b.drop n).take m ++ q)) := (hr.take n).app (((hr.drop n).take m).app hq)
        rw [readK_eq hr2, batchF_pre hr hb]
        simp only
        rw [if_neg h32]
        have e3 : (b.take n ++ ((b.drop n).take m ++ q)).drop n = (b.drop n).take m ++ q := by
          rw [List.drop_append_of_le_length (by rw [List.length_take]; omega), List.drop_eq_nil_of_le (by rw [List.length_take]; omega)]
          rfl
        rw [e3]
        exact ih
end Go.Proofs.Ythdpagcklakahaa
end
section
namespace Go.Proofs.Ythdpagcklakahaa
open Go
set_option linter.unusedSimpArgs false
set_option linter.unusedVariables false
def selF (b0 b1 : List Int) : OS := pick (pick os0 0 b0) 1 b1
theorem openF_sel (d : T_Device) (f : Nat) : openF d f = selF (sect d f) (sect d (f + 1)) := rfl
theorem secF_gen {b : List Int} {g : Int} {K : List T_Setting} {t : Nat} (h : secF b = some (g, K, t)) : 1 ≤ g ∧ g ≤ 2147483648 ∧ g = genF b ∧ b.getD 4 0 = 0 ∧ readK (b.drop 5) [] 5 = (K, t) := by
  unfold secF at h
  split at h
  · cases h
  · rename_i hn
    simp only [not_or, Classical.not_not] at hn
    injection h with h; injection h with h1 h2
    exact ⟨by omega, by omega, h1.symm, by omega, h2⟩
def osOf (i : Int) (b : List Int) (g : Int) (K : List T_Setting) (t : Nat) : OS := ⟨i, g, K, (t : Int), blankF (b.drop t)⟩
theorem sel0 {b0 b1 : List Int} {g : Int} {K : List T_Setting} {t : Nat} (h0 : secF b0 = some (g, K, t)) (h1 : ∀ p, secF b1 = some p → p.1 ≤ g) : selF b0 b1 = osOf 0 b0 g K t := by
  have hg := (secF_gen h0).1
  have e : pick os0 0 b0 = osOf 0 b0 g K t := by
    unfold pick
    rw [h0]
    exact if_pos (show g > (0 : Int) by omega)
  unfold selF
  rw [e]
  unfold pick
  cases hb : secF b1 with
  | none => rfl
  | some p =>
    obtain ⟨g', K', t'⟩ := p
    have := h1 _ hb
    exact if_neg (show ¬ g' > g by simp only at this; omega)
theorem sel1 {b0 b1 : List Int} {g : Int} {K : List T_Setting} {t : Nat} (h1 : secF b1 = some (g, K, t)) (h0 : ∀ p, secF b0 = some p → p.1 < g) : selF b0 b1 = osOf 1 b1 g K t := by
  have hg := (secF_gen h1).1
  have e : (pick os0 0 b0).gen < g := by
    unfold pick
    cases hb : secF b0 with
    | none => show (0 : Int) < g; omega
    | some p =>
      obtain ⟨g', K', t'⟩ := p
      have := h0 _ hb
      simp only at this ⊢
      split
      · exact this
      · show (0 : Int) < g; omega
  unfold selF
  rw [show pick (pick os0 0 b0) 1 b1 = if g > (pick os0 0 b0).gen then osOf 1 b1 g K t else pick os0 0 b0 by
    conv => lhs; unfold pick
    rw [h1]
    rfl]
  exact if_pos e
theorem sel_none {b0 b1 : List Int} (h0 : secF b0 = none) (h1 : secF b1 = none) : selF b0 b1 = os0 := by
  unfold selF pick
  rw [h0, h1]
theorem sel_cases (b0 b1 : List Int) : (secF b0 = none ∧ secF b1 = none ∧ selF b0 b1 = os0) ∨
    (∃ g K t, secF b0 = some (g, K, t) ∧ (∀ p, secF b1 = some p → p.1 ≤ g) ∧ selF b0 b1 = osOf 0 b0 g K t) ∨
    ∃ g K t, secF b1 = some (g, K, t) ∧ (∀ p, secF b0 = some p → p.1 < g) ∧ selF b0 b1 = osOf 1 b1 g K t := by
  cases h0 : secF b0 with
  | none =>
    cases h1 : secF b1 with
    | none => exact .inl ⟨rfl, rfl, sel_none h0 h1⟩
    | some p =>
      obtain ⟨g, K, t⟩ := p
      exact .inr (.inr ⟨g, K, t, rfl, fun p hp => (by cases hp), sel1 h1 fun p hp => by rw [h0] at hp; cases hp⟩)
  | some p0 =>
    obtain ⟨g0, K0, t0⟩ := p0
    cases h1 : secF b1 with
    | none => exact .inr (.inl ⟨g0, K0, t0, rfl, fun p hp => (by cases hp), sel0 h0 fun p hp => by rw [h1] at hp; cases hp⟩)
    | some p =>
      obtain ⟨g, K, t⟩ := p
      by_cases hg : g > g0
      · refine .inr (.inr ⟨g, K, t, rfl, fun p hp => ?_, sel1 h1 fun p hp => ?_⟩)
        · injection hp with hp; subst hp; exact hg
        · rw [h0] at hp; injection hp with hp; subst hp; exact hg
      · refine .inr (.inl ⟨g0, K0, t0, rfl, fun p hp => ?_, sel0 h0 fun p hp => ?_⟩)
        · injection hp with hp; subst hp; show g ≤ g0; omega
        · rw [h1] at hp; injection hp with hp; subst hp; show g ≤ g0; omega
theorem readK_le {b : List Int} (hr : rng b) : 5 ≤ (readK (b.drop 5) [] 5).2 ∧ (readK (b.drop 5) [] 5).2 ≤ 5 + (b.drop 5).length := (readK_ok 5 (hr.drop 5) OkK.nil).2
theorem selF_ok {b0 b1 : List Int} (h0 : rng b0) (h1 : rng b1) (hl0 : 64 ≤ b0.length ∧ b0.length ≤ 1024) (hl1 : 64 ≤ b1.length ∧ b1.length ≤ 1024) : OkO (selF b0 b1) := by
  rcases sel_cases b0 b1 with ⟨_, _, e⟩ | ⟨g, K, t, h, _, e⟩ | ⟨g, K, t, h, _, e⟩
  · rw [e]
    exact ⟨OkK.nil, by decide, by decide, by decide⟩
  · obtain ⟨g1, g2, _, _, g5⟩ := secF_gen h
    have hk := readK_ok 5 (h0.drop 5) OkK.nil
    rw [g5] at hk
    simp only [List.length_drop] at hk
    rw [e]
    refine ⟨hk.1, by show -1 ≤ (0 : Int) ∧ (0 : Int) ≤ 1; decide, ?_, ?_⟩
    · show 0 ≤ (t : Int) ∧ (t : Int) ≤ 16384
      omega
    · show 0 ≤ g ∧ g ≤ 2147483648
      omega
  · obtain ⟨g1, g2, _, _, g5⟩ := secF_gen h
    have hk := readK_ok 5 (h1.drop 5) OkK.nil
    rw [g5] at hk
    simp only [List.length_drop] at hk
    rw [e]
    refine ⟨hk.1, by show -1 ≤ (1 : Int) ∧ (1 : Int) ≤ 1; decide, ?_, ?_⟩
    · show 0 ≤ (t : Int) ∧ (t : Int) ≤ 16384
      omega
    · show 0 ≤ g ∧ g ≤ 2147483648
      omega
theorem getD_spl {l : List Int} {i : Nat} {w : List Int} (h : i + w.length ≤ l.length) {j : Nat} (hj : j < i) : (spl l i w).getD j 0 = l.getD j 0 := by
  rw [List.getD_eq_getElem?_getD, List.getD_eq_getElem?_getD, spl_get h, if_pos hj]
theorem gen_spl {l : List Int} {i : Nat} {w : List Int} (h : i + w.length ≤ l.length) (hi : 4 ≤ i) : genF (spl l i w) = genF l := by
  unfold genF
  rw [getD_spl h (by omega), getD_spl h (by omega), getD_spl h (by omega), getD_spl h (by omega)]
theorem drop_spl {l : List Int} {i : Nat} {w : List Int} (h : i + w.length ≤ l.length) (hi : 5 ≤ i) : (spl l i w).drop 5 = (l.drop 5).take (i - 5) ++ (w ++ l.drop (i + w.length)) := by
  unfold spl
  rw [List.append_assoc, List.drop_append_of_le_length (by rw [List.length_take]; omega), List.drop_take]
theorem drop_spl' {l : List Int} {i : Nat} {w : List Int} (h : i + w.length ≤ l.length) : (spl l i w).drop i = w ++ l.drop (i + w.length) := by
  unfold spl
  rw [List.append_assoc, List.drop_append_of_le_length (by rw [List.length_take]; omega), List.drop_eq_nil_of_le (by rw [List.length_take]; omega)]
  rfl
theorem drop_spl2 {l : List Int} {i : Nat} {w : List Int} (h : i + w.length ≤ l.length) : (spl l i w).drop (i + w.length) = l.drop (i + w.length) := by
  have := drop_spl' h
  rw [← List.drop_drop, this, List.drop_left]
theorem blank_drop {b : List Int} {t : Nat} (h : blankF (b.drop t) = true) (k : Nat) : b.drop (t + k) = List.replicate (b.length - (t + k)) 255 := by
  have := blankF_iff.1 h
  rw [← List.drop_drop, this, List.drop_replicate]
  congr 1
  simp
  omega
theorem secF_spl {b : List Int} {g : Int} {K : List T_Setting} {t : Nat} (hr : rng b) (h : secF b = some (g, K, t)) {w : List Int} (hw : rng w) (hl : t + w.length ≤ b.length) :
    secF (spl b t w) = some (g, readK (w ++ b.drop (t + w.length)) K t) := by
  obtain ⟨g1, g2, g3, g4, g5⟩ := secF_gen h
  have ht := readK_le hr
  rw [g5] at ht
  simp only at ht
  unfold secF
  rw [gen_spl hl (by omega), ← g3, getD_spl hl (by omega), g4, if_neg (by simp only [not_or]; exact ⟨by simp, by omega, by omega⟩), drop_spl hl (by omega)]
  have := readK_pre (b.drop 5).length [] 5 (Nat.le_refl _) (hr.drop 5) (w ++ b.drop (t + w.length)) (hw.app (hr.drop _))
  rw [g5] at this
  rw [this]
theorem secF_full {b : List Int} {g : Int} {K : List T_Setting} {t : Nat} (hr : rng b) (h : secF b = some (g, K, t)) (hbl : blankF (b.drop t) = true) {l : List T_Setting} (h1 : 1 ≤ l.length) (h2 : l.length ≤ 32) (hc : ∀ x ∈ l, OkC x) (hn : (allK K l).length ≤ 32) (hl : t + (encF l).length ≤ b.length) :
    secF (spl b t (encF l)) = some (g, allK K l, t + (encF l).length) := by
  have her := enc_rng h2 hc
  rw [secF_spl hr h her hl, blank_drop hbl, readK_eq (her.app (rng.rep (by decide))), batchF_enc h1 h2 hc]
  simp only
  rw [if_neg (by omega), List.drop_left, readK_eq (rng.rep (by decide)), batchF_ff]
theorem secF_part {b : List Int} {g : Int} {K : List T_Setting} {t : Nat} (hr : rng b) (h : secF b = some (g, K, t)) (hbl : blankF (b.drop t) = true) {l : List T_Setting} (h1 : 1 ≤ l.length) (h2 : l.length ≤ 32) (hc : ∀ x ∈ l, OkC x) (hn : (allK K l).length ≤ 32) (hl : t + (encF l).length ≤ b.length)
    {k : Nat} {tn : Int} (htn : 0 ≤ tn ∧ tn ≤ 255) (hk : k < (encF l).length) :
    secF (spl b t ((encF l).take k ++ [iOr .u8 ((encF l).getD k 0) tn])) = some (g, K, t) ∨ secF (spl b t ((encF l).take k ++ [iOr .u8 ((encF l).getD k 0) tn])) = some (g, allK K l, t + (encF l).length) := by
  have her := enc_rng h2 hc
  have hyr := or_r (her.get k) htn
  have hwr : rng ((encF l).take k ++ [iOr .u8 ((encF l).getD k 0) tn]) := (her.take k).app (rng.cons hyr rng.nil)
  have hwl : ((encF l).take k ++ [iOr .u8 ((encF l).getD k 0) tn]).length = k + 1 := by simp; omega
  by_cases hne : k + 1 < (encF l).length ∨ tn ≠ 0
  · left
    rw [secF_spl hr h hwr (by omega), blank_drop hbl, readK_eq (hwr.app (rng.rep (by decide))), batchF_part h1 h2 hc htn hk hne]
  · right
    have h0 : tn = 0 := by omega
    have hk1 : k + 1 = (encF l).length := by omega
    have : (encF l).take k ++ [iOr .u8 ((encF l).getD k 0) tn] = encF l := by
      rw [h0, or_z (her.get k), List.getD_eq_getElem?_getD, List.getElem?_eq_getElem hk, Option.getD_some, ← take_succ_get hk, hk1, List.take_length]
    rw [this]
    exact secF_full hr h hbl h1 h2 hc hn hl
theorem sect_get {d : T_Device} (k j : Nat) : (sect d k)[j]? = if j < d.size.toNat then d.bytes[k * d.size.toNat + j]? else none := by
  unfold sect
  rw [List.getElem?_take]
  split
  · rw [List.getElem?_drop]
  · rfl
theorem sect_spl {d e : T_Device} {k k0 t : Nat} {w : List Int} (hz : e.size = d.size) (hb : e.bytes = spl d.bytes (k0 * d.size.toNat + t) w) (hw : t + w.length ≤ d.size.toNat) (hl : k0 * d.size.toNat + d.size.toNat ≤ d.bytes.length) (hk : k * d.size.toNat + d.size.toNat ≤ d.bytes.length) :
    sect e k = if k = k0 then spl (sect d k) t w else sect d k := by
  have hsl : (sect d k).length = d.size.toNat := by simp only [sect, List.length_take, List.length_drop]; omega
  apply List.ext_getElem?
  intro j
  rw [sect_get, hz, hb]
  by_cases hj : j < d.size.toNat
  · rw [if_pos hj, spl_get (by omega)]
    by_cases hkk : k = k0
    · subst hkk
      rw [if_pos rfl, spl_get (by omega), sect_get, if_pos hj]
      by_cases c1 : j < t
      · rw [if_pos (by omega), if_pos c1]
      · rw [if_neg (by omega), if_neg c1]
        by_cases c2 : j < t + w.length
        · rw [if_pos (by omega), if_pos c2]
          congr 1
          omega
        · rw [if_neg (by omega), if_neg c2]
    · rw [if_neg hkk, sect_get, if_pos hj]
      rcases Nat.lt_or_gt_of_ne hkk with hlt | hgt
      · have : (k + 1) * d.size.toNat ≤ k0 * d.size.toNat := Nat.mul_le_mul_right _ hlt
        rw [Nat.add_mul] at this
        rw [if_pos (by omega)]
      · have : (k0 + 1) * d.size.toNat ≤ k * d.size.toNat := Nat.mul_le_mul_right _ hgt
        rw [Nat.add_mul] at this
        rw [if_neg (by omega), if_neg (by omega)]
  · rw [if_neg hj]
    split
    · rw [List.getElem?_eq_none (by rw [spl_len (by omega)]; omega)]
    · rw [List.getElem?_eq_none (by omega)]
theorem erased_sect {d : T_Device} {k t n : Nat} (hl : k * d.size.toNat + d.size.toNat ≤ d.bytes.length) (hb : blankF ((sect d k).drop t) = true) (hn : t + n ≤ d.size.toNat) : erasedP d.bytes (k * d.size.toNat + t) n := by
  intro j h1 h2
  have hsl : (sect d k).length = d.size.toNat := by simp only [sect, List.length_take, List.length_drop]; omega
  have h3 := blank_drop hb 0
  have h4 : (sect d k)[j - k * d.size.toNat]? = some 255 := by
    have : (sect d k)[j - k * d.size.toNat]? = ((sect d k).drop (t + 0))[j - k * d.size.toNat - t]? := by
      rw [List.getElem?_drop]
      congr 1
      omega
    rw [this, h3, List.getElem?_replicate, if_pos (by omega)]
  rw [sect_get, if_pos (by omega)] at h4
  rw [← h4]
  congr 1
  omega
end Go.Proofs.Ythdpagcklakahaa
end
