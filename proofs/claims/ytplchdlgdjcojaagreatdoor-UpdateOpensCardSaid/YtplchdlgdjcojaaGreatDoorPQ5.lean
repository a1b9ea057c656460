/-
  Texts of this seat, put together: rules, walks, plain laws.
  Conditions: none.
-/
import Derived.Test.YtplchdlgdjcojaaGreatDoorPQ4
noncomputable section
namespace Go.Proofs.YtplchdlgdjcojaaGreatDoor
open Go IntKind
set_option linter.unusedVariables false
set_option linter.unusedSimpArgs false
set_option linter.unusedSectionVars false
set_option maxHeartbeats 4000000
set_option maxRecDepth 10000
theorem zHp [AP] {AB EI sum A1 c1 A2 c2 A3 c3 r} (h:jR AB EI sum=some r):
    BA Tryz.prog 182 [.agg (zF AB A1 c1 A2 c2).toArray, .agg (yO EI A3 c3).toArray, .int .u32 sum] [.ro (AV AQ A1 c1 AB.Slots.e0.AU.Data), .ro (AV AQ A2 c2 AB.Slots.e1.AU.Data), .ro (AV AQ A3 c3 EI.Data)] (fun v F=>∃ A4 c4 A5 c5,v= .agg (zF r A4 c4 A5 c5).toArray∧F= [.ro (AV AQ A4 c4 r.Slots.e0.AU.Data), .ro (AV AQ A5 c5 r.Slots.e1.AU.Data)]):=by
 refine BA.intro Tryz.func182 O O O fun w R=>?_;refine .seq<|.region<|.box O O fun g1=>.box O O fun g2=>.alloc O O fun g3=>.b [2,3,4,6] O<|.seq<|.seq<|.region<|.lb 0 2 O<|.bd h fun r1 hr1 h=>.cv [3,4] (oE hr1) Em O<|.b [2,3,4,6,9] O<|.cb h O (fun h=>?_) (fun h=>?_)
 ·refine .seq<|.region<|.lb 0 2 O<|.bd h fun r2 hr2 h=>.ct 8 [3,4] [] 0 (sA hr2) bK O fun A4 c4 A5 c5=>.sb 0 4 O<|.bf [2,3,4,6] [0,0,0,0,0] 2 O O<|.bd h fun r3 hr3 h=>.bd h fun x1 hx1 h=>.bd h fun z1 hz1 h=>.BI (iN [0,12,20,28] (.alt (iN [7,8] (iN [19,24] (iN [35] (iN [39] .nil)))) (iN [19,24] (iN [7,8] (iN [35] (iN [39] .nil)))))) _ mixed (by kernel_rfl) (zl [] 1 O)<|.DX (Y:=?IZ) 0 (fun (e:Option Addr × Nat)=>[3,6, .s 13 (.int .i64 r2.Running), .s 14 (.int .i64 (wrap .i64 (1 - r2.Running))), .s 16 (.agg (yO r3 e.1 e.2).toArray), .s 17 (.int .u32 sum), .s 18 (.agg #[.string r3.Name, .int .i64 r3.Version.BZ, .int .i64 r3.Version.CB, .int .i64 r3.Version.CJ, .slice e.1 r3.Data.length e.2, .int .u32 sum]), .s 19 (.pointer (some ⟨g1,1,none⟩))]) (fun e=>[.ro (AV AQ e.1 e.2 r3.Data)]) O O (fun DL=>?EQ) ?ER
  case EQ=>
   refine .yn 1 O<|.yl 0 3 O<|.yn 2 O<|.FY ?_ ?_
   ·refine .BV<|.lb 14 0 O<|.xk (zl [] 1 O)<|.yn 1 O<|.BV<|.cr 7 [5] [] 0 (oK hr3) yg O fun A6 c6=>.xk (zl [] 2 O)<|.yn 1 O ?_;refine DL _ _ (A6,c6) ?_ ?_
    ·exact ⟨O,O,O,O,O,O,O,O,trivial⟩
    exact fun _ w=>w
   refine .BV<|.cr 7 [5] [] 0 (oK hr3) yg O fun A6 c6=>.xk (zl [] 2 O)<|.yn 1 O<|.BV<|.lb 14 1 O<|.xk (zl [] 2 O)<|.yn 1 O ?_;refine DL _ _ (A6,c6) ?_ ?_
   ·exact ⟨O,O,O,O,O,O,O,O,trivial⟩
   exact fun _ w=>w
  case ER=>
   rintro ⟨A6,c6⟩;refine .nm 7 O<|.BV<|.TG (sz:=6) hx1 O O O O O O O O<|.xk (zl [] 2 O)<|.BV<|.dm (ls:=vO) 0 [.string r2.Name] [.int .i64 r2.Active, .int .i64 r2.Running, .bool r2.BK] [(r2.Slots.e0,((A4,c4),())),(r2.Slots.e1,((A5,c5),()))] (fun ex=>((A6,c6),())) hx1 (tH.MI hz1) O O (.s .z) O O O ⟨EO,(zm 2 O),trivial⟩ O O O O (fun _=>O) (fun _=>⟨EO,trivial⟩) fun yc LZ=>?_;obtain ⟨FC,JQ,rfl⟩:=iw LZ;obtain ⟨⟨A7,c7⟩,_⟩:=FC;obtain ⟨⟨A8,c8⟩,_⟩:=JQ;refine .nm 9 O<|.xk (zl [] 4 O)<|.CQ<|.AO<|.pf [3,6] [0,0,0,3] 5 O O<|.seq<|.region<|.lb 0 0 O<|.bd h fun r4 hr4 h=>.ct 6 [1,2] [] 0 (kB hr4) En O fun A9 c9 EC c10=>.sb 0 5 O<|.bf [6] [0,0,0] 3 O O ?_;cases h;exact .rt O Tryz.results182 (.cell O (.head _) O .nil) O ⟨A9,c9,EC,c10,O,O⟩ (zk 2 3 [1,2] [] 0 O)
 refine .sk<|.pf [3,6] [0,1,1,1] 2 O O<|.seq<|.region<|.lb 0 1 O<|.bd h fun r5 JH h=>.ct 6 [2,3] [] 0 (kB JH) En O fun EW c11 FX c12=>.sb 0 2 O<|.bf [6] [0,0,0] 3 O O ?_;cases h;exact .rt O Tryz.results182 (.cell O (.head _) O .nil) O ⟨EW,c11,FX,c12,O,O⟩ (zk 2 3 [1,2] [] 0 O)
theorem zSH:BX Tryz.prog 101:=en Tryz.func101 (by kernel_rfl)
def tC [AP] (DJ:yS) (II:zB):Option (yS × zB × Int):=
 bnd (uF DJ) fun r1=>bnd (zP r1.1 4) fun r2=>bnd (tX r2.1 3) fun r3=>bnd (app 1 ([wrap .u8 r2.2]) r3.2) fun l1=>bnd (zP r3.1 8) fun r4=>bif (r4.2==0) then (bnd (jX II) fun r5=>some (r4.1,r5.1,r5.2)) else (bif (r4.2==1) then (bnd (zP r4.1 (wrap .i64 ((l1.length:Int)+1))) fun r6=>bnd (mL II (⟨II.Name,r1.2,l1⟩:zN) r6.2) fun r7=>some (r6.1,r7.1,r7.2)) else (bnd ((bif (r4.2==2) then (some (r4.2==2)) else (some (r4.2==3)):Option Bool)) fun o1=>bif o1 then (bnd (mL II (⟨II.Name,r1.2,l1⟩:zN) (l1.length:Int)) fun r8=>bif (r8.2 != 0) then (some (r4.1,r8.1,r8.2)) else (bnd (dB (⟨II.Name,r1.2,l1⟩:zN)) fun r9=>bnd (kM r8.1 r9) fun r10=>some (r4.1,r10.1,r10.2))) else (bif (r4.2==4) then (bnd (lW II) fun r11=>some (r4.1,r11.1,r11.2)) else (bif (r4.2==5) then (bnd (mO II) fun r12=>some (r4.1,r12.1,r12.2)) else (bif (r4.2==6) then (bnd (qW r4.1 II.Name) fun r13=>bnd (zP r13.1 300) fun QN=>bnd (jR II r13.2 (wrap .u32 QN.2)) fun QO=>some (QN.1,QO,0)) else (bnd (rO II) fun r16=>some (r4.1,r16,0)))))))
theorem zAB [AP] {DJ II A1 c1 A2 c2 A3 c3 AZ r} (h:tC DJ II=some r):
    BA Tryz.prog 101 [.pointer (some ⟨AZ,0,none⟩), .agg (zF II A2 c2 A3 c3).toArray] [.ro (AV AQ A1 c1 DJ.L), .ro (AV AQ A2 c2 II.Slots.e0.AU.Data), .ro (AV AQ A3 c3 II.Slots.e1.AU.Data), .res (Box AZ 127 [.slice A1 DJ.L.length c1, .int .i64 DJ.At])] (fun v F=>∃ A4 c4 A5 c5 A6 c6,v= .tuple #[.agg (zF r.2.1 A5 c5 A6 c6).toArray, .int .i64 r.2.2]∧F= [.ro (AV AQ A4 c4 r.1.L), .ro (AV AQ A5 c5 r.2.1.Slots.e0.AU.Data), .ro (AV AQ A6 c6 r.2.1.Slots.e1.AU.Data), .res (Box AZ 127 [.slice A4 r.1.L.length c4, .int .i64 r.1.At])]):=by
 refine BA.intro Tryz.func101 O O O fun w R=>?_;refine .seq<|.region<|.box O O fun g1=>.alloc O O fun g2=>.b [0,3,4] O<|.seq<|.bd h fun r1 hr1 h=>.bd h fun r2 hr2 h=>.bd h fun r3 hr3 h=>.bd h fun l1 hl1 h=>.BI (iN [0,4,8,16,32] (.alt (iN [15] (.alt (iN [23,24] (.alt (iN [31] (.alt (iN [39] (.alt (iN [43,44] (iN [51] (iN [55] .nil))) (iN [51] (iN [43,44] (iN [55] .nil))))) (iN [51] (iN [39] (iN [43,44] (iN [55] .nil)))))) (.alt (iN [39] (.alt (iN [31] (.alt (iN [43,44] (iN [51] (iN [55] .nil))) (iN [51] (iN [43,44] (iN [55] .nil))))) (iN [51] (iN [31] (iN [43,44] (iN [55] .nil)))))) (iN [51] (.alt (iN [31] (iN [39] (iN [43,44] (iN [55] .nil)))) (iN [39] (iN [31] (iN [43,44] (iN [55] .nil))))))))) (iN [51] (iN [23,24] (.alt (iN [31] (iN [39] (iN [43,44] (iN [55] .nil)))) (iN [39] (iN [31] (iN [43,44] (iN [55] .nil))))))))) (iN [51] (iN [15] (iN [23,24] (.alt (iN [31] (iN [39] (iN [43,44] (iN [55] .nil)))) (iN [39] (iN [31] (iN [43,44] (iN [55] .nil)))))))))) _ mixed (by kernel_rfl) (zl [0,0,0,0,0] 1 O)<|.DX (Y:=?IZ) 6 (fun (e:Option Addr × Nat × Nat × Option Addr × Nat × Option Addr × Nat × Option Addr × Nat × Option Addr × Nat)=>[0,3,4, .s 6 (.pointer (some ⟨e.2.2.1,0,none⟩)), .s 10 (.string II.Name), .s 12 (.agg #[.int .i64 r1.2.BZ, .int .i64 r1.2.CB, .int .i64 r1.2.CJ]), .s 14 (.int .i64 r2.2), .s 19 (.slice e.1 l1.length e.2.1), .s 20 (.agg #[.string II.Name, .int .i64 r1.2.BZ, .int .i64 r1.2.CB, .int .i64 r1.2.CJ, .slice e.1 l1.length e.2.1])]) (fun e=>[.res (Box e.2.2.1 58 [.string (⟨#[]⟩), .int .i64 0, .int .i64 0, .int .i64 0, .slice none 0 0]), .res (zI AQ 5 e.1 e.2.1 l1), .ro (AV AQ e.2.2.2.1 e.2.2.2.2.1 r3.2), .ro (AV AQ e.2.2.2.2.2.1 e.2.2.2.2.2.2.1 r3.1.L), .res (Box AZ 127 [.slice e.2.2.2.2.2.1 r3.1.L.length e.2.2.2.2.2.2.1, .int .i64 r3.1.At]), .ro (AV AQ e.2.2.2.2.2.2.2.1 e.2.2.2.2.2.2.2.2.1 r2.1.L), .ro (AV AQ e.2.2.2.2.2.2.2.2.2.1 e.2.2.2.2.2.2.2.2.2.2 r1.1.L),0,1,2,3,4]) O O (fun DL=>?EQ) ?ER
 case EQ=>
  refine .DX (Y:=?KZ) 6 (fun (e:Nat × Option Addr × Nat × Nat × Option Addr × Nat × Option Addr × Nat × Option Addr × Nat)=>[0,3,4, .s 6 (.pointer (some ⟨e.2.2.2.1,0,none⟩)), .s 10 (.string II.Name), .s 12 (.agg #[.int .i64 r1.2.BZ, .int .i64 r1.2.CB, .int .i64 r1.2.CJ]), .s 14 (.int .i64 r2.2), .s 16 (.slice (some ⟨e.1,0,none⟩) 1 1), .s 18 (.slice e.2.1 r3.2.length e.2.2.1)]) (fun e=>[.res (Box e.2.2.2.1 58 [.string (⟨#[]⟩), .int .i64 0, .int .i64 0, .int .i64 0, .slice none 0 0]), .ro (AV AQ e.2.2.2.2.1 e.2.2.2.2.2.1 r3.1.L), .res (Box AZ 127 [.slice e.2.2.2.2.1 r3.1.L.length e.2.2.2.2.2.1, .int .i64 r3.1.At]), .res (zI AQ 5 e.2.1 e.2.2.1 r3.2), .res (Box e.1 5 [.int .u8 (wrap .u8 r2.2)]), .ro (AV AQ e.2.2.2.2.2.2.1 e.2.2.2.2.2.2.2.1 r2.1.L), .ro (AV AQ e.2.2.2.2.2.2.2.2.1 e.2.2.2.2.2.2.2.2.2 r1.1.L),0,1,2,3,4]) O O (fun EU=>?GL) ?GN
  case GL=>
   refine .DX (Y:=?RV) 6 (fun (e:Nat × Option Addr × Nat × Option Addr × Nat × Option Addr × Nat × Option Addr × Nat)=>[0,3,4, .s 10 (.string II.Name), .s 12 (.agg #[.int .i64 r1.2.BZ, .int .i64 r1.2.CB, .int .i64 r1.2.CJ]), .s 14 (.int .i64 r2.2), .s 16 (.slice (some ⟨e.1,0,none⟩) 1 1), .s 18 (.slice e.2.1 r3.2.length e.2.2.1)]) (fun e=>[.ro (AV AQ e.2.2.2.1 e.2.2.2.2.1 r3.1.L), .res (Box AZ 127 [.slice e.2.2.2.1 r3.1.L.length e.2.2.2.2.1, .int .i64 r3.1.At]), .res (zI AQ 5 e.2.1 e.2.2.1 r3.2), .res (Box e.1 5 [.int .u8 (wrap .u8 r2.2)]), .ro (AV AQ e.2.2.2.2.2.1 e.2.2.2.2.2.2.1 r2.1.L), .ro (AV AQ e.2.2.2.2.2.2.2.1 e.2.2.2.2.2.2.2.2 r1.1.L),0,1,2,3,4]) O O (fun JI=>?LJ) ?LK
   case LJ=>
    refine .DX (Y:=?jh) 6 (fun (e:Nat × Nat × Option Addr × Nat × Option Addr × Nat)=>[0,3,4, .s 6 (.pointer (some ⟨e.2.1,0,none⟩)), .s 10 (.string II.Name), .s 12 (.agg #[.int .i64 r1.2.BZ, .int .i64 r1.2.CB, .int .i64 r1.2.CJ]), .s 14 (.int .i64 r2.2), .s 16 (.slice (some ⟨e.1,0,none⟩) 1 1), .s 17 (.pointer (some ⟨AZ,0,none⟩))]) (fun e=>[.res (Box e.2.1 58 [.string (⟨#[]⟩), .int .i64 0, .int .i64 0, .int .i64 0, .slice none 0 0]), .res (Box e.1 5 [.int .u8 (wrap .u8 r2.2)]), .ro (AV AQ e.2.2.1 e.2.2.2.1 r2.1.L), .res (Box AZ 127 [.slice e.2.2.1 r2.1.L.length e.2.2.2.1, .int .i64 r2.1.At]), .ro (AV AQ e.2.2.2.2.1 e.2.2.2.2.2 r1.1.L),0,1,2,3,4]) O O (fun ND=>?RX) ?RY
    case RX=>
     refine .DX (Y:=?H8) 6 (fun (e:Option Addr × Nat × Nat × Option Addr × Nat × Option Addr × Nat × Option Addr × Nat)=>[0,3,4, .s 6 (.pointer (some ⟨e.2.2.1,0,none⟩)), .s 10 (.string II.Name), .s 12 (.agg #[.int .i64 r1.2.BZ, .int .i64 r1.2.CB, .int .i64 r1.2.CJ]), .s 14 (.int .i64 r2.2), .s 15 (.int .u8 (wrap .u8 r2.2)), .s 18 (.slice e.1 r3.2.length e.2.1)]) (fun e=>[.res (Box e.2.2.1 58 [.string (⟨#[]⟩), .int .i64 0, .int .i64 0, .int .i64 0, .slice none 0 0]), .ro (AV AQ e.2.2.2.1 e.2.2.2.2.1 r3.1.L), .res (Box AZ 127 [.slice e.2.2.2.1 r3.1.L.length e.2.2.2.2.1, .int .i64 r3.1.At]), .res (zI AQ 5 e.1 e.2.1 r3.2), .ro (AV AQ e.2.2.2.2.2.1 e.2.2.2.2.2.2.1 r2.1.L), .ro (AV AQ e.2.2.2.2.2.2.2.1 e.2.2.2.2.2.2.2.2 r1.1.L),0,1,2,3,4]) O O (fun VN=>?ji) ?jk
     case ji=>
      refine .DX (Y:=?H9) 6 (fun (e:Nat × Option Addr × Nat × Option Addr × Nat)=>[0,3,4, .s 6 (.pointer (some ⟨e.1,0,none⟩)), .s 10 (.string II.Name), .s 12 (.agg #[.int .i64 r1.2.BZ, .int .i64 r1.2.CB, .int .i64 r1.2.CJ]), .s 14 (.int .i64 r2.2), .s 15 (.int .u8 (wrap .u8 r2.2)), .s 17 (.pointer (some ⟨AZ,0,none⟩))]) (fun e=>[.res (Box e.1 58 [.string (⟨#[]⟩), .int .i64 0, .int .i64 0, .int .i64 0, .slice none 0 0]), .ro (AV AQ e.2.1 e.2.2.1 r2.1.L), .res (Box AZ 127 [.slice e.2.1 r2.1.L.length e.2.2.1, .int .i64 r2.1.At]), .ro (AV AQ e.2.2.2.1 e.2.2.2.2 r1.1.L),0,1,2,3,4]) O O (fun VO=>?jl) ?jm
      case jl=>
       refine .DX (Y:=?I4) 6 (fun (e:Nat × Option Addr × Nat)=>[0,3,4, .s 6 (.pointer (some ⟨e.1,0,none⟩)), .s 10 (.string II.Name), .s 12 (.agg #[.int .i64 r1.2.BZ, .int .i64 r1.2.CB, .int .i64 r1.2.CJ]), .s 13 (.pointer (some ⟨AZ,0,none⟩)), .s 17 (.pointer (some ⟨AZ,0,none⟩))]) (fun e=>[.res (Box e.1 58 [.string (⟨#[]⟩), .int .i64 0, .int .i64 0, .int .i64 0, .slice none 0 0]), .ro (AV AQ e.2.1 e.2.2 r1.1.L), .res (Box AZ 127 [.slice e.2.1 r1.1.L.length e.2.2, .int .i64 r1.1.At]),0,1,2,3,4]) O O (fun VP=>?jo) ?jq
       case jo=>
        refine .yn 1 O<|.yl 0 1 O<|.yn 3 O<|.FY ?_ ?_
        ·refine .BV<|.cr 7 [3] [5] 0 (qV hr1) Sj O fun A4 c4=>.xk (zl [] 2 O)<|.FY ?_ ?_
         ·refine .BV<|.cr 8 [1] [1] 0 (zO hr2) uS O fun A5 c5=>.xk (zl [] 3 O)<|.yn 1 O<|.FY ?_ ?_
          ·refine .BV<|.bS O fun g3=>.xk (zl [] 4 O)<|.FY ?_ ?_
           ·refine .BV<|.ct 11 [2] [2] 0 (tW hr3) Eh O fun A6 c6 A7 c7=>.xk (zl [] 6 O) ?_;refine JI _ _ (g3,A7,c7,A6,c6,A5,c5,A4,c4) ?_ ?_
            ·exact ⟨O,O,O,O,O,O,O,O,trivial⟩
            exact fun _ w=>w
           refine .BV<|.alloc O O fun g4=>.xk (zl [] 5 O) ?_;refine ND _ _ (g3,g4,A5,c5,A4,c4) ?_ ?_
           ·exact ⟨O,O,O,O,O,O,O,O,O,trivial⟩
           exact fun _ w=>w
          refine .FY ?_ ?_
          ·refine .BV<|.ct 10 [1] [1] 0 (tW hr3) Eh O fun A6 c6 A7 c7=>.xk (zl [] 5 O)<|.FY ?_ ?_
           ·refine .BV<|.bS O fun g3=>.xk (zl [] 6 O) ?_;refine JI _ _ (g3,A7,c7,A6,c6,A5,c5,A4,c4) ?_ ?_
            ·exact ⟨O,O,O,O,O,O,O,O,trivial⟩
            exact fun _ w=>(w.sl [1,1,1] 0 O)
           refine .BV<|.alloc O O fun g4=>.xk (zl [] 6 O) ?_;refine VN _ _ (A7,c7,g4,A6,c6,A5,c5,A4,c4) ?_ ?_
           ·exact ⟨O,O,O,O,O,O,O,O,O,trivial⟩
           exact fun _ w=>w
          refine .BV<|.alloc O O fun g4=>.xk (zl [] 4 O) ?_;refine VO _ _ (g4,A5,c5,A4,c4) ?_ ?_
          ·exact ⟨O,O,O,O,O,O,O,O,O,trivial⟩
          exact fun _ w=>w
         refine .BV<|.alloc O O fun g4=>.xk (zl [] 3 O) ?_;refine VP _ _ (g4,A4,c4) ?_ ?_
         ·exact ⟨O,O,O,O,O,O,O,O,trivial⟩
         exact fun _ w=>w
        refine .BV<|.alloc O O fun g4=>.xk (zl [1,1,1,1,1] 2 O)<|.BV<|.cr 8 [4] [6] 0 (qV hr1) Sj O fun A4 c4=>.xk (zl [] 3 O) ?_;refine VP _ _ (g4,A4,c4) ?_ ?_
        ·exact ⟨O,O,O,O,O,O,O,O,trivial⟩
        exact fun _ w=>(w.sl [2] 0 O)
       case jq=>
        rintro ⟨g4,A4,c4⟩;refine .nm 8 O<|.BV<|.cr 9 [2] [2] 0 (zO hr2) uS O fun A5 c5=>.xk (zl [] 4 O)<|.yn 1 O ?_;refine VO _ _ (g4,A5,c5,A4,c4) ?_ ?_
        ·exact ⟨O,O,O,O,O,O,O,O,O,trivial⟩
        exact fun _ w=>(w.sl [2] 0 O)
      case jm=>
       rintro ⟨g4,A5,c5,A4,c4⟩;refine .nm 9 O<|.FY ?_ ?_
       ·refine .BV<|.bS O fun g3=>.xk (zl [] 5 O) ?_;refine ND _ _ (g3,g4,A5,c5,A4,c4) ?_ ?_
        ·exact ⟨O,O,O,O,O,O,O,O,O,trivial⟩
        exact fun _ w=>(w.sl [1] 0 O)
       refine .BV<|.ct 11 [2] [2] 0 (tW hr3) Eh O fun A6 c6 A7 c7=>.xk (zl [] 6 O) ?_;refine VN _ _ (A7,c7,g4,A6,c6,A5,c5,A4,c4) ?_ ?_
       ·exact ⟨O,O,O,O,O,O,O,O,O,trivial⟩
       exact fun _ w=>(w.sl [3] 0 O)
     case jk=>
      rintro ⟨A7,c7,g4,A6,c6,A5,c5,A4,c4⟩;refine .nm 11 O<|.BV<|.bS O fun g3=>.xk (zl [] 7 O) ?_;refine EU _ _ (g3,A7,c7,g4,A6,c6,A5,c5,A4,c4) ?_ ?_
      ·exact ⟨O,O,O,O,O,O,O,O,O,trivial⟩
      exact fun _ w=>(w.sl [1,1,1,1] 0 O)
    case RY=>
     rintro ⟨g3,g4,A5,c5,A4,c4⟩;refine .nm 10 O<|.BV<|.ct 12 [3] [3] 0 (tW hr3) Eh O fun A6 c6 A7 c7=>.xk (zl [] 7 O) ?_;refine EU _ _ (g3,A7,c7,g4,A6,c6,A5,c5,A4,c4) ?_ ?_
     ·exact ⟨O,O,O,O,O,O,O,O,O,trivial⟩
     exact fun _ w=>(w.sl [3] 0 O)
   case LK=>
    rintro ⟨g3,A7,c7,A6,c6,A5,c5,A4,c4⟩;refine .nm 11 O<|.FY ?_ ?_
    ·refine .BV<|.AY (fun _ w=>(w.sl [2] 0 O).BU)<|.AY (fun _ w=>(w.sl [3] 0 O).IL (E:=AQ) (e:=5) [wrap .u8 r2.2] O O)<|.app (E:=AQ) hl1 O O O .z O O O O O O O O (gU EO) O O fun A8 c8=>.xk (zl [] 6 O)<|.yn 1 O<|.BV<|.alloc O O fun g4=>.xk (zl [] 7 O) ?_;refine DL _ _ (A8,c8,g4,A7,c7,A6,c6,A5,c5,A4,c4) ?_ ?_
     ·exact ⟨O,O,O,O,O,O,O,O,O,trivial⟩
     exact fun _ w=>w
    refine .BV<|.alloc O O fun g4=>.xk (zl [] 7 O) ?_;refine EU _ _ (g3,A7,c7,g4,A6,c6,A5,c5,A4,c4) ?_ ?_
    ·exact ⟨O,O,O,O,O,O,O,O,O,trivial⟩
    exact fun _ w=>w
  case GN=>
   rintro ⟨g3,A7,c7,g4,A6,c6,A5,c5,A4,c4⟩;refine .nm 12 O<|.BV<|.AY (fun _ w=>(w.sl [3] 0 O).BU)<|.AY (fun _ w=>(w.sl [4] 0 O).IL (E:=AQ) (e:=5) [wrap .u8 r2.2] O O)<|.app (E:=AQ) hl1 O O O .z O O O O O O O O (gU EO) O O fun A8 c8=>.xk (zl [] 7 O)<|.yn 1 O ?_;refine DL _ _ (A8,c8,g4,A7,c7,A6,c6,A5,c5,A4,c4) ?_ ?_
   ·exact ⟨O,O,O,O,O,O,O,O,O,trivial⟩
   exact fun _ w=>(w.sl [2] 0 O)
 case ER=>
  rintro ⟨A8,c8,g4,A7,c7,A6,c6,A5,c5,A4,c4⟩;refine .nm 12 O<|.BV<|.sb 0 0 O<|.xk (zl [] 7 O)<|.CQ<|.AO<|.pf [0,3,4,6] [0,0,1,1,3,3] 4 O O<|.seq<|.a 1 O<|.bd h fun r4 hr4 h=>.cr 9 [3] [3] 0 (zO hr4) uS O fun A9 c9=>.bf [0,3,4,6,22] [0,0,0,0] 1 O O<|.block<|.ab [0,3,4,6,22,23] O<|.cb h O (fun h=>?_) (fun h=>?_)
  ·refine .seq<|.region<|.lb 0 5 O<|.bd h fun r5 JH h=>.ct 10 [6,7] [] 0 (zHj JH) zSK O fun EC c10 EW c11=>.n 2 O<|.sb 0 6 O<|.bf [4,5] [0,0,0,0,0] 5 O O ?_;cases h;exact .rt O Tryz.results101 (.cell O (.head _) O (.tmp O .nil)) O ⟨A9,c9,EC,c10,EW,c11,O,O⟩ (zk 4 4 [4,2,3] [4] 0 O)
  refine .ab [0,3,4,6,22,29] O<|.cb h O (fun h=>?_) (fun h=>?_)
  ·refine .seq<|.bd h fun r6 KU h=>.bd h fun r7 OY h=>.BI (iN [0,8,12] (.alt (iN [7] (iN [19,20,24] (iN [31] (iN [35,36,40] (iN [47,48] .nil))))) (iN [19,20,24] (.alt (iN [7] (iN [31] (iN [35,36,40] (iN [47,48] .nil)))) (iN [31] (iN [7] (iN [35,36,40] (iN [47,48] .nil)))))))) _ mixed (by kernel_rfl) (zl [0] 4 O)<|.DX (Y:=?I5) 2 (fun (e:Option Addr × Nat)=>[4, .s 31 (.agg (zF II A2 c2 A3 c3).toArray), .s 32 (.agg #[.string II.Name, .int .i64 r1.2.BZ, .int .i64 r1.2.CB, .int .i64 r1.2.CJ, .slice A8 l1.length c8]), .s 35 (.slice A8 l1.length c8), .s 36 (.int .i64 (l1.length:Int)), .s 38 (.int .i64 r6.2)]) (fun e=>[.ro (AV AQ e.1 e.2 r6.1.L), .res (Box AZ 127 [.slice e.1 r6.1.L.length e.2, .int .i64 r6.1.At]),0]) O O (fun VQ=>?jr) ?jv
   case jr=>
    refine .DX (Y:=?I7) 0 (fun (e:Unit)=>[4, .s 31 (.agg (zF II A2 c2 A3 c3).toArray), .s 32 (.agg #[.string II.Name, .int .i64 r1.2.BZ, .int .i64 r1.2.CB, .int .i64 r1.2.CJ, .slice A8 l1.length c8]), .s 33 (.pointer (some ⟨AZ,0,none⟩)), .s 35 (.slice A8 l1.length c8), .s 36 (.int .i64 (l1.length:Int)), .s 37 (.int .i64 (wrap .i64 ((l1.length:Int)+1)))]) (fun e=>[]) O O (fun VR=>?jw) ?jy
    case jw=>
     refine .yl 0 1 O<|.yn 2 O<|.FY ?_ ?_
     ·refine .BV<|.lb 0 2 O<|.xk (zl [0] 4 O)<|.BV<|.lb 4 2 O<|.xk (zl [0] 4 O)<|.yn 2 O ?_;refine VR _ _ () ?_ ?_
      ·exact ⟨O,O,O,O,O,O,O,trivial⟩
      exact fun _ w=>w
     refine .BV<|.lb 4 2 O<|.xk (zl [0] 4 O)<|.yn 2 O<|.FY ?_ ?_
     ·refine .BV<|.lb 0 2 O<|.xk (zl [0] 4 O) ?_;refine VR _ _ () ?_ ?_
      ·exact ⟨O,O,O,O,O,O,O,trivial⟩
      exact fun _ w=>w
     refine .BV<|.cr 9 [1] [1] 0 (zO KU) uS O fun FX c12=>.xk (zl [2] 5 O)<|.BV<|.lb 0 3 O<|.xk (zl [2] 5 O) ?_;refine VQ _ _ (FX,c12) ?_ ?_
     ·exact ⟨O,O,O,O,O,O,trivial⟩
     exact fun _ w=>w
    case jy=>
     rintro ⟨⟩;refine .nm 8 O<|.BV<|.cr 9 [1] [1] 0 (zO KU) uS O fun FX c12=>.xk (zl [2] 5 O) ?_;refine VQ _ _ (FX,c12) ?_ ?_
     ·exact ⟨O,O,O,O,O,O,trivial⟩
     exact fun _ w=>w
   case jv=>
    rintro ⟨FX,c12⟩;refine .nm 9 O<|.BV<|.AY (fun _ w=>(w.sl [4] 0 O).BU)<|.ct 11 [7,8,0] [] 0 (zBz OY) zQQ O fun IE c13 GU c14=>.xk (zl [5] 7 O)<|.yn 2 O<|.BV<|.sb 0 7 O<|.xk (zl [6] 7 O)<|.yn 1 O<|.CQ<|.AO<|.pf [4,5] [0,0,0,1,1] 6 O O ?_;cases h;exact .rt O Tryz.results101 (.cell O (.head _) O (.tmp O .nil)) O ⟨FX,c12,IE,c13,GU,c14,O,O⟩ (zk 4 4 [4,2,3] [4] 0 O)
  refine .seq<|.bd h fun o1 hj1 h=>.cu 0 [0,3,4,6,22, .s 42 (.bool o1)] [] O O ?_ ?_
  ·refine .ab [0,3,4,6,22,42] O<|.cb hj1 O (fun hj1=>?_) (fun hj1=>?_)
   ·cases hj1;exact .sk<|.hU O zw
   refine .region ?_;cases hj1;exact .be O<|.hU O zw
  refine .cb h O (fun h=>?_) (fun h=>?_)
  ·refine .seq<|.region<|.lb 0 5 O<|.lb 0 2 O<|.p O O<|.lb 4 2 O<|.p O O<|.AY (fun _ w=>(w.sl [3] 0 O).BU)<|.bd h fun r8 OZ h=>.ct 10 [6,7,0] [] 0 (zBz OZ) zQQ O fun KL c15 LG c16=>.n 3 O<|.alloc O O fun g5=>.sb 0 0 O<|.bf [4,6,7,8] [0,0,0,0,0,0,0,0] 3 O O<|.seq<|.ab [4,6,7,8,55] O<|.cb h O (fun h=>?_) (fun h=>?_)
   ·refine .seq<|.region<|.lb 0 0 O<|.p O O<|.sb 0 7 O<|.bf [4,5] [0,1,1,2,2] 3 O O ?_;cases h;exact .rt O Tryz.results101 (.cell O (.head _) O (.tmp O .nil)) O ⟨A9,c9,KL,c15,LG,c16,O,O⟩ (zk 4 4 [4,2,3] [4] 0 O)
   refine .sk<|.pr [4,6,7] O<|.seq<|.BI (iN [1,5,10,15,16,20,27,28] .nil) _ mixed (by kernel_rfl) (zl [0,0,0,0,0,0,0] 1 O)<|.yx 0 0 O<|.yx 0 6 O<|.bd h fun r9 QW h=>.YZ (fun _ h=>h) (zKO QW) zSw O O O O (za [3] O)<|.BV<|.bd h fun r10 LH h=>.ct 10 [1,2] [] 0 (zGA LH) zTw O fun LY c17 KO c18=>.xk (zl [2,2,2,2,2,2,2] 3 O)<|.yn 2 O<|.BV<|.sb 0 9 O<|.xk (zl [] 3 O)<|.yn 1 O<|.CQ<|.AO<|.pf [4,5] [0,0,0,4,4] 5 O O ?_;cases h;exact .rt O Tryz.results101 (.cell O (.head _) O (.tmp O .nil)) O ⟨A9,c9,LY,c17,KO,c18,O,O⟩ (zk 4 4 [4,2,3] [4] 0 O)
  refine .EK [0,3,4,22,64] [0,0] 2 O O<|.cb h O (fun h=>?_) (fun h=>?_)
  ·refine .seq<|.region<|.lb 0 3 O<|.bd h fun r11 PD h=>.ct 8 [4,5] [] 0 (zFK PD) zTb O fun JS c19 JU c20=>.n 2 O<|.sb 0 4 O<|.bf [4,5] [0,0,0,0,0] 3 O O ?_;cases h;exact .rt O Tryz.results101 (.cell O (.head _) O (.tmp O .nil)) O ⟨A9,c9,JS,c19,JU,c20,O,O⟩ (zk 4 4 [4,2,3] [4] 0 O)
  refine .ab [0,3,4,22,70] O<|.cb h O (fun h=>?_) (fun h=>?_)
  ·refine .seq<|.region<|.lb 0 3 O<|.bd h fun r12 PE h=>.ct 8 [4,5] [] 0 (zEx PE) zTq O fun KE c21 LP LQ=>.n 2 O<|.sb 0 4 O<|.bf [4,5] [0,0,0,0,0] 3 O O ?_;cases h;exact .rt O Tryz.results101 (.cell O (.head _) O (.tmp O .nil)) O ⟨A9,c9,KE,c21,LP,LQ,O,O⟩ (zk 4 4 [4,2,3] [4] 0 O)
  refine .ab [0,3,4,76] O<|.cb h O (fun h=>?_) (fun h=>?_)
  ·refine .seq<|.BI (iN [0,4,8,13,20,19,27,28,35,39,40] .nil) _ mixed (by kernel_rfl) (zl [0] 2 O)<|.yl 0 1 O<|.yn 2 O<|.yx 0 3 O<|.yn 1 O<|.BV<|.bd h fun r13 RU h=>.ct 8 [1] [1] 0 (zBv RU) zSD O fun OJ c23 TM c24=>.xk (zl [3] 4 O)<|.BV<|.bd h fun QN VS h=>.cr 9 [1] [2] 0 (zO VS) uS O fun RP c25=>.xk (zl [4] 5 O)<|.yn 1 O<|.BV<|.bd h fun QO VT h=>.ct 11 [7,8,3] [] 0 (zHp VT) zUs O fun UI QL RQ RS=>.xk (zl [6] 7 O)<|.BV<|.sb 0 7 O<|.xk (zl [] 7 O)<|.yn 1 O<|.CQ<|.AO<|.pf [4,5] [0,0,0,0,0] 6 O O ?_;cases h;exact .rt O Tryz.results101 (.cell O (.head _) O (.tmp O .nil)) O ⟨RP,c25,UI,QL,RQ,RS,O,O⟩ (zk 4 4 [4,2,3] [4] 0 O)
  refine .skip<|.BL<|.AO<|.pr [3,4] O<|.seq<|.region<|.lb 0 3 O<|.bd h fun r16 VU h=>.ct 8 [4,5] [] 0 (kB VU) En O fun QX c28 QY c29=>.sb 0 4 O<|.bf [4,5] [0,0,0,0,0] 3 O O ?_;cases h;exact .rt O Tryz.results101 (.cell O (.head _) O (.tmp O .nil)) O ⟨A9,c9,QX,c28,QY,c29,O,O⟩ (zk 4 4 [4,2,3] [4] 0 O)
theorem zVa:BX Tryz.prog 41:=en Tryz.func41 (by kernel_rfl)
def qA [AP] (DJ:yS) (name:ByteArray):Option (yS × zB):=
 bnd (uF DJ) fun r1=>bnd (zP r1.1 4) fun r2=>bnd (iJ (⟨name,r1.2, [wrap .u8 r2.2]⟩:zN)) fun r3=>bnd (zP r2.1 7) fun r4=>bnd (yC (τ:=zB × List Int × Int) (fun (s1:zB × Int × List Int × Int)=>bif decide (s1.2.1>0) then (bnd (tC (⟨s1.2.2.1,s1.2.2.2⟩:yS) s1.1) fun r5=>bif (r5.2.2==0) then (some (.next (r5.2.1,wrap .i64 (s1.2.1 - 1),r5.1.L,r5.1.At))) else (some (.next (s1.1,wrap .i64 (s1.2.1 - 1),r5.1.L,r5.1.At)))) else (some (.done (s1.1,s1.2.2.1,s1.2.2.2)))) (r3.1,r4.2,r4.1.L,r4.1.At)) fun o1=>some ((⟨o1.2.1,o1.2.2⟩:yS),o1.1)
theorem zAj [AP] {DJ name A1 c1 AZ r} (h:qA DJ name=some r):
    BA Tryz.prog 41 [.pointer (some ⟨AZ,0,none⟩), .string name] [.ro (AV AQ A1 c1 DJ.L), .res (Box AZ 127 [.slice A1 DJ.L.length c1, .int .i64 DJ.At])] (fun v F=>∃ A2 c2 A3 c3 A4 c4,v= .agg (zF r.2 A3 c3 A4 c4).toArray∧F= [.ro (AV AQ A2 c2 r.1.L), .ro (AV AQ A3 c3 r.2.Slots.e0.AU.Data), .ro (AV AQ A4 c4 r.2.Slots.e1.AU.Data), .res (Box AZ 127 [.slice A2 r.1.L.length c2, .int .i64 r.1.At])]):=by
 refine BA.intro Tryz.func41 O O O fun w R=>?_;refine .seq<|.region<|.alloc O O fun g1=>.done<|.AO<|.a 2 O<|.bd h fun r1 hr1 h=>.cr 4 [2] [2] 0 (qV hr1) Sj O fun A2 c2=>.p O O<|.bd h fun r2 hr2 h=>.cr 5 [1] [1] 0 (zO hr2) uS O fun A3 c3=>.p O O<|.bS O fun g2=>.p O O<|.AY (fun _ w=>w.IL (E:=AQ) (e:=5) [wrap .u8 r2.2] O O)<|.AY (fun _ w=>w.BU)<|.bd h fun r3 hr3 h=>.ct 8 [0] [] 0 (zEk hr3) zRY O fun A4 c4 A5 c5=>.n 3 O<|.alloc O O fun g3=>.sb 0 0 O<|.bf [0,4,5] [0,0,0,1,1,2] 3 O O<|.seq<|.a 1 O<|.bd h fun r4 hr4 h=>.cr 7 [4] [4] 0 (zO hr4) uS O fun A6 c6=>.bf [0,4,5,7] [0,0,0,0,0] 1 O O<|.bd h fun o1 hl1 h=>.DV 5 (fun (e2:Option Addr × Nat × Option Addr × Nat × Option Addr × Nat)=>[4,5]) (fun e2=>[.ro (AV AQ e2.2.2.2.2.1 e2.2.2.2.2.2 o1.2.1), .ro (AV AQ e2.2.2.1 e2.2.2.2.1 o1.1.Slots.e1.AU.Data), .ro (AV AQ e2.1 e2.2.1 o1.1.Slots.e0.AU.Data), .res (Box AZ 127 [.slice e2.2.2.2.2.1 o1.2.1.length e2.2.2.2.2.2, .int .i64 o1.2.2]), .res (Box g3 64 (zF o1.1 e2.1 e2.2.1 e2.2.2.1 e2.2.2.2.1))]) O O ?_ ?_
 ·refine .block<|.BM hl1 5 (fun (s1:zB × Int × List Int × Int) (e1:Option Addr × Nat × Option Addr × Nat × Option Addr × Nat)=>[0,4,5, .s 7 (.int .i64 s1.2.1)]) (fun s1 e1=>[.ro (AV AQ e1.2.2.2.2.1 e1.2.2.2.2.2 s1.2.2.1), .ro (AV AQ e1.2.2.1 e1.2.2.2.1 s1.1.Slots.e1.AU.Data), .ro (AV AQ e1.1 e1.2.1 s1.1.Slots.e0.AU.Data), .res (Box AZ 127 [.slice e1.2.2.2.2.1 s1.2.2.1.length e1.2.2.2.2.2, .int .i64 s1.2.2.2]), .res (Box g3 64 (zF s1.1 e1.1 e1.2.1 e1.2.2.1 e1.2.2.2.1))]) O O (A4,c4,A5,c5,A6,c6) (zb O) (zl [0,3,2] 0 O) ?_;rintro s1 ⟨A7,c7,A8,c8,A9,c9⟩ st1 hm1 hd1 h1;refine .seq<|.ab [0,4,5,7,25] O<|.cb h1 O (fun h1=>?_) (fun h1=>?_)
  ·refine .sk<|.pr [0,4,5,7] O<|.seq<|.block<|.a 1 O<|.lb 0 4 O<|.bd h1 fun r5 JH h1=>.call (zAB JH) zSH O O O (zd [1,3,2] [3] 0 O) ?_;rintro _ _ ⟨IE,c13,GU,c14,KL,c15,rfl,rfl⟩;refine .nm 9 O<|.n 3 O<|.alloc O O fun g4=>.sb 0 0 O<|.bf [0,4,5,7,8,9] [0,0,0,0,0] 1 O O<|.ab [0,4,5,7,8,35] O<|.cb h1 O (fun h1=>?_) (fun h1=>?_)
   ·refine .region<|.lb 0 0 O<|.sb 0 7 O<|.done<|.BL<|.AO<|.pf [0,4,5,7] [0,1,1,1,1] 3 O O<|.region ?_;cases h1;exact .be O<|.ag (GU,c14,KL,c15,IE,c13) hm1 O (zl [1,2,1,1] 0 O)
   refine .skip<|.BL<|.AO<|.pf [0,4,5,7] [1] 3 O O<|.region ?_;cases h1;exact .be O<|.ag (A7,c7,A8,c8,IE,c13) hm1 O (zl [0,1,1] 0 O)
  refine .xq O ?_;cases h1;cases hd1 _ rfl
  exact .AO<|.hE (A7,c7,A8,c8,A9,c9) O zw
 rintro ⟨EC,c10,EW,c11,FX,c12⟩;refine .seq<|.region<|.lb 0 4 O<|.sb 0 5 O<|.bf [4] [0,0,0,0,0] 1 O O ?_;cases h;exact .rt O Tryz.results41 (.cell O (.head _) O .nil) O ⟨FX,c12,EC,c10,EW,c11,O,O⟩ (zk 4 4 [2,4,3] [4] 0 O)
theorem zUH:BX Tryz.prog 55:=en Tryz.func55 (by kernel_rfl)
def jQ:Option (List ByteArray):=
 some ([⟨#[98,105,111,115]⟩,⟨#[99,112,108,100]⟩,⟨#[109,101]⟩,⟨#[112,115,117]⟩,⟨#[120,45,49]⟩,⟨#[122,122]⟩])
theorem zHo {r:(List ByteArray)} (h:jQ=some r):
    BA Tryz.prog 55 [] [] (fun v F=>∃ A1 c1,v= .slice A1 r.length c1∧F= [.res (zI UF 9 A1 c1 r)]):=by
 unfold jQ at h
 refine BA.intro Tryz.func55 O O O fun w R=>?_;refine .ab [] O<|.seq<|.region<|.bS O fun g1=>.b [0] O<|.AY (fun _ w=>w.IL (E:=UF) (e:=9) [⟨#[98,105,111,115]⟩,⟨#[99,112,108,100]⟩,⟨#[109,101]⟩,⟨#[112,115,117]⟩,⟨#[120,45,49]⟩,⟨#[122,122]⟩] O O) ?_;cases h;exact .rv O O ⟨(some ⟨g1,0,none⟩),([⟨#[98,105,111,115]⟩,⟨#[99,112,108,100]⟩,⟨#[109,101]⟩,⟨#[112,115,117]⟩,⟨#[120,45,49]⟩,⟨#[122,122]⟩]:List ByteArray).length,O,O⟩ zw
theorem zTL:BX Tryz.prog 102:=en Tryz.func102 (by kernel_rfl)
def pN (DJ:yS):Option (yS × yX):=
 bnd (jQ) fun r1=>bnd (zP DJ 4) fun r2=>bnd (BP r1 r2.2) fun x1=>bnd (zP r2.1 3) fun r3=>bnd (zP r3.1 4) fun r4=>bnd (BP r1 r4.2) fun x2=>bnd (zP r4.1 3) fun r5=>bnd ((bif (x1.toList==x2.toList) then (bnd (zP r5.1 6) fun r6=>some (decide (r6.2<5),r6.1.L,r6.1.At)) else (some (false,r5.1.L,r5.1.At)):Option (Bool × List Int × Int))) fun o1=>bif o1.1 then (bnd (BP r1 4) fun x3=>some ((⟨o1.2.1,o1.2.2⟩:yS),(⟨x1,(⟨wrap .i64 (1+r3.2),0,0⟩:zQ),x3,(⟨wrap .i64 (1+r5.2),0,0⟩:zQ)⟩:yX))) else (some ((⟨o1.2.1,o1.2.2⟩:yS),(⟨x1,(⟨wrap .i64 (1+r3.2),0,0⟩:zQ),x2,(⟨wrap .i64 (1+r5.2),0,0⟩:zQ)⟩:yX)))
theorem zBZ {DJ A1 c1 AZ r} (h:pN DJ=some r):
    BA Tryz.prog 102 [.pointer (some ⟨AZ,0,none⟩)] [.ro (AV AQ A1 c1 DJ.L), .res (Box AZ 127 [.slice A1 DJ.L.length c1, .int .i64 DJ.At])] (fun v F=>∃ A2 c2,v= .agg (zIb r.2).toArray∧F= [.ro (AV AQ A2 c2 r.1.L), .res (Box AZ 127 [.slice A2 r.1.L.length c2, .int .i64 r.1.At])]):=by
 refine BA.intro Tryz.func102 O O O fun w R=>?_;refine .seq<|.region<|.alloc O O fun g1=>.done<|.AO<|.seq<|.region<|.bd h fun r1 hr1 h=>.cr 4 [] [] 0 (zHo hr1) zUH O fun A2 c2=>.b [0,2,3] O<|.seq<|.AY (fun _ w=>w.BU)<|.bd h fun r2 hr2 h=>.bd h fun x1 hx1 h=>.bd h fun r3 hr3 h=>.bd h fun r4 hr4 h=>.bd h fun x2 hx2 h=>.bd h fun r5 JH h=>.BI (iN [0,4,20,36,40,56] (.alt (iN [11,12,16] (.alt (iN [27,28,32] (.alt (iN [47,48,52] (.alt (iN [63,64,68,72] (iN [79] (iN [83] .nil))) (iN [79] (iN [63,64,68,72] (iN [83] .nil))))) (iN [79] (iN [47,48,52] (iN [63,64,68,72] (iN [83] .nil)))))) (iN [79] (iN [27,28,32] (iN [47,48,52] (iN [63,64,68,72] (iN [83] .nil))))))) (iN [79] (iN [11,12,16] (iN [27,28,32] (iN [47,48,52] (iN [63,64,68,72] (iN [83] .nil)))))))) _ mixed (by kernel_rfl) (zl [0,0,0] 1 O)<|.DX (Y:=?IZ) 4 (fun (e:Nat × Nat × Nat × Nat × Nat × Option Addr × Nat × Option Addr × Nat × Option Addr × Nat × Option Addr × Nat)=>[0,2,3, .s 4 (.pointer (some ⟨e.2.2.2.2.1,0,none⟩)), .s 6 (.slice A2 r1.length c2), .s 8 (.int .i64 r2.2), .s 9 (.pointer (some ⟨e.1,e.2.1,none⟩)), .s 10 (.string x1), .s 12 (.int .i64 r3.2), .s 13 (.int .i64 (wrap .i64 (1+r3.2))), .s 14 (.agg #[.int .i64 (wrap .i64 (1+r3.2)), .int .i64 0, .int .i64 0]), .s 15 (.slice A2 r1.length c2), .s 17 (.int .i64 r4.2), .s 18 (.pointer (some ⟨e.2.2.1,e.2.2.2.1,none⟩)), .s 19 (.string x2), .s 21 (.int .i64 r5.2), .s 22 (.int .i64 (wrap .i64 (1+r5.2))), .s 23 (.agg #[.int .i64 (wrap .i64 (1+r5.2)), .int .i64 0, .int .i64 0]), .s 24 (.agg #[.string x1, .int .i64 (wrap .i64 (1+r3.2)), .int .i64 0, .int .i64 0, .string x2, .int .i64 (wrap .i64 (1+r5.2)), .int .i64 0, .int .i64 0])]) (fun e=>[.res (Box e.2.2.2.2.1 123 [.string (⟨#[]⟩), .int .i64 0, .int .i64 0, .int .i64 0, .string (⟨#[]⟩), .int .i64 0, .int .i64 0, .int .i64 0]), .ro (AV AQ e.2.2.2.2.2.1 e.2.2.2.2.2.2.1 r5.1.L), .res (Box AZ 127 [.slice e.2.2.2.2.2.1 r5.1.L.length e.2.2.2.2.2.2.1, .int .i64 r5.1.At]), .ro (oU e.2.2.1 e.2.2.2.1 [.string x2]), .ro (AV AQ e.2.2.2.2.2.2.2.1 e.2.2.2.2.2.2.2.2.1 r4.1.L), .ro (AV AQ e.2.2.2.2.2.2.2.2.2.1 e.2.2.2.2.2.2.2.2.2.2.1 r3.1.L), .ro (oU e.1 e.2.1 [.string x1]), .ro (AV AQ e.2.2.2.2.2.2.2.2.2.2.2.1 e.2.2.2.2.2.2.2.2.2.2.2.2 r2.1.L),0,1,2]) O O (fun DL=>?EQ) ?ER
 case EQ=>
  refine .DX (Y:=?KZ) 4 (fun (e:Nat × Nat × Nat × Nat × Nat × Option Addr × Nat × Option Addr × Nat × Option Addr × Nat)=>[0,2,3, .s 4 (.pointer (some ⟨e.2.2.2.2.1,0,none⟩)), .s 6 (.slice A2 r1.length c2), .s 8 (.int .i64 r2.2), .s 9 (.pointer (some ⟨e.1,e.2.1,none⟩)), .s 10 (.string x1), .s 12 (.int .i64 r3.2), .s 13 (.int .i64 (wrap .i64 (1+r3.2))), .s 14 (.agg #[.int .i64 (wrap .i64 (1+r3.2)), .int .i64 0, .int .i64 0]), .s 15 (.slice A2 r1.length c2), .s 17 (.int .i64 r4.2), .s 18 (.pointer (some ⟨e.2.2.1,e.2.2.2.1,none⟩)), .s 19 (.string x2), .s 20 (.pointer (some ⟨AZ,0,none⟩))]) (fun e=>[.res (Box e.2.2.2.2.1 123 [.string (⟨#[]⟩), .int .i64 0, .int .i64 0, .int .i64 0, .string (⟨#[]⟩), .int .i64 0, .int .i64 0, .int .i64 0]), .ro (oU e.2.2.1 e.2.2.2.1 [.string x2]), .ro (AV AQ e.2.2.2.2.2.1 e.2.2.2.2.2.2.1 r4.1.L), .res (Box AZ 127 [.slice e.2.2.2.2.2.1 r4.1.L.length e.2.2.2.2.2.2.1, .int .i64 r4.1.At]), .ro (AV AQ e.2.2.2.2.2.2.2.1 e.2.2.2.2.2.2.2.2.1 r3.1.L), .ro (oU e.1 e.2.1 [.string x1]), .ro (AV AQ e.2.2.2.2.2.2.2.2.2.1 e.2.2.2.2.2.2.2.2.2.2 r2.1.L),0,1,2]) O O (fun EU=>?GL) ?GN
  case GL=>
   refine .DX (Y:=?RV) 4 (fun (e:Nat × Nat × Nat × Option Addr × Nat × Option Addr × Nat)=>[0,2,3, .s 4 (.pointer (some ⟨e.2.2.1,0,none⟩)), .s 6 (.slice A2 r1.length c2), .s 8 (.int .i64 r2.2), .s 9 (.pointer (some ⟨e.1,e.2.1,none⟩)), .s 10 (.string x1), .s 12 (.int .i64 r3.2), .s 13 (.int .i64 (wrap .i64 (1+r3.2))), .s 14 (.agg #[.int .i64 (wrap .i64 (1+r3.2)), .int .i64 0, .int .i64 0]), .s 15 (.slice A2 r1.length c2), .s 16 (.pointer (some ⟨AZ,0,none⟩)), .s 20 (.pointer (some ⟨AZ,0,none⟩))]) (fun e=>[.res (Box e.2.2.1 123 [.string (⟨#[]⟩), .int .i64 0, .int .i64 0, .int .i64 0, .string (⟨#[]⟩), .int .i64 0, .int .i64 0, .int .i64 0]), .ro (AV AQ e.2.2.2.1 e.2.2.2.2.1 r3.1.L), .res (Box AZ 127 [.slice e.2.2.2.1 r3.1.L.length e.2.2.2.2.1, .int .i64 r3.1.At]), .ro (oU e.1 e.2.1 [.string x1]), .ro (AV AQ e.2.2.2.2.2.1 e.2.2.2.2.2.2 r2.1.L),0,1,2]) O O (fun JI=>?LJ) ?LK
   case LJ=>
    refine .DX (Y:=?jh) 4 (fun (e:Nat × Nat × Nat × Option Addr × Nat)=>[0,2,3, .s 4 (.pointer (some ⟨e.2.2.1,0,none⟩)), .s 6 (.slice A2 r1.length c2), .s 8 (.int .i64 r2.2), .s 9 (.pointer (some ⟨e.1,e.2.1,none⟩)), .s 10 (.string x1), .s 11 (.pointer (some ⟨AZ,0,none⟩)), .s 15 (.slice A2 r1.length c2), .s 16 (.pointer (some ⟨AZ,0,none⟩)), .s 20 (.pointer (some ⟨AZ,0,none⟩))]) (fun e=>[.res (Box e.2.2.1 123 [.string (⟨#[]⟩), .int .i64 0, .int .i64 0, .int .i64 0, .string (⟨#[]⟩), .int .i64 0, .int .i64 0, .int .i64 0]), .ro (oU e.1 e.2.1 [.string x1]), .ro (AV AQ e.2.2.2.1 e.2.2.2.2 r2.1.L), .res (Box AZ 127 [.slice e.2.2.2.1 r2.1.L.length e.2.2.2.2, .int .i64 r2.1.At]),0,1,2]) O O (fun ND=>?RX) ?RY
    case RX=>
     refine .yn 6 O<|.FY ?_ ?_
     ·refine .BV<|.cr 5 [3] [3] 0 (zO hr2) uS O fun A3 c3=>.xk (zl [] 2 O)<|.JZ (zm 2 O) hx1 fun b1 DY JA=>.AY (fun _ w=>Sat.JE JA (zm 2 O) hx1 w) ?_;have hc1:=fun w h=>Sat.JE JA (.head _) hx1 ((fun (w:World) (h:Sat (.ro (AV UF A2 c2 r1):: .res (Box g1 123 [.string (⟨#[]⟩), .int .i64 0, .int .i64 0, .int .i64 0, .string (⟨#[]⟩), .int .i64 0, .int .i64 0, .int .i64 0]):: .ro (AV AQ A1 c1 DJ.L)::R) w)=>h) w h);refine .KT (fun _ h=>h) (Rd.SY (E:=UF) JA hx1 O O O O O O O) O<|.KT hc1 (Rd.load DY 0 O (.head _) O O) O<|.FY ?_ ?_
      ·refine .BV<|.cr 7 [2] [2] 0 (zO hr3) uS O fun A4 c4=>.xk (zl [] 4 O)<|.yn 2 O<|.FY ?_ ?_
       ·refine .BV<|.cr 8 [1] [1] 0 (zO hr4) uS O fun A5 c5=>.xk (zl [] 5 O)<|.JZ (zm 5 O) hx2 fun b2 JD LD=>.AY (fun _ w=>Sat.JE LD (zm 5 O) hx2 w) ?_;have hc2:=fun w h=>Sat.JE LD (.head _) hx2 ((fun (w:World) (h:Sat (.ro (AV UF A2 c2 r1):: .res (Box g1 123 [.string (⟨#[]⟩), .int .i64 0, .int .i64 0, .int .i64 0, .string (⟨#[]⟩), .int .i64 0, .int .i64 0, .int .i64 0]):: .ro (AV AQ A1 c1 DJ.L)::R) w)=>h) w h);refine .KT (fun _ h=>h) (Rd.SY (E:=UF) LD hx2 O O O O O O O) O<|.KT hc2 (Rd.load JD 0 O (.head _) O O) O<|.FY ?_ ?_
        ·refine .BV<|.cr 10 [2] [2] 0 (zO JH) uS O fun A6 c6=>.xk (zl [] 7 O)<|.yn 3 O<|.BV<|.alloc O O fun g2=>.xk (zl [] 8 O) ?_;refine DL _ _ (b1,DY,b2,JD,g2,A6,c6,A5,c5,A4,c4,A3,c3) ?_ ?_
         ·exact ⟨O,O,O,O,O,O,O,O,O,O,O,O,O,O,O,O,O,O,O,trivial⟩
         exact fun _ w=>w
        refine .BV<|.alloc O O fun g2=>.xk (zl [] 7 O) ?_;refine EU _ _ (b1,DY,b2,JD,g2,A5,c5,A4,c4,A3,c3) ?_ ?_
        ·exact ⟨O,O,O,O,O,O,O,O,O,O,O,O,O,O,O,O,trivial⟩
        exact fun _ w=>w
       refine .BV<|.alloc O O fun g2=>.xk (zl [] 5 O) ?_;refine JI _ _ (b1,DY,g2,A4,c4,A3,c3) ?_ ?_
       ·exact ⟨O,O,O,O,O,O,O,O,O,O,O,O,O,O,trivial⟩
       exact fun _ w=>w
      refine .BV<|.alloc O O fun g2=>.xk (zl [] 4 O) ?_;refine ND _ _ (b1,DY,g2,A3,c3) ?_ ?_
      ·exact ⟨O,O,O,O,O,O,O,O,O,O,O,O,trivial⟩
      exact fun _ w=>w
     refine .BV<|.alloc O O fun g2=>.xk (zl [1,1,1] 2 O)<|.BV<|.cr 6 [4] [4] 0 (zO hr2) uS O fun A3 c3=>.xk (zl [] 3 O)<|.JZ (zm 3 O) hx1 fun b1 DY JA=>.AY (fun _ w=>Sat.JE JA (zm 3 O) hx1 w) ?_;have hc1:=fun w h=>Sat.JE JA (.head _) hx1 ((fun (w:World) (h:Sat (.ro (AV UF A2 c2 r1):: .res (Box g1 123 [.string (⟨#[]⟩), .int .i64 0, .int .i64 0, .int .i64 0, .string (⟨#[]⟩), .int .i64 0, .int .i64 0, .int .i64 0]):: .ro (AV AQ A1 c1 DJ.L)::R) w)=>h) w h);refine .KT (fun _ h=>h) (Rd.SY (E:=UF) JA hx1 O O O O O O O) O<|.KT hc1 (Rd.load DY 0 O (.head _) O O) O ?_;refine ND _ _ (b1,DY,g2,A3,c3) ?_ ?_
     ·exact ⟨O,O,O,O,O,O,O,O,O,O,O,O,trivial⟩
     exact fun _ w=>(w.sl [3] 0 O)
    case RY=>
     rintro ⟨b1,DY,g2,A3,c3⟩;refine .nm 7 O<|.BV<|.cr 8 [3] [3] 0 (zO hr3) uS O fun A4 c4=>.xk (zl [] 5 O)<|.yn 2 O ?_;refine JI _ _ (b1,DY,g2,A4,c4,A3,c3) ?_ ?_
     ·exact ⟨O,O,O,O,O,O,O,O,O,O,O,O,O,O,trivial⟩
     exact fun _ w=>(w.sl [2] 0 O)
   case LK=>
    rintro ⟨b1,DY,g2,A4,c4,A3,c3⟩;refine .nm 8 O<|.BV<|.cr 9 [2] [2] 0 (zO hr4) uS O fun A5 c5=>.xk (zl [] 6 O)<|.JZ (zm 6 O) hx2 fun b2 JD LD=>.AY (fun _ w=>Sat.JE LD (zm 6 O) hx2 w) ?_;have hc2:=fun w h=>Sat.JE LD (.head _) hx2 ((fun (w:World) (h:Sat (.ro (AV UF A2 c2 r1):: .res (Box g1 123 [.string (⟨#[]⟩), .int .i64 0, .int .i64 0, .int .i64 0, .string (⟨#[]⟩), .int .i64 0, .int .i64 0, .int .i64 0]):: .ro (AV AQ A1 c1 DJ.L)::R) w)=>h) w h);refine .KT (fun _ h=>h) (Rd.SY (E:=UF) LD hx2 O O O O O O O) O<|.KT hc2 (Rd.load JD 0 O (.head _) O O) O ?_;refine EU _ _ (b1,DY,b2,JD,g2,A5,c5,A4,c4,A3,c3) ?_ ?_
    ·exact ⟨O,O,O,O,O,O,O,O,O,O,O,O,O,O,O,O,trivial⟩
    exact fun _ w=>(w.sl [3] 0 O)
  case GN=>
   rintro ⟨b1,DY,b2,JD,g2,A5,c5,A4,c4,A3,c3⟩;refine .nm 10 O<|.BV<|.cr 11 [3] [3] 0 (zO JH) uS O fun A6 c6=>.xk (zl [] 8 O)<|.yn 3 O ?_;refine DL _ _ (b1,DY,b2,JD,g2,A6,c6,A5,c5,A4,c4,A3,c3) ?_ ?_
   ·exact ⟨O,O,O,O,O,O,O,O,O,O,O,O,O,O,O,O,O,O,O,trivial⟩
   exact fun _ w=>(w.sl [2] 0 O)
 case ER=>
  rintro ⟨b1,DY,b2,JD,g2,A6,c6,A5,c5,A4,c4,A3,c3⟩;refine .nm 11 O<|.BV<|.sb 0 0 O<|.xk (zl [] 8 O)<|.CQ<|.AO<|.pf [0,2,3,4] [0,0,0,5,5] 6 O O<|.seq<|.seq<|.bd h fun o1 hj1 h=>.DV 3 (fun (e1:Option Addr × Nat)=>[2,3,4, .s 34 (.bool o1.1)]) (fun e1=>[.ro (AV AQ e1.1 e1.2 o1.2.1),0, .res (Box AZ 127 [.slice e1.1 o1.2.1.length e1.2, .int .i64 o1.2.2])]) O O ?_ ?_
  ·refine .region<|.p O O<|.lb 0 0 O<|.p O O<|.lb 4 0 O<|.n 2 O<|.gs 30 hj1 O (fun hj1=>?_) (fun hj1=>?_)
   ·refine .n 1 O<|.BN O O<|.bd hj1 fun r6 KU hj1=>.cr 6 [2] [2] 0 (zO KU) uS O fun A8 c8=>?_;cases hj1;exact .be O<|.hE (A8,c8) O (zl [0,1,0] 1 O)
   cases hj1;exact .be O<|.hE (A6,c6) O (zl [1] 0 O)
  rintro ⟨A7,c7⟩;refine .cb h O (fun h=>?_) (fun h=>?_)
  ·refine .region<|.p O O<|.bd h fun x3 hx3 h=>.IB hx3 3 O fun b3 MP=>.ld MP 0 0 O<|.p O O<|.sb 4 2 O<|.bf [2,4] [0,1,1] 2 O O<|.seq<|.region<|.lb 0 0 O<|.sb 0 3 O<|.bf [2] [0] 1 O O ?_;cases h;exact .rt O Tryz.results102 (.cell O (.head _) O .nil) O ⟨A7,c7,O,O⟩ (zk 2 2 [2] [2] 0 O)
  refine .sk<|.pf [2,4] [0,0,0] 1 O O<|.seq<|.region<|.lb 0 1 O<|.sb 0 3 O<|.bf [2] [0,0] 1 O O ?_;cases h;exact .rt O Tryz.results102 (.cell O (.head _) O .nil) O ⟨A7,c7,O,O⟩ (zk 2 2 [2] [2] 0 O)
theorem yh:BX Tryz.prog 42:=en Tryz.func42 (by kernel_rfl)
def xK [AP] (DJ:yS) (most:Int):Option (yS × (List yX)):=
 bnd (zP DJ (wrap .i64 (most+1))) fun r1=>bnd (yC (τ:=List yX × List Int × Int) (fun (s1:List yX × Int × List Int × Int)=>bif decide (s1.2.1>0) then (bnd (pN (⟨s1.2.2.1,s1.2.2.2⟩:yS)) fun r2=>bnd (app 80 s1.1 [r2.2]) fun l1=>some (.next (l1,wrap .i64 (s1.2.1 - 1),r2.1.L,r2.1.At))) else (some (.done (s1.1,s1.2.2.1,s1.2.2.2)))) ([],r1.2,r1.1.L,r1.1.At)) fun o1=>some ((⟨o1.2.1,o1.2.2⟩:yS),o1.1)
theorem uG [AP] {DJ most A1 c1 AZ r} (h:xK DJ most=some r):
    BA Tryz.prog 42 [.pointer (some ⟨AZ,0,none⟩), .int .i64 most] [.ro (AV AQ A1 c1 DJ.L), .res (Box AZ 127 [.slice A1 DJ.L.length c1, .int .i64 DJ.At])] (fun v F=>∃ A2 c2 A3 c3,v= .slice A3 r.2.length c3∧F= [.ro (AV AQ A2 c2 r.1.L), .res (Box AZ 127 [.slice A2 r.1.L.length c2, .int .i64 r.1.At]), .res (zI zS 123 A3 c3 r.2)]):=by
 refine BA.intro Tryz.func42 O O O fun w R=>?_;refine .ab [0,1] O<|.ae O<|.seq<|.a 3 O<|.bd h fun r1 hr1 h=>.cr 3 [1] [1] 0 (zO hr1) uS O fun A2 c2=>.bf [0,5,6] [0,0] 1 O O<|.AY (fun _ w=>w.HY zS 123)<|.bd h fun o1 hl1 h=>.DV 3 (fun (e2:Option Addr × Nat × Option Addr × Nat)=>[.s 5 (.slice e2.1 o1.1.length e2.2.1)]) (fun e2=>[.ro (AV AQ e2.2.2.1 e2.2.2.2 o1.2.1), .res (zI zS 123 e2.1 e2.2.1 o1.1), .res (Box AZ 127 [.slice e2.2.2.1 o1.2.1.length e2.2.2.2, .int .i64 o1.2.2])]) O O ?_ ?_
 ·refine .block<|.BM hl1 3 (fun (s1:List yX × Int × List Int × Int) (e1:Option Addr × Nat × Option Addr × Nat)=>[0, .s 5 (.slice e1.1 s1.1.length e1.2.1), .s 6 (.int .i64 s1.2.1)]) (fun s1 e1=>[.ro (AV AQ e1.2.2.1 e1.2.2.2 s1.2.2.1), .res (zI zS 123 e1.1 e1.2.1 s1.1), .res (Box AZ 127 [.slice e1.2.2.1 s1.2.2.1.length e1.2.2.2, .int .i64 s1.2.2.2])]) O O (none,0,A2,c2) (zb O) (zl [1] 0 O) ?_;rintro s1 ⟨A3,c3,A4,c4⟩ st1 hm1 hd1 h1;refine .seq<|.ab [0,5,6,12] O<|.cb h1 O (fun h1=>?_) (fun h1=>?_)
  ·refine .sk<|.pr [0,5,6] O<|.seq<|.block<|.region<|.n 2 O<|.bd h1 fun r2 hr2 h1=>.cr 4 [1] [2] 0 (zBZ hr2) zTL O fun A7 c7=>.bS O fun g1=>.bd h1 fun l1 hl1 h1=>.app (E:=zS) hl1 O O O (CS 4 O) O O O O O O O O (iV (.head _) O O) O O fun A8 c8=>.p O O<|.done<|.BL<|.AO<|.pf [0,5,6] [0,1,1] 2 O O<|.region ?_;cases h1;exact .be O<|.ag (A8,c8,A7,c7) hm1 O (zl [1] 0 O)
  refine .xq O ?_;cases h1;cases hd1 _ rfl
  exact .AO<|.hE (A3,c3,A4,c4) O zw
 rintro ⟨A5,c5,A6,c6⟩;refine .ab [4] O ?_;cases h;exact .rv O O ⟨A6,c6,A5,c5,O,O⟩ (zk 3 1 [2] [2,1] 0 O)
theorem yj:BX Tryz.prog 43:=en Tryz.func43 (by kernel_rfl)
def tB [AP] (DU:Int) (size:Int):Option ((Option yD) × Int):=
 bnd ((bif decide (DU<1) then (some true) else (bif decide (DU>16) then (some true) else (bif decide (size<64) then (some true) else (some (decide (size>1024))))):Option Bool)) fun o1=>bif o1 then (some (none,2)) else (bnd (mkS 8 0 DU DU) fun l1=>bnd (yC (τ:=yD) (fun (s1:yD × Int)=>bif decide (s1.2<(wrap .i64 (DU*size))) then (bnd (app 1 s1.1.Data [255]) fun l2=>some (.next ((⟨s1.1.Size,l2,s1.1.DT,s1.1.Steps,s1.1.Left,s1.1.JL,s1.1.Down⟩:yD),wrap .i64 (s1.2+1)))) else (some (.done s1.1))) ((⟨size, [],l1,0,0,0,false⟩:yD),0)) fun o2=>some ((some o2),0))
theorem lM [AP] {DU size r} (h:tB DU size=some r):
    BA Tryz.prog 43 [.int .i64 DU, .int .i64 size] [] (VE r.1 (fun v F=>v= .tuple #[.pointer none, .int .i64 r.2]∧F= []) (fun q_ v F=>∃ g1 A1 c1 A2 c2,v= .tuple #[.pointer (some ⟨g1,0,none⟩), .int .i64 r.2]∧F= [.res (Box g1 187 (yG q_ A1 c1 A2 c2)), .res (zI AQ 5 A1 c1 q_.Data), .res (zI zU 3 A2 c2 q_.DT)])):=by
 refine BA.intro Tryz.func43 O O O fun w R=>?_;refine .ab [0,1] O<|.seq<|.seq<|.bd h fun o1 hj1 h=>.cu 0 [0,1, .s 21 (.bool o1)] [] O O ?_ ?_
 ·refine .region<|.n 3 O<|.gs 10 hj1 O (fun hj1=>?_) (fun hj1=>?_)
  ·cases hj1;exact .be O<|.hU O zw
  refine .n 4 O<|.gs 14 hj1 O (fun hj1=>?_) (fun hj1=>?_)
  ·cases hj1;exact .be O<|.hU O zw
  refine .n 4 O<|.gs 18 hj1 O (fun hj1=>?_) (fun hj1=>?_)
  ·cases hj1;exact .be O<|.hU O zw
  cases hj1;exact .be O<|.hU O zw
 refine .cb h O (fun h=>?_) (fun h=>?_)
 ·refine .ab [4,5] O ?_;cases h;exact .rv O O (wS ⟨O,O⟩) zw
 refine .sk<|.pr [0,1] O<|.a 2 O<|.bd h fun l1 hl1 h=>.UR (E:=zU) 0 hl1 O O O O O O O O O O fun g1=>.p O O<|.box O O fun g2=>.b [0,1,6] O<|.seq<|.ae O<|.AY (fun _ w=>w.HY AQ 5)<|.bd h fun o2 hl1 h=>.DV 3 (fun (e3:Option Addr × Nat × Option Addr × Nat)=>[6]) (fun e3=>[.res (zI zU 3 e3.2.2.1 e3.2.2.2 o2.DT), .res (zI AQ 5 e3.1 e3.2.1 o2.Data), .res (Box g2 187 (yG o2 e3.1 e3.2.1 e3.2.2.1 e3.2.2.2))]) O O ?_ ?_
 ·refine .block<|.BM hl1 3 (fun (s1:yD × Int) (e2:Option Addr × Nat × Option Addr × Nat)=>[0,1,6, .s 7 (.int .i64 s1.2)]) (fun s1 e2=>[.res (zI zU 3 e2.2.2.1 e2.2.2.2 s1.1.DT), .res (zI AQ 5 e2.1 e2.2.1 s1.1.Data), .res (Box g2 187 (yG s1.1 e2.1 e2.2.1 e2.2.2.1 e2.2.2.2))]) O O (none,0,(some ⟨g1,0,none⟩),(Int.toNat DU)) (zb O) (zl [2] 0 O) ?_;rintro s1 ⟨A1,c1,A2,c2⟩ st1 hm1 hd1 h1;refine .seq<|.ab [0,1,6,7,31] O<|.cb h1 O (fun h1=>?_) (fun h1=>?_)
  ·refine .sk<|.pr [0,1,6,7] O<|.seq<|.block<|.region<|.n 4 O<|.lb 1 2 O<|.bS O fun g3=>.bd h1 fun l2 hl2 h1=>.app (E:=AQ) hl2 O O O (CS 2 O) O O O O O O O O (iV (.head _) O O) O O fun A5 c5=>.n 2 O<|.sb 1 3 O<|.done<|.BL<|.AO<|.pf [0,1,6,7] [0,0] 1 O O<|.region ?_;cases h1;exact .be O<|.ag (A5,c5,A2,c2) hm1 O (zl [2,1] 0 O)
  refine .xq O ?_;cases h1;cases hd1 _ rfl
  exact .AO<|.hE (A1,c1,A2,c2) O zw
 rintro ⟨A3,c3,A4,c4⟩;refine .ab [4,5] O ?_;cases h;exact .rv O O (mI ⟨g2,A3,c3,A4,c4,O,O⟩) (zl [2,1] 0 O)
theorem zTl:BX Tryz.prog 185:=en Tryz.func185 (by kernel_rfl)
def lT [AP] (BF:(List Int)):Option Int:=
 bnd (yC (τ:=Int) (fun (s1:Int × Int)=>bif decide (s1.2≥0) then (bnd (BP BF s1.2) fun x1=>some (.next (wrap .u64 ((wrap .u64 (256*s1.1))+(wrap .u64 x1)),wrap .i64 (s1.2 - 1)))) else (some (.done s1.1))) (0,wrap .i64 ((BF.length:Int) - 1))) fun o1=>some o1
theorem zGH [AP] {BF A1 c1 r} (h:lT BF=some r):
    BA Tryz.prog 185 [.slice A1 BF.length c1] [.ro (AV AQ A1 c1 BF)] (Val (.int .u64 r)):=by
 refine BA.intro Tryz.func185 O O O fun w R=>?_;refine .ab [0] O<|.ae O<|.seq<|.ab [0,3,4] O<|.bd h fun o1 hl1 h=>.cu 1 [.s 3 (.int .u64 o1)] [] O O ?_ ?_
 ·refine .block<|.BM hl1 0 (fun (s1:Int × Int) (e1:Unit)=>[0, .s 3 (.int .u64 s1.1), .s 4 (.int .i64 s1.2)]) (fun s1 e1=>[]) O O () (zb O) (fun _ w=>w) ?_;rintro s1 e1 st1 hm1 hd1 h1;refine .seq<|.ab [0,3,4,9] O<|.cb h1 O (fun h1=>?_) (fun h1=>?_)
  ·refine .sk<|.pr [0,3,4] O<|.seq<|.block<|.region<|.n 4 O<|.bd h1 fun x1 hx1 h1=>.IB hx1 0 O fun b1 DY=>.ld DY 0 0 O<|.n 3 O<|.done<|.BL<|.AO<|.pf [0,3,4] [] 1 O O<|.region ?_;cases h1;exact .be O<|.ag () hm1 O zw
  refine .xq O ?_;cases h1;cases hd1 _ rfl
  exact .AO<|.hU O (zl [] 1 O)
 refine .ab [2] O ?_;cases h;exact .rv O O ⟨O,O⟩ zw
theorem zQf:BX Tryz.prog 103:=en Tryz.func103 (by kernel_rfl)
def uU [AP] (BF:(List Int)):Option Int:=
 bnd (sub BF 0 4) fun l1=>bnd (lT l1) fun r1=>bnd ((bnd (BP BF 4) fun x1=>bif (x1 != 0) then (some true) else (bif decide ((wrap .i64 r1)<1) then (some true) else (some (decide ((wrap .i64 r1)>2147483648)))):Option Bool)) fun o1=>bif o1 then (some 0) else (some (wrap .i64 r1))
theorem fK [AP] {BF A1 c1 r} (h:uU BF=some r):
    BA Tryz.prog 103 [.slice A1 BF.length c1] [.ro (AV AQ A1 c1 BF)] (Val (.int .i64 r)):=by
 refine BA.intro Tryz.func103 O O O fun w R=>?_;refine .ab [0] O<|.a 1 O<|.bd h fun l1 hl1 h=>.sub (E:=(CY AQ)) O O (.head _) O O O O O O O hl1 fun A2 c2=>.bd h fun r1 hr1 h=>.cv [0] (zGH hr1) zTl O<|.bf [0,3] [] 1 O O<|.seq<|.seq<|.bd h fun o1 hj1 h=>.cu 1 [3, .s 19 (.bool o1)] [] O O ?_ ?_
 ·refine .region<|.p O O<|.bd hj1 fun x1 hx1 hj1=>.IB hx1 0 O fun b1 DY=>.ld DY 0 0 O<|.n 2 O<|.gs 12 hj1 O (fun hj1=>?_) (fun hj1=>?_)
  ·cases hj1;exact .be O<|.hU O (zl [] 2 O)
  refine .n 4 O<|.gs 16 hj1 O (fun hj1=>?_) (fun hj1=>?_)
  ·cases hj1;exact .be O<|.hU O (zl [] 2 O)
  cases hj1;exact .be O<|.hU O (zl [] 2 O)
 refine .cb h O (fun h=>?_) (fun h=>?_)
 ·refine .ab [2] O ?_;cases h;exact .rv O O ⟨O,O⟩ zw
 refine .sk<|.pr [3] O<|.ab [2] O ?_;cases h;exact .rv O O ⟨O,O⟩ zw
theorem I8:BX Tryz.prog 186:=en Tryz.func186 (by kernel_rfl)
def sD [AP] (BF:(List Int)):Option (List Int):=
 bnd (yC (τ:=List Int) (fun (s1:List Int × Int)=>bif decide (s1.2<(BF.length:Int)) then (bnd (BP BF s1.2) fun x1=>bnd (app 1 s1.1 [x1]) fun l1=>some (.next (l1,wrap .i64 (s1.2+1)))) else (some (.done s1.1))) ([],0)) fun o1=>some o1
theorem bU [AP] {BF A1 c1 r} (h:sD BF=some r):
    BA Tryz.prog 186 [.slice A1 BF.length c1] [.ro (AV AQ A1 c1 BF)] (fun v F=>∃ A2 c2,v= .slice A2 r.length c2∧F= [.res (zI AQ 5 A2 c2 r)]):=by
 refine BA.intro Tryz.func186 O O O fun w R=>?_;refine .ab [0] O<|.ae O<|.seq<|.ae O<|.AY (fun _ w=>w.HY AQ 5)<|.bd h fun o1 hl1 h=>.DV 2 (fun (e2:Option Addr × Nat)=>[.s 3 (.slice e2.1 o1.length e2.2)]) (fun e2=>[.res (zI AQ 5 e2.1 e2.2 o1)]) O O ?_ ?_
 ·refine .block<|.BM hl1 1 (fun (s1:List Int × Int) (e1:Option Addr × Nat)=>[0, .s 3 (.slice e1.1 s1.1.length e1.2), .s 4 (.int .i64 s1.2)]) (fun s1 e1=>[.res (zI AQ 5 e1.1 e1.2 s1.1)]) O O (none,0) (zb O) (fun _ w=>w) ?_;rintro s1 ⟨A2,c2⟩ st1 hm1 hd1 h1;refine .seq<|.ab [0,3,4,8] O<|.cb h1 O (fun h1=>?_) (fun h1=>?_)
  ·refine .sk<|.pr [0,3,4] O<|.seq<|.block<|.region<|.n 3 O<|.bd h1 fun x1 hx1 h1=>.IB hx1 1 O fun b1 DY=>.ld DY 0 0 O<|.bS O fun g1=>.bd h1 fun l1 hl1 h1=>.app (E:=AQ) hl1 O O O (CS 2 O) O O O O O O O O (iV (.head _) O O) O O fun A4 c4=>.p O O<|.done<|.BL<|.AO<|.pf [0,3,4] [0] 2 O O<|.region ?_;cases h1;exact .be O<|.ag (A4,c4) hm1 O zw
  refine .xq O ?_;cases h1;cases hd1 _ rfl
  exact .AO<|.hE (A2,c2) O (zl [0] 1 O)
 rintro ⟨A3,c3⟩;refine .ab [2] O ?_;cases h;exact .rv O O ⟨A3,c3,O,O⟩ zw
theorem zQV:BX Tryz.prog 187:=en Tryz.func187 (by kernel_rfl)
def qM [AP] (BO:(List zD)) (JV:zD):Option (List zD):=
 bnd (yC (τ:=List zD × Bool) (fun (s1:List zD × Bool × Int)=>bif decide (s1.2.2<(BO.length:Int)) then (bnd ((bnd ((bif !s1.2.1 then (bnd (BP BO s1.2.2) fun x1=>some (decide (JV.Key<x1.Key))) else (some false):Option Bool)) fun o3=>bif o3 then (bnd (app 40 s1.1 [JV]) fun l1=>some (l1,true)) else (some (s1.1,s1.2.1)):Option (List zD × Bool))) fun o2=>bnd (BP BO s1.2.2) fun x2=>bif (x2.Key != JV.Key) then (bnd (app 40 o2.1 [x2]) fun l2=>some (.next (l2,o2.2,wrap .i64 (s1.2.2+1)))) else (bif !o2.2 then (bnd (app 40 o2.1 [JV]) fun l3=>some (.next (l3,true,wrap .i64 (s1.2.2+1)))) else (some (.next (o2.1,o2.2,wrap .i64 (s1.2.2+1)))))) else (some (.done (s1.1,s1.2.1)))) ([],JV.Delete,0)) fun o1=>bif !o1.2 then (bnd (app 40 o1.1 [JV]) fun l4=>some l4) else (some o1.1)
theorem zBH [AP] {BO JV A1 c1 A2 c2 r} (h:qM BO JV=some r):
    BA Tryz.prog 187 [.slice A1 BO.length c1, .agg #[.int .u8 JV.Key, .slice A2 JV.Value.length c2, .bool JV.Delete]] [.ro (Sl (zT zJ) A1 c1 BO), .ro (AV AQ A2 c2 JV.Value)] (fun v F=>∃ A3 c3,v= .slice A3 r.length c3∧F= [.res (yU (zT zJ) 107 A3 c3 r)]):=by
 refine BA.intro Tryz.func187 O O O fun w R=>?_;refine .seq<|.region<|.box O O fun g1=>.b [0,3] O<|.ae O<|.a 1 O<|.lb 2 0 O<|.b [0,3,5,6] O<|.seq<|.ae O<|.AY (fun _ w=>w.MK (zT zJ) 107)<|.bd h fun o1 hl1 h=>.DV 3 (fun (e2:Option Addr × Nat)=>[3, .s 5 (.slice e2.1 o1.1.length e2.2), .s 6 (.bool o1.2)]) (fun e2=>[.res (yU (zT zJ) 107 e2.1 e2.2 o1.1),1]) O O ?_ ?_
 ·refine .block<|.BM hl1 1 (fun (s1:List zD × Bool × Int) (e1:Option Addr × Nat)=>[0,3, .s 5 (.slice e1.1 s1.1.length e1.2), .s 6 (.bool s1.2.1), .s 7 (.int .i64 s1.2.2)]) (fun s1 e1=>[.res (yU (zT zJ) 107 e1.1 e1.2 s1.1)]) O O (none,0) (zb O) (fun _ w=>w) ?_;rintro s1 ⟨A3,c3⟩ st1 hm1 hd1 h1;refine .seq<|.ab [0,3,5,6,7,13] O<|.cb h1 O (fun h1=>?_) (fun h1=>?_)
  ·refine .sk<|.pr [0,3,5,6,7] O<|.seq<|.block<|.seq<|.bd h1 fun o2 hj1 h1=>.DV 1 (fun (e3:Option Addr × Nat)=>[0,3, .s 5 (.slice e3.1 o2.1.length e3.2), .s 6 (.bool o2.2),7]) (fun e3=>[.res (yU (zT zJ) 107 e3.1 e3.2 o2.1)]) O O ?_ ?_
   ·refine .seq<|.bd hj1 fun o3 hj2 hj1=>.cu 0 [0,3,5,6,7, .s 27 (.bool o3)] [] O O ?_ ?_
    ·refine .regionF mixed (by kernel_rfl)<|.n 3 O<|.gs 18 hj2 O (fun hj2=>?_) (fun hj2=>?_)
     ·refine .n 1 O<|.BN O O<|.lb 0 1 O<|.n 2 O<|.BN O O<|.bd hj2 fun x1 hx1 hj2=>.KY hx1 2 O fun b1 DY FC=>?_;obtain ⟨⟨A6,c6⟩,_⟩:=FC;refine .nm 6 O<|.n 1 O<|.BN O O<|.ld DY 0 0 O ?_;cases hj2;exact .beq O<|.hU O (zl [] 2 O)
     cases hj2;exact .beq O<|.hU O zw
    refine .cb hj1 O (fun hj1=>?_) (fun hj1=>?_)
    ·refine .a 1 O<|.lb 0 1 O<|.bS O fun g2=>.bd hj1 fun l1 hl1 hj1=>.LW (E:=(zT zJ)) hl1 O O O (.s .z) O O O O O O O O (cV (ls:=zJ) [(JV,((A2,c2),()))] (.head _) O O O ⟨(zm 4 O),trivial⟩) O O fun A7 c7=>.bf [0,3,5,7] [0] 1 O O<|.region ?_;cases hj1;exact .be O<|.hE (A7,c7) O zw
    cases hj1;exact .sk<|.hE (A3,c3) O zw
   rintro ⟨A5,c5⟩;refine .seq<|.seq<|.regionF mixed (by kernel_rfl)<|.n 2 O<|.bd h1 fun x2 hx2 h1=>.KY hx2 2 O fun b2 JD JQ=>?_;obtain ⟨⟨A8,c8⟩,_⟩:=JQ;refine .nm 6 O<|.p O O<|.ld JD 0 0 O<|.p O O<|.lb 0 3 O<|.beq O<|.pf [0,3,5,6,7,39] [] 2 O O<|.cb h1 O (fun h1=>?_) (fun h1=>?_)
   ·refine .a 3 O<|.KY hx2 2 O fun b3 MP MX=>?_;obtain ⟨⟨A9,c9⟩,_⟩:=MX;refine .nm 6 O<|.ld MP 0 0 O<|.bS O fun g3=>.bd h1 fun l2 hl2 h1=>.LW (E:=(zT zJ)) hl2 O O O (CS 3 O) O O O O O O O O (cV (ls:=zJ) [(x2,((A9,c9),()))] (.head _) O O O ⟨(zm 2 O),trivial⟩) O O fun EC c10=>.bf [0,3,5,6,7] [0] 3 O O<|.xq O<|.AO<|.region ?_;cases h1;exact .be O<|.ag (EC,c10) hm1 O zw
   refine .sk<|.pr [0,3,5,6,7] O<|.ab [0,3,5,6,7,48] O<|.cb h1 O (fun h1=>?_) (fun h1=>?_)
   ·refine .a 1 O<|.lb 0 1 O<|.bS O fun g4=>.bd h1 fun l3 hl3 h1=>.LW (E:=(zT zJ)) hl3 O O O (.s .z) O O O O O O O O (cV (ls:=zJ) [(JV,((A2,c2),()))] (.head _) O O O ⟨(zm 4 O),trivial⟩) O O fun EW c11=>.bf [0,3,5,7] [0] 1 O O<|.region<|.p O O<|.done<|.BL<|.AO<|.region ?_;cases h1;exact .be O<|.ag (EW,c11) hm1 O zw
   refine .skip<|.BL<|.AO<|.pr [0,3,5,6,7] O<|.region ?_;cases h1;exact .be O<|.ag (A5,c5) hm1 O zw
  refine .xq O ?_;cases h1;cases hd1 _ rfl
  exact .AO<|.hE (A3,c3) O (zl [0,0] 1 O)
 rintro ⟨A4,c4⟩;refine .seq<|.ab [3,5,54] O<|.cb h O (fun h=>?_) (fun h=>?_)
 ·refine .region<|.p O O<|.lb 0 1 O<|.bS O fun g5=>.bd h fun l4 hl4 h=>.LW (E:=(zT zJ)) hl4 O O O (.s .z) O O O O O O O O (cV (ls:=zJ) [(JV,((A2,c2),()))] (.head _) O O O ⟨(zm 3 O),trivial⟩) O O fun FX c12=>.bf [5] [0] 3 O O<|.ab [4] O ?_;cases h;exact .rv O O ⟨FX,c12,O,O⟩ zw
 refine .sk<|.pf [5] [0] 2 O O<|.ab [4] O ?_;cases h;exact .rv O O ⟨A4,c4,O,O⟩ zw
theorem zTk:BX Tryz.prog 104:=en Tryz.func104 (by kernel_rfl)
def uZ [AP] (BF:(List Int)) (EX:Nat) (FD:Nat) (FB:(List zD)):Option ((List zD) × Int × Bool):=
 bnd ((bif ((FD:Int)==0) then (some true) else (bnd (gM BF EX FD 0) fun x1=>bif decide (x1<1) then (some true) else (bnd (gM BF EX FD 0) fun x2=>some (decide (x2>32)))):Option Bool)) fun o1=>bif o1 then (some ([],0,false)) else (bnd (yC (τ:=((List zD) × Int × Bool) ⊕ (List zD × Int)) (fun (s1:List zD × Int × Int)=>bnd (gM BF EX FD 0) fun x3=>bif decide (s1.2.2<(wrap .i64 x3)) then (bif decide ((wrap .i64 ((FD:Int) - s1.2.1))<2) then (some (.done (.inl ([],0,false)))) else (bnd (gM BF EX FD s1.2.1) fun x4=>bnd (gM BF EX FD (wrap .i64 (s1.2.1+1))) fun x5=>bnd ((bif ((wrap .i64 x5)==128) then (some (0,true)) else (some (wrap .i64 x5,false)):Option (Int × Bool))) fun o4=>bnd ((bif decide (o4.1>28) then (some true) else (some (decide ((wrap .i64 ((FD:Int) - (wrap .i64 (s1.2.1+2))))<o4.1))):Option Bool)) fun o5=>bif o5 then (some (.done (.inl ([],0,false)))) else (bnd (iZ BF.length EX FD (wrap .i64 (s1.2.1+2)) (wrap .i64 ((wrap .i64 (s1.2.1+2))+o4.1))) fun n1=>bnd (sub BF ((EX+(Int.toNat (wrap .i64 (s1.2.1+2))):Nat):Int) (((EX+(Int.toNat (wrap .i64 (s1.2.1+2))))+n1:Nat):Int)) fun l1=>bnd (sD l1) fun r1=>bnd (qM s1.1 (⟨x4,r1,o4.2⟩:zD)) fun r2=>some (.next (r2,wrap .i64 ((wrap .i64 (s1.2.1+2))+o4.1),wrap .i64 (s1.2.2+1)))))) else (some (.done (.inr (s1.1,s1.2.1))))) (FB,1,0)) fun o2=>xL o2 fun o3=>bnd ((bif decide (o3.2≥(FD:Int)) then (some true) else (bnd (gM BF EX FD o3.2) fun x6=>bif (x6 != 0) then (some true) else (some (decide ((o3.1.length:Int)>32)))):Option Bool)) fun o6=>bif o6 then (some ([],0,false)) else (some (o3.1,wrap .i64 (o3.2+1),true)))
theorem zAt [AP] {BF EX FD FB A1 c1 A3 c3 A2 c2 r} (hp0:iY A2 c2 A1 c1 EX 1) (h:uZ BF EX FD FB=some r):
    BA Tryz.prog 104 [.slice A2 FD c2, .slice A3 FB.length c3] [.ro (Sl (zT zJ) A3 c3 FB), .res (zI AQ 5 A1 c1 BF)] (fun v F=>∃ A4 c4,v= .tuple #[.slice A4 r.1.length c4, .int .i64 r.2.1, .bool r.2.2]∧F= [.ro (Sl (zT zJ) A4 c4 r.1), .res (zI AQ 5 A1 c1 BF)]):=by
 refine BA.intro Tryz.func104 O O O fun w R=>?_;refine .ab [0,1] O<|.seq<|.seq<|.bd h fun o1 hj1 h=>.cu 0 [0,1, .s 25 (.bool o1)] [] O O ?_ ?_
 ·refine .region<|.n 4 O<|.gs 14 hj1 O (fun hj1=>?_) (fun hj1=>?_)
  ·cases hj1;exact .be O<|.hU O zw
  refine .n 1 O<|.BN O O<|.bd hj1 fun x1 hx1 hj1=>.QH (E:=AQ) hp0 hx1 O O O EO O O O O fun g1 hA=>?_;subst hA;refine .BN O O<|.MJ 0 (bY hx1) O O EO O O<|.n 3 O<|.gs 20 hj1 O (fun hj1=>?_) (fun hj1=>?_)
  ·cases hj1;exact .be O<|.hU O zw
  refine .n 1 O<|.BN O O<|.bd hj1 fun x2 hx2 hj1=>.QH (E:=AQ) hp0 hx2 O O O EO O O O O fun g2 hA=>?_;cases hA;refine .BN O O<|.MJ 0 (bY hx2) O O EO O O ?_;cases hj1;exact .be O<|.hU O zw
 refine .cb h O (fun h=>?_) (fun h=>?_)
 ·refine .EK [4,5,6] [] 1 O O<|.AY (fun _ w=>w.CU (zT zJ)) ?_;cases h;exact .rv O O ⟨none,0,O,O⟩ (zk 2 1 [1] [1] 0 O)
 refine .sk<|.pr [0,1] O<|.ae O<|.seq<|.ae O<|.bd h fun o2 hl1 h=>.ES 1 (fun (o3:List zD × Int) (e3:Option Addr × Nat)=>[0, .s 1 (.slice e3.1 o3.1.length e3.2), .s 7 (.int .i64 o3.2)]) (fun o3 e3=>[.ro (Sl (zT zJ) e3.1 e3.2 o3.1)]) O O (fun o3=>o2= .inr o3) ?_ ?_
 ·refine .block<|.BM hl1 1 (fun (s1:List zD × Int × Int) (e2:Option Addr × Nat)=>[0, .s 1 (.slice e2.1 s1.1.length e2.2), .s 7 (.int .i64 s1.2.1), .s 8 (.int .i64 s1.2.2)]) (fun s1 e2=>[.ro (Sl (zT zJ) e2.1 e2.2 s1.1)]) O O (A3,c3) (zb O) (fun _ w=>w) ?_;rintro s1 ⟨A4,c4⟩ st1 hm1 hd1 h1;refine .seq<|.a 2 O<|.bd h1 fun x3 hx3 h1=>.QH (E:=AQ) hp0 hx3 O O O EO O O O O fun g3 hA=>?_;subst hA;refine .MJ 0 (bY hx3) O O EO O O<|.b [0,1,7,8,31] O<|.cb h1 O (fun h1=>?_) (fun h1=>?_)
  ·refine .sk<|.pr [0,1,7,8] O<|.seq<|.block<|.seq<|.ab [0,1,7,8,38] O<|.cb h1 O (fun h1=>?_) (fun h1=>?_)
   ·refine .EK [4,5,6] [] 1 O O<|.AY (fun _ w=>w.CU (zT zJ)) ?_;cases h1;cases hd1 _ rfl
    have h:some _=some _:=h;cases h;exact .rv O O ⟨none,0,O,O⟩ (zk 2 1 [1] [1] 0 O)
   refine .sk<|.pr [0,1,7,8] O<|.a 2 O<|.bd h1 fun x4 hx4 h1=>.QH (E:=AQ) hp0 hx4 O O O EO O O O O fun g4 hA=>?_;cases hA;refine .MJ 0 (bY hx4) O O EO O O<|.p O O<|.alloc O O fun g5=>.sb 0 0 O<|.b [0,1,7,8,9] O<|.a 3 O<|.bd h1 fun x5 hx5 h1=>.QH (E:=AQ) hp0 hx5 O O O (zm 2 O) O O O O fun g6 hA=>?_;cases hA;refine .MJ 0 (bY hx5) O O (zm 2 O) O O<|.b [0,1,7,8,9,10] O<|.ab [0,1,7,8,9,10] O<|.seq<|.bd h1 fun o4 hj2 h1=>.cu 1 [0,1,7,8,9, .s 10 (.int .i64 o4.1)] [.res (Box g5 107 [.int .u8 x4, .slice none 0 0, .bool o4.2])] O O ?_ ?_
   ·refine .ab [0,1,7,8,9,10,53] O<|.cb hj2 O (fun hj2=>?_) (fun hj2=>?_)
    ·refine .a 1 O<|.sb 2 0 O<|.b [0,1,7,8,9] O<|.region ?_;cases hj2;exact .be O<|.hU O zw
    cases hj2;exact .sk<|.hU O zw
   refine .seq<|.seq<|.bd h1 fun o5 hj3 h1=>.cu 0 [0,1,7,8,9,10, .s 64 (.bool o5)] [] O O ?_ ?_
   ·refine .region<|.n 3 O<|.gs 57 hj3 O (fun hj3=>?_) (fun hj3=>?_)
    ·cases hj3;exact .be O<|.hU O zw
    cases hj3;exact .be O<|.hU O zw
   refine .cb h1 O (fun h1=>?_) (fun h1=>?_)
   ·refine .EK [4,5,6] [] 2 O O<|.AY (fun _ w=>w.CU (zT zJ)) ?_;cases h1;cases hd1 _ rfl
    have h:some _=some _:=h;cases h;exact .rv O O ⟨none,0,O,O⟩ (zk 2 1 [1] [1] 0 O)
   refine .sk<|.pr [0,1,7,8,9,10] O<|.a 5 O<|.bd h1 fun n1 hn1 h1=>.ZC (E:=AQ) hp0 hn1 O O (zm 2 O) O O O O O O<|.bd h1 fun l1 hl1 h1=>?_;refine .ss 70 (mM hl1)<|.bd h1 fun r1 hr1 h1=>.TJ (bU hr1) I8 O O O O (mG.part (zNh hp0) hl1 (zm 2 O) mG.nil) (by rintro _ _ ⟨_,_,rfl,rfl⟩; exact ⟨zHV _ _ _ _ _,True.intro⟩) ?_;rintro _ _ ⟨A6,c6,rfl,rfl⟩;refine .nm 4 O<|.p O O<|.sb 1 1 O<|.b [0,1,7,8,9,10] O<|.ab [0,1,7,8,9] O<|.region<|.p O O<|.lb 0 0 O<|.AY (fun _ w=>(w.sl [1] 0 O).BU)<|.bd h1 fun r2 hr2 h1=>.cr 5 [2,0] [] 0 (zBH hr2) zQV O fun A7 c7=>.p O O<|.done<|.BL<|.AO<|.pf [0,1,7,8] [0] 3 O O<|.region<|.n 3 O<|.done<|.AY (fun _ w=>w.IJ) ?_;cases h1;exact .AO<|.ag (A7,c7) hm1 O zw
  refine .xq O ?_;cases h1;cases hd1 _ rfl
  exact .AO<|.CZ (s1.1,s1.2.1) (A4,c4) O (zb O) zw
 rintro o3 ⟨A5,c5⟩ ho;subst ho;have h:=JG h;refine .seq<|.seq<|.bd h fun o6 FZ h=>.cu 0 [1,7, .s 94 (.bool o6)] [] O O ?_ ?_
 ·refine .region<|.n 5 O<|.gs 83 FZ O (fun FZ=>?_) (fun FZ=>?_)
  ·cases FZ;exact .be O<|.hU O zw
  refine .n 2 O<|.BN O O<|.bd FZ fun x6 hx6 FZ=>.QH (E:=AQ) hp0 hx6 O O O EO O O O O fun g7 hA=>?_;subst hA;refine .BN O O<|.MJ 0 (bY hx6) O O EO O O<|.n 3 O<|.gs 90 FZ O (fun FZ=>?_) (fun FZ=>?_)
  ·cases FZ;exact .be O<|.hU O zw
  cases FZ;exact .be O<|.hU O zw
 refine .cb h O (fun h=>?_) (fun h=>?_)
 ·refine .EK [4,5,6] [] 1 O O<|.AY (fun _ w=>w.CU (zT zJ)) ?_;cases h;exact .rv O O ⟨none,0,O,O⟩ (zk 2 1 [1] [1] 0 O)
 refine .sk<|.pr [1,7] O<|.ab [4,5,6] O ?_;cases h;exact .rv O O ⟨A5,c5,O,O⟩ (zk 2 1 [1] [1] 0 O)
theorem ku:BX Tryz.prog 44:=en Tryz.func44 (by kernel_rfl)
def vH [AP] (CG:yD) (first:Int):Option (yD × (Option zH) × Int):=
 bnd ((bif decide (first<0) then (some true) else (some (decide (first≥(wrap .i64 ((CG.DT.length:Int) - 1))))):Option Bool)) fun o1=>bif o1 then (some (CG,none,2)) else (bif decide (CG.Size<1024) then (some (CG,none,3)) else (bif CG.Down then (some (CG,none,10)) else (bnd ((bnd (tD CG.Data.length (wrap .i64 ((wrap .i64 (first+0))*CG.Size)) (wrap .i64 ((wrap .i64 ((wrap .i64 (first+0))+1))*CG.Size))) fun n1=>bnd (sub CG.Data ((Int.toNat (wrap .i64 ((wrap .i64 (first+0))*CG.Size)):Nat):Int) (((Int.toNat (wrap .i64 ((wrap .i64 (first+0))*CG.Size)))+n1:Nat):Int)) fun l1=>bnd (uU l1) fun r1=>bif decide (r1>0) then (some (⟨true,first,0,r1, [],0,false⟩:zH)) else (some (⟨true,first,(-1),0, [],0,false⟩:zH)):Option zH)) fun o2=>bnd ((bnd (tD CG.Data.length (wrap .i64 ((wrap .i64 (first+1))*CG.Size)) (wrap .i64 ((wrap .i64 ((wrap .i64 (first+1))+1))*CG.Size))) fun n2=>bnd (sub CG.Data ((Int.toNat (wrap .i64 ((wrap .i64 (first+1))*CG.Size)):Nat):Int) (((Int.toNat (wrap .i64 ((wrap .i64 (first+1))*CG.Size)))+n2:Nat):Int)) fun l2=>bnd (uU l2) fun r2=>bif decide (r2>o2.Gen) then (some (⟨o2.F_,o2.First,1,r2,o2.Keys,o2.Tail,o2.KA⟩:zH)) else (some o2):Option zH)) fun o3=>bif decide (o3.Active<0) then (some (CG,(some o3),0)) else (bnd (tD CG.Data.length (wrap .i64 ((wrap .i64 (first+o3.Active))*CG.Size)) (wrap .i64 ((wrap .i64 ((wrap .i64 (first+o3.Active))+1))*CG.Size))) fun n3=>bnd (yC (τ:=(yD × (Option zH) × Int) ⊕ Unit) (fun (s1:zH)=>bnd (iZ CG.Data.length (Int.toNat (wrap .i64 ((wrap .i64 (first+o3.Active))*CG.Size))) n3 s1.Tail ((n3:Nat):Int)) fun n4=>bnd (uZ CG.Data ((Int.toNat (wrap .i64 ((wrap .i64 (first+o3.Active))*CG.Size)))+(Int.toNat s1.Tail)) n4 s1.Keys) fun r3=>bif !r3.2.2 then (some (.done (.inl (CG,(some s1),0)))) else (some (.next (⟨s1.F_,s1.First,s1.Active,s1.Gen,r3.1,wrap .i64 (s1.Tail+r3.2.1),s1.KA⟩:zH)))) (⟨o3.F_,o3.First,o3.Active,o3.Gen,o3.Keys,5,o3.KA⟩:zH)) fun o4=>xL o4 fun o5=>none))))
theorem pO [AP] {CG first A1 c1 A2 c2 AZ r} (h:vH CG first=some r):
    BA Tryz.prog 44 [.pointer (some ⟨AZ,0,none⟩), .int .i64 first] [.res (Box AZ 187 (yG CG A1 c1 A2 c2)), .res (zI AQ 5 A1 c1 CG.Data), .res (zI zU 3 A2 c2 CG.DT)] (VE r.2.1 (fun v F=>∃ A3 c3 A4 c4,v= .tuple #[.pointer none, .int .i64 r.2.2]∧F= [.res (Box AZ 187 (yG r.1 A3 c3 A4 c4)), .res (zI AQ 5 A3 c3 r.1.Data), .res (zI zU 3 A4 c4 r.1.DT)]) (fun q_ v F=>∃ g1 A3 c3 A4 c4 A5 c5,v= .tuple #[.pointer (some ⟨g1,0,none⟩), .int .i64 r.2.2]∧F= [.ro (Sl (zT zJ) A5 c5 q_.Keys), .res (Box AZ 187 (yG r.1 A3 c3 A4 c4)), .res (zI AQ 5 A3 c3 r.1.Data), .res (zI zU 3 A4 c4 r.1.DT), .res (Box g1 189 (yL q_ AZ A5 c5))])):=by
 refine BA.intro Tryz.func44 O O O fun w R=>?_;refine .ab [0,1] O<|.seq<|.seq<|.bd h fun o1 hj1 h=>.cu 0 [0,1, .s 25 (.bool o1)] [] O O ?_ ?_
 ·refine .region<|.n 3 O<|.gs 16 hj1 O (fun hj1=>?_) (fun hj1=>?_)
  ·cases hj1;exact .be O<|.hU O zw
  refine .n 4 O<|.BN O O<|.lb 2 0 O ?_;cases hj1;exact .be O<|.hU O zw
 refine .cb h O (fun h=>?_) (fun h=>?_)
 ·refine .ab [4,5] O ?_;cases h;exact .rv O O (wS ⟨A1,c1,A2,c2,O,O⟩) zw
 refine .sk<|.pr [0,1] O<|.seq<|.a 3 O<|.lb 0 0 O<|.b [0,1,30] O<|.cb h O (fun h=>?_) (fun h=>?_)
 ·refine .ab [4,5] O ?_;cases h;exact .rv O O (wS ⟨A1,c1,A2,c2,O,O⟩) zw
 refine .sk<|.pr [0,1] O<|.seq<|.a 3 O<|.lb 6 0 O<|.b [0,1,34] O<|.cb h O (fun h=>?_) (fun h=>?_)
 ·refine .ab [4,5] O ?_;cases h;exact .rv O O (wS ⟨A1,c1,A2,c2,O,O⟩) zw
 refine .sk<|.pr [0,1] O<|.a 3 O<|.box O O fun g1=>.b [0,1,6] O<|.seq<|.ae O<|.block<|.rounds 9<|.round<|.seq<|.ab [0,1,6,7,40] O<|.EP O<|.sk<|.pr [0,1,6,7] O<|.seq<|.bd h fun o2 hj2 h=>.DV 1 (fun (e2:Option Addr × Nat)=>[0,1,6,7]) (fun e2=>[.ro (Sl (zT zJ) e2.1 e2.2 o2.Keys), .res (Box g1 189 (yL o2 AZ e2.1 e2.2))]) O O ?_ ?_
 ·refine .block<|.seq<|.regionF mixed (by kernel_rfl)<|.n 3 O<|.lb 1 1 O<|.n 6 O<|.lb 0 1 O<|.n 8 O<|.lb 0 1 O<|.p O O<|.bd hj2 fun n1 hn1 hj2=>.part (E:=AQ) hn1 O O (zm 2 O) O O O O O O O<|.bq [0,1,6,7,8] O<|.a 1 O<|.bd hj2 fun l1 hl1 hj2=>?_;refine .ss 8 (mM hl1) ?_;refine .ss 65 (mM hl1)<|.bd hj2 fun r1 hr1 hj2=>.OV (fK hr1) zQf O O O O (mG.part kQ hl1 (zm 2 O) mG.nil)<|.b [0,1,6,7,9] O<|.a 4 O<|.lb 3 0 O<|.b [0,1,6,7,9,72] O<|.cb hj2 O (fun hj2=>?_) (fun hj2=>?_)
  ·refine .a 4 O<|.sb 2 0 O<|.b [0,1,6,7,9] O<|.region<|.n 4 O<|.sb 3 0 O<|.done<|.BL<|.AY (fun _ w=>w.CU (zT zJ)) ?_;cases hj2;exact .AO<|.hE (none,0) O zw
  refine .skip<|.BL<|.AY (fun _ w=>w.CU (zT zJ)) ?_;cases hj2;exact .AO<|.hE (none,0) O zw
 rintro ⟨A3,c3⟩;refine .region<|.be O<|.round<|.pr [0,1,6,7] O<|.seq<|.ab [0,1,6,7,40] O<|.EP O<|.sk<|.pr [0,1,6,7] O<|.seq<|.bd h fun o3 hj3 h=>.DV 2 (fun (e3:Option Addr × Nat)=>[0,1,6,7]) (fun e3=>[.ro (Sl (zT zJ) e3.1 e3.2 o3.Keys), .res (Box g1 189 (yL o3 AZ e3.1 e3.2))]) O O ?_ ?_
 ·refine .block<|.seq<|.regionF mixed (by kernel_rfl)<|.n 3 O<|.lb 1 2 O<|.n 6 O<|.lb 0 2 O<|.n 8 O<|.lb 0 2 O<|.p O O<|.bd hj3 fun n2 hn2 hj3=>.part (E:=AQ) hn2 O O (zm 3 O) O O O O O O O<|.bq [0,1,6,7,8] O<|.a 1 O<|.bd hj3 fun l2 hl2 hj3=>?_;refine .ss 8 (mM hl2) ?_;refine .ss 65 (mM hl2)<|.bd hj3 fun r2 hr2 hj3=>.OV (fK hr2) zQf O O O O (mG.part kQ hl2 (zm 3 O) mG.nil)<|.b [0,1,6,7,9] O<|.a 4 O<|.lb 3 1 O<|.b [0,1,6,7,9,72] O<|.cb hj3 O (fun hj3=>?_) (fun hj3=>?_)
  ·refine .a 4 O<|.sb 2 1 O<|.b [0,1,6,7,9] O<|.region<|.n 4 O<|.sb 3 0 O<|.done<|.BL ?_;cases hj3;exact .AO<|.hE (A3,c3) O (zl [1] 0 O)
  refine .skip<|.BL ?_;cases hj3;exact .AO<|.hE (A3,c3) O zw
 rintro ⟨A4,c4⟩;refine .region<|.be O<|.round<|.pr [0,1,6,7] O<|.seq<|.ab [0,1,6,7,40] O<|.FU O<|.xq O<|.AO<|.pr [0,1,6] O<|.seq<|.a 3 O<|.lb 2 1 O<|.b [0,1,6,85] O<|.cb h O (fun h=>?_) (fun h=>?_)
 ·refine .ab [4,5] O ?_;cases h;exact .rv O O (mI ⟨g1,A1,c1,A2,c2,A4,c4,O,O⟩) (zk 5 1 [4] [2,2,2,1] 0 O)
 refine .sk<|.pr [0,1,6] O<|.seq<|.regionF mixed (by kernel_rfl)<|.n 3 O<|.lb 1 2 O<|.n 4 O<|.lb 2 1 O<|.n 4 O<|.lb 0 2 O<|.n 5 O<|.lb 2 1 O<|.n 5 O<|.lb 0 2 O<|.p O O<|.bd h fun n3 hn3 h=>.part (E:=AQ) hn3 O O (zm 3 O) O O O O O O O<|.bq [6,10] O<|.a 3 O<|.sb 5 1 O<|.b [6,10] O<|.bd h fun o4 hl1 h=>.IV<|.ES 2 (fun (o5:Unit) (e5:Unit)=>[]) (fun o5 e5=>[]) O O (fun o5=>o4= .inr o5) ?_ ?_
 ·refine .block<|.BM hl1 2 (fun (s1:zH) (e4:Option Addr × Nat)=>[6,10]) (fun s1 e4=>[.ro (Sl (zT zJ) e4.1 e4.2 s1.Keys), .res (Box g1 189 (yL s1 AZ e4.1 e4.2))]) O O (A4,c4) (zb O) (zl [1] 0 O) ?_;rintro s1 ⟨A5,c5⟩ st1 hm1 hd1 h1;refine .block<|.seq<|.BI (iN [0,4,8,12,17,24,28,32,36,23,43,44,48,52,56,60,64,68] .nil) _ mixed (by kernel_rfl) zw<|.yn 4 O<|.yx 5 1 O<|.yn 3 O<|.yl 4 1 O<|.BV<|.bd h1 fun n4 hn4 h1=>.ZC (E:=AQ) kQ hn4 O O (zm 3 O) O O O O O O<|.xk zw<|.BV<|.bd h1 fun r3 hr3 h1=>.cr 6 [1] [3] 0 (zAt (zNh kQ) hr3) zTk O fun A6 c6=>.xk (zl [2,2,2] 1 O)<|.yn 7 O<|.CQ<|.AO<|.pr [6,10,11,12,13] O<|.seq<|.ab [6,10,11,12,134] O<|.cb h1 O (fun h1=>?_) (fun h1=>?_)
  ·refine .EK [4,5] [] 1 O O ?_;cases h1;cases hd1 _ rfl
   have h:some _=some _:=h;cases h;exact .rv O O (mI ⟨g1,A1,c1,A2,c2,A5,c5,O,O⟩) (zk 5 1 [4] [3,0,2,1] 0 O)
  refine .sk<|.pr [6,10,11,12] O<|.a 4 O<|.sb 4 3 O<|.bf [6,10,12] [0,0,0] 1 O O<|.region<|.n 3 O<|.lb 5 0 O<|.n 4 O<|.sb 5 0 O<|.done<|.BL ?_;cases h1;exact .AO<|.ag (A6,c6) hm1 O (zl [1,0,1] 0 O)
 rintro o5 e5 ho;subst ho;have h:=JG h;have h:none=some _:=h;cases h
theorem zTa:BX Tryz.prog 227:=en Tryz.func227 (by kernel_rfl)
def jV [AP] (BO:(List yX)):Option Bool:=
 bif decide ((BO.length:Int)>16) then (some false) else (bnd (yC (τ:=Bool ⊕ Unit) (fun (s1:Int)=>bif decide (s1<(BO.length:Int)) then (bnd ((bnd (BP BO s1) fun x1=>bnd (pQ x1.EL) fun r1=>bif !r1 then (some true) else (bnd (pQ x1.On) fun r2=>bif !r2 then (some true) else (bif (x1.EL.toList==x1.On.toList) then (some true) else (bnd (oG x1.From) fun r3=>bif !r3 then (some true) else (bnd (oG x1.At) fun r4=>some (!r4))))):Option Bool)) fun o3=>bif o3 then (some (.done (.inl false))) else (some (.next (wrap .i64 (s1+1))))) else (some (.done (.inr ())))) 0) fun o1=>xL o1 fun o2=>some true)
theorem zHe [AP] {BO A1 c1 r} (h:jV BO=some r):
    BA Tryz.prog 227 [.slice A1 BO.length c1] [.ro (AV zS A1 c1 BO)] (Val (.bool r)):=by
 refine BA.intro Tryz.func227 O O O fun w R=>?_;refine .ab [0] O<|.seq<|.ab [0,6] O<|.cb h O (fun h=>?_) (fun h=>?_)
 ·refine .EK [2] [] 1 O O ?_;cases h;exact .rv O O ⟨O,O⟩ zw
 refine .sk<|.pr [0] O<|.seq<|.ae O<|.bd h fun o1 hl1 h=>.ES 1 (fun (o2:Unit) (e2:Unit)=>[]) (fun o2 e2=>[]) O O (fun o2=>o1= .inr o2) ?_ ?_
 ·refine .block<|.BM hl1 0 (fun (s1:Int) (e1:Unit)=>[0, .s 3 (.int .i64 s1)]) (fun s1 e1=>[]) O O () (zb O) (fun _ w=>w) ?_;rintro s1 e1 st1 hm1 hd1 h1;refine .seq<|.ab [0,3,10] O<|.cb h1 O (fun h1=>?_) (fun h1=>?_)
  ·refine .sk<|.pr [0,3] O<|.seq<|.block<|.seq<|.bd h1 fun o3 hj1 h1=>.cu 0 [0,3, .s 59 (.bool o3)] [] O O ?_ ?_
   ·refine .regionF mixed (by kernel_rfl)<|.n 2 O<|.bd hj1 fun x1 hx1 hj1=>.IB hx1 0 O fun b1 DY=>.p O O<|.ld DY 0 0 O<|.bd hj1 fun r1 hr1 hj1=>.cv [] (gQ hr1) Sm O<|.n 2 O<|.gs 20 hj1 O (fun hj1=>?_) (fun hj1=>?_)
    ·cases hj1;exact .beq O<|.hU O (zl [] 1 O)
    refine .n 2 O<|.BN O O<|.IB hx1 1 O fun b2 JD=>.n 1 O<|.BN O O<|.ld JD 4 0 O<|.BN O O<|.bd hj1 fun r2 hr2 hj1=>.cv [] (gQ hr2) Sm O<|.n 3 O<|.gs 29 hj1 O (fun hj1=>?_) (fun hj1=>?_)
    ·cases hj1;exact .beq O<|.hU O (zl [] 2 O)
    refine .n 2 O<|.BN O O<|.IB hx1 2 O fun b3 MP=>.n 1 O<|.BN O O<|.ld MP 0 0 O<|.n 2 O<|.BN O O<|.IB hx1 3 O fun b4 TY=>.n 1 O<|.BN O O<|.ld TY 4 0 O<|.n 3 O<|.gs 42 hj1 O (fun hj1=>?_) (fun hj1=>?_)
    ·cases hj1;exact .beq O<|.hU O (zl [] 4 O)
    refine .n 2 O<|.BN O O<|.IB hx1 4 O fun b5 YD=>.n 1 O<|.BN O O<|.ld YD 1 0 O<|.BN O O<|.bd hj1 fun r3 hr3 hj1=>.cv [] (dN hr3) H7 O<|.n 3 O<|.gs 51 hj1 O (fun hj1=>?_) (fun hj1=>?_)
    ·cases hj1;exact .beq O<|.hU O (zl [] 5 O)
    refine .n 2 O<|.BN O O<|.IB hx1 5 O fun b6 ob6=>.n 1 O<|.BN O O<|.ld ob6 5 0 O<|.BN O O<|.bd hj1 fun r4 hr4 hj1=>.cv [] (dN hr4) H7 O ?_;cases hj1;exact .beq O<|.hU O (zl [] 6 O)
   refine .cb h1 O (fun h1=>?_) (fun h1=>?_)
   ·refine .EK [2] [] 1 O O ?_;cases h1;cases hd1 _ rfl
    have h:some _=some _:=h;cases h;exact .rv O O ⟨O,O⟩ zw
   refine .skip<|.BL<|.AO<|.pr [0,3] O<|.region ?_;cases h1;exact .be O<|.ag () hm1 O zw
  refine .xq O ?_;cases h1;cases hd1 _ rfl
  exact .AO<|.CZ () () O trivial (zl [] 1 O)
 rintro o2 e2 ho;subst ho;have h:=JG h;refine .ae O ?_;cases h;exact .rv O O ⟨O,O⟩ zw
theorem zUf:BX Tryz.prog 195:=en Tryz.func195 (by kernel_rfl)
def jW [AP] (BO:(List zB)) (needs:(List yX)):Option Int:=
 bnd ((bif decide ((BO.length:Int)<1) then (some true) else (some (decide ((BO.length:Int)>8))):Option Bool)) fun o1=>bif o1 then (some 2) else (bnd (yC (τ:=Int ⊕ Unit) (fun (s1:Int)=>bif decide (s1<(BO.length:Int)) then (bnd (BP BO s1) fun x1=>bnd (sL x1) fun r1=>bif !r1 then (some (.done (.inl 1))) else (bnd ((bif decide (s1>0) then (bnd (BP BO (wrap .i64 (s1 - 1))) fun x2=>some (!(Op.bytesLess x2.Name.toList x1.Name.toList))) else (some false):Option Bool)) fun o4=>bif o4 then (some (.done (.inl 7))) else (some (.next (wrap .i64 (s1+1)))))) else (some (.done (.inr ())))) 0) fun o2=>xL o2 fun o3=>bnd (jV needs) fun r2=>bif !r2 then (some 2) else (some 0))
theorem zGS [AP] {BO needs A1 c1 A2 c2 r} (h:jW BO needs=some r):
    BA Tryz.prog 195 [.slice A1 BO.length c1, .slice A2 needs.length c2] [.ro (Sl (zT zC) A1 c1 BO), .ro (AV zS A2 c2 needs)] (Val (.int .i64 r)):=by
 refine BA.intro Tryz.func195 O O O fun w R=>?_;refine .ab [0,1] O<|.seq<|.seq<|.bd h fun o1 hj1 h=>.cu 0 [0,1, .s 13 (.bool o1)] [] O O ?_ ?_
 ·refine .region<|.n 4 O<|.gs 9 hj1 O (fun hj1=>?_) (fun hj1=>?_)
  ·cases hj1;exact .be O<|.hU O zw
  cases hj1;exact .be O<|.hU O zw
 refine .cb h O (fun h=>?_) (fun h=>?_)
 ·refine .EK [4] [] 2 O O ?_;cases h;exact .rv O O ⟨O,O⟩ zw
 refine .sk<|.pr [0,1] O<|.seq<|.ae O<|.bd h fun o2 hl1 h=>.ES 1 (fun (o3:Unit) (e3:Unit)=>[1]) (fun o3 e3=>[]) O O (fun o3=>o2= .inr o3) ?_ ?_
 ·refine .block<|.BM hl1 0 (fun (s1:Int) (e2:Unit)=>[0,1, .s 5 (.int .i64 s1)]) (fun s1 e2=>[]) O O () (zb O) (fun _ w=>w) ?_;rintro s1 e2 st1 hm1 hd1 h1;refine .seq<|.ab [0,1,5,17] O<|.cb h1 O (fun h1=>?_) (fun h1=>?_)
  ·refine .sk<|.pr [0,1,5] O<|.seq<|.block<|.seq<|.a 2 O<|.bd h1 fun x1 hx1 h1=>.KY hx1 0 O fun b1 DY FC=>?_;obtain ⟨⟨A3,c3⟩,⟨⟨A4,c4⟩,_⟩⟩:=FC;refine .nm 5 O<|.ld DY 0 0 O<|.bd h1 fun r1 hr1 h1=>.cv [1,2] (mD hr1) Ej O<|.bf [0,1,5,25] [] 3 O O<|.cb h1 O (fun h1=>?_) (fun h1=>?_)
   ·refine .EK [4] [] 2 O O ?_;cases h1;cases hd1 _ rfl
    have h:some _=some _:=h;cases h;exact .rv O O ⟨O,O⟩ zw
   refine .sk<|.pr [0,1,5] O<|.seq<|.bd h1 fun o4 hj2 h1=>.cu 0 [0,1,5, .s 41 (.bool o4)] [] O O ?_ ?_
   ·refine .regionF mixed (by kernel_rfl)<|.n 3 O<|.gs 28 hj2 O (fun hj2=>?_) (fun hj2=>?_)
    ·refine .n 3 O<|.BN O O<|.bd hj2 fun x2 hx2 hj2=>.KY hx2 0 O fun b2 JD JQ=>?_;obtain ⟨⟨A5,c5⟩,⟨⟨A6,c6⟩,_⟩⟩:=JQ;refine .nm 5 O<|.n 1 O<|.BN O O<|.ld JD 0 0 O<|.n 2 O<|.BN O O<|.KY hx1 3 O fun b3 MP MX=>?_;obtain ⟨⟨A7,c7⟩,⟨⟨A8,c8⟩,_⟩⟩:=MX;refine .nm 8 O<|.n 1 O<|.BN O O<|.ld MP 0 0 O ?_;cases hj2;exact .beq O<|.hU O (zl [] 6 O)
    cases hj2;exact .beq O<|.hU O zw
   refine .cb h1 O (fun h1=>?_) (fun h1=>?_)
   ·refine .EK [4] [] 2 O O ?_;cases h1;cases hd1 _ rfl
    have h:some _=some _:=h;cases h;exact .rv O O ⟨O,O⟩ zw
   refine .skip<|.BL<|.AO<|.pr [0,1,5] O<|.region ?_;cases h1;exact .be O<|.ag () hm1 O zw
  refine .xq O ?_;cases h1;cases hd1 _ rfl
  exact .AO<|.CZ () () O (zb O) (zl [] 1 O)
 rintro o3 e3 ho;subst ho;have h:=JG h;refine .seq<|.a 1 O<|.bd h fun r2 hr2 h=>.cv [0] (zHe hr2) zTa O<|.bf [44] [] 1 O O<|.cb h O (fun h=>?_) (fun h=>?_)
 ·refine .ab [4] O ?_;cases h;exact .rv O O ⟨O,O⟩ zw
 refine .sk<|.pr [] O<|.ae O ?_;cases h;exact .rv O O ⟨O,O⟩ zw
theorem zQq:BX Tryz.prog 196:=en Tryz.func196 (by kernel_rfl)
def kI [AP] (BO:(List zB)):Option (List zB):=
 bnd (yC (τ:=List zB) (fun (s1:List zB × Int)=>bif decide (s1.2<(BO.length:Int)) then (bnd (BP BO s1.2) fun x1=>bnd (vG x1) fun r1=>bnd (app 184 s1.1 [r1]) fun l1=>some (.next (l1,wrap .i64 (s1.2+1)))) else (some (.done s1.1))) ([],0)) fun o1=>some o1
theorem zFZ [AP] {BO A1 c1 r} (h:kI BO=some r):
    BA Tryz.prog 196 [.slice A1 BO.length c1] [.ro (Sl (zT zC) A1 c1 BO)] (fun v F=>∃ A2 c2,v= .slice A2 r.length c2∧F= [.res (yU (zT zC) 64 A2 c2 r)]):=by
 refine BA.intro Tryz.func196 O O O fun w R=>?_;refine .ab [0] O<|.ae O<|.seq<|.ae O<|.AY (fun _ w=>w.MK (zT zC) 64)<|.bd h fun o1 hl1 h=>.DV 2 (fun (e2:Option Addr × Nat)=>[.s 3 (.slice e2.1 o1.length e2.2)]) (fun e2=>[.res (yU (zT zC) 64 e2.1 e2.2 o1)]) O O ?_ ?_
 ·refine .block<|.BM hl1 1 (fun (s1:List zB × Int) (e1:Option Addr × Nat)=>[0, .s 3 (.slice e1.1 s1.1.length e1.2), .s 4 (.int .i64 s1.2)]) (fun s1 e1=>[.res (yU (zT zC) 64 e1.1 e1.2 s1.1)]) O O (none,0) (zb O) (fun _ w=>w) ?_;rintro s1 ⟨A2,c2⟩ st1 hm1 hd1 h1;refine .seq<|.ab [0,3,4,8] O<|.cb h1 O (fun h1=>?_) (fun h1=>?_)
  ·refine .sk<|.pr [0,3,4] O<|.seq<|.block<|.region<|.n 3 O<|.bd h1 fun x1 hx1 h1=>.KY hx1 1 O fun b1 DY FC=>?_;obtain ⟨⟨A4,c4⟩,⟨⟨A5,c5⟩,_⟩⟩:=FC;refine .nm 5 O<|.ld DY 0 0 O<|.bd h1 fun r1 hr1 h1=>.ct 7 [1,2] [] 0 (sA hr1) bK O fun A6 c6 A7 c7=>.bS O fun g1=>.bd h1 fun l1 hl1 h1=>.LW (E:=(zT zC)) hl1 O O O (CS 6 O) O O O O O O O O (cV (ls:=zC) [(r1,((A6,c6),((A7,c7),())))] (.head _) O O O ⟨EO,(zm 2 O),trivial⟩) O O fun A8 c8=>.p O O<|.done<|.BL<|.AO<|.pf [0,3,4] [0] 6 O O<|.region ?_;cases h1;exact .be O<|.ag (A8,c8) hm1 O zw
  refine .xq O ?_;cases h1;cases hd1 _ rfl
  exact .AO<|.hE (A2,c2) O (zl [0] 1 O)
 rintro ⟨A3,c3⟩;refine .ab [2] O ?_;cases h;exact .rv O O ⟨A3,c3,O,O⟩ zw
theorem zUd:BX Tryz.prog 197:=en Tryz.func197 (by kernel_rfl)
def tK [AP] (AX:zH) (key:Int):Option ((List Int) × Bool):=
 bnd (yC (τ:=((List Int) × Bool) ⊕ Unit) (fun (s1:Int)=>bif decide (s1<(AX.Keys.length:Int)) then (bnd (BP AX.Keys s1) fun x1=>bif (x1.Key==key) then (bnd (sD x1.Value) fun r1=>some (.done (.inl (r1,true)))) else (some (.next (wrap .i64 (s1+1))))) else (some (.done (.inr ())))) 0) fun o1=>xL o1 fun o2=>some ([],false)
theorem zDi [AP] {AX key A1 c1 AZ BJ r} (h:tK AX key=some r):
    BA Tryz.prog 197 [.pointer (some ⟨AZ,0,none⟩), .int .u8 key] [.ro (Sl (zT zJ) A1 c1 AX.Keys), .res (Box AZ 189 (yL AX BJ A1 c1))] (fun v F=>∃ A2 c2,v= .tuple #[.slice A2 r.1.length c2, .bool r.2]∧F= [.res (Box AZ 189 (yL AX BJ A1 c1)), .res (zI AQ 5 A2 c2 r.1)]):=by
 refine BA.intro Tryz.func197 O O O fun w R=>?_;refine .ab [0,1] O<|.seq<|.ae O<|.bd h fun o1 hl1 h=>.ES 0 (fun (o2:Unit) (e2:Unit)=>[]) (fun o2 e2=>[]) O O (fun o2=>o1= .inr o2) ?_ ?_
 ·refine .block<|.BM hl1 0 (fun (s1:Int) (e1:Unit)=>[0,1, .s 6 (.int .i64 s1)]) (fun s1 e1=>[]) O O () (zb O) (fun _ w=>w) ?_;rintro s1 e1 st1 hm1 hd1 h1;refine .seq<|.a 4 O<|.lb 4 1 O<|.b [0,1,6,13] O<|.cb h1 O (fun h1=>?_) (fun h1=>?_)
  ·refine .sk<|.pr [0,1,6] O<|.seq<|.block<|.a 3 O<|.lb 4 1 O<|.p O O<|.bd h1 fun x1 hx1 h1=>.KY hx1 0 O fun b1 DY FC=>?_;obtain ⟨⟨A2,c2⟩,_⟩:=FC;refine .nm 4 O<|.p O O<|.ld DY 0 0 O<|.bf [0,1,6,25] [] 2 O O<|.cb h1 O (fun h1=>?_) (fun h1=>?_)
   ·refine .a 3 O<|.lb 4 1 O<|.p O O<|.KY hx1 0 O fun b2 JD JQ=>?_;obtain ⟨⟨A3,c3⟩,_⟩:=JQ;refine .nm 4 O<|.p O O<|.ld JD 1 0 O<|.bd h1 fun r1 hr1 h1=>.cr 5 [1] [] 0 (bU hr1) I8 O fun A4 c4=>.bf [4,5] [0] 2 O O ?_;cases h1;cases hd1 _ rfl
    have h:some _=some _:=h;cases h;exact .rv O O ⟨A4,c4,O,O⟩ (zl [2,0] 1 O)
   refine .skip<|.BL<|.AO<|.pr [0,1,6] O<|.region ?_;cases h1;exact .be O<|.ag () hm1 O zw
  refine .xq O ?_;cases h1;cases hd1 _ rfl
  exact .AO<|.CZ () () O trivial zw
 rintro o2 e2 ho;subst ho;have h:=JG h;refine .ae O<|.AY (fun _ w=>w.HY AQ 5) ?_;cases h;exact .rv O O ⟨none,0,O,O⟩ (zl [2,0] 1 O)
theorem zUb:BX Tryz.prog 198:=en Tryz.func198 (by kernel_rfl)
def uP [AP] (AL:zY) (DC:(List Int)):Option (zY × Bool):=
 bnd ((bif decide ((DC.length:Int)<2) then (some true) else (bnd (BP DC 0) fun x1=>bif (x1 != 2) then (some (x1 != 3)) else (some false)):Option Bool)) fun o1=>bif o1 then (some (AL,false)) else (bnd (BP DC 0) fun x2=>bnd (BP DC 1) fun x3=>bnd (yC (τ:=(zY × Bool) ⊕ List Int) (fun (s1:Int × List Int)=>bif decide (s1.1<(DC.length:Int)) then (bnd (BP DC s1.1) fun x4=>bif decide ((wrap .i64 x4)≥(AL.devices.length:Int)) then (some (.done (.inl ((⟨AL.store,AL.devices,AL.needs,wrap .i64 x2,AL.BH,wrap .i64 x3,s1.2⟩:zY),false)))) else (bnd (yC (τ:=(zY × Bool) ⊕ Unit) (fun (s2:Int)=>bif decide (s2<(s1.2.length:Int)) then (bnd (BP s1.2 s2) fun x5=>bif (x5==(wrap .i64 x4)) then (some (.done (.inl ((⟨AL.store,AL.devices,AL.needs,wrap .i64 x2,AL.BH,wrap .i64 x3,s1.2⟩:zY),false)))) else (some (.next (wrap .i64 (s2+1))))) else (some (.done (.inr ())))) 0) fun o4=>vz (fun r_=>(.done (.inl r_))) o4 fun o5=>bnd (app 8 s1.2 [wrap .i64 x4]) fun l1=>some (.next (wrap .i64 (s1.1+1),l1)))) else (some (.done (.inr s1.2)))) (2,AL.order)) fun o2=>xL o2 fun o3=>some ((⟨AL.store,AL.devices,AL.needs,wrap .i64 x2,AL.BH,wrap .i64 x3,o3⟩:zY),true))
theorem aV [AP] {AL DC A1 c1 A2 c2 A3 c3 A4 c4 A5 c5 A6 c6 AZ BJ r} (h:uP AL DC=some r):
    BA Tryz.prog 198 [.pointer (some ⟨AZ,0,none⟩), .slice A6 DC.length c6] [.ro (AV zS A2 c2 AL.needs), .ro (AV yW A3 c3 AL.BH.Have), .ro (AV AQ A4 c4 AL.BH.Data), .ro (AV AQ A6 c6 DC), .res (Box AZ 247 (yM AL BJ A1 c1 A2 c2 A3 c3 A4 c4 A5 c5)), .res (yU (zT zC) 64 A1 c1 AL.devices), .res (zI zU 3 A5 c5 AL.order)] (fun v F=>∃ A7 c7 A8 c8 A9 c9 EC c10 EW c11,v= .bool r.2∧F= [.ro (AV zS A8 c8 r.1.needs), .ro (AV yW A9 c9 r.1.BH.Have), .ro (AV AQ EC c10 r.1.BH.Data), .res (Box AZ 247 (yM r.1 BJ A7 c7 A8 c8 A9 c9 EC c10 EW c11)), .res (yU (zT zC) 64 A7 c7 r.1.devices), .res (zI zU 3 EW c11 r.1.order)]):=by
 refine BA.intro Tryz.func198 O O O fun w R=>?_;refine .ab [0,1] O<|.seq<|.seq<|.bd h fun o1 hj1 h=>.cu 0 [0,1, .s 22 (.bool o1)] [] O O ?_ ?_
 ·refine .region<|.n 4 O<|.gs 11 hj1 O (fun hj1=>?_) (fun hj1=>?_)
  ·cases hj1;exact .be O<|.hU O zw
  refine .n 1 O<|.BN O O<|.bd hj1 fun x1 hx1 hj1=>.IB hx1 3 O fun b1 DY=>.BN O O<|.ld DY 0 0 O<|.n 2 O<|.gs 16 hj1 O (fun hj1=>?_) (fun hj1=>?_)
  ·refine .n 1 O<|.BN O O<|.IB hx1 4 O fun b2 JD=>.BN O O<|.ld JD 0 0 O ?_;cases hj1;exact .be O<|.hU O (zl [] 2 O)
  cases hj1;exact .be O<|.hU O (zl [] 1 O)
 refine .cb h O (fun h=>?_) (fun h=>?_)
 ·refine .EK [4] [0,0,0] 1 O O ?_;cases h;exact .rv O O ⟨A1,c1,A2,c2,A3,c3,A4,c4,A5,c5,O,O⟩ (zk 6 3 [3,4,5] [3,3,3] 0 O)
 refine .sk<|.pr [0,1] O<|.seq<|.BI (iN [0,4,8,13,17,20,24,29,33,36,40,44,51,52,56,63] .nil) _ mixed (by kernel_rfl) (zl [0,0,0,0] 1 O)<|.yn 3 O<|.bd h fun x2 hx2 h=>.JZ (zm 3 O) hx2 fun b3 MP UB=>.AY (fun _ w=>Sat.JE UB (zm 3 O) hx2 w) ?_;have hc1:=fun w h=>Sat.JE UB (zm 3 O) hx2 ((fun (w:World) (h:Sat (.ro (AV zS A2 c2 AL.needs):: .ro (AV yW A3 c3 AL.BH.Have):: .ro (AV AQ A4 c4 AL.BH.Data):: .ro (AV AQ A6 c6 DC):: .res (yU (zT zC) 64 A1 c1 AL.devices):: .res (zI zU 3 A5 c5 AL.order)::R) w)=>h) w h);refine .JC (Rd.SY (E:=AQ) UB hx2 O O O O O O O) O<|.JC (Rd.load MP 0 O (.head _) O O) O<|.yn 2 O<|.bd h fun x3 hx3 h=>.JZ (zm 4 O) hx3 fun b4 TY kz=>.AY (fun _ w=>Sat.JE kz (zm 4 O) hx3 w) ?_;have hc2:=fun w h=>Sat.JE kz (zm 4 O) hx3 (hc1 w h);refine .JC (Rd.SY (E:=AQ) kz hx3 O O O O O O O) O<|.JC (Rd.load TY 0 O (.head _) O O) O<|.yn 3 O<|.BV<|.sb 3 6 O<|.xk (zl [] 3 O)<|.yn 2 O<|.BV<|.sb 8 0 O<|.xk (zl [] 3 O)<|.CQ<|.AO<|.pf [0,1] [0] 2 O O<|.seq<|.ae O<|.bd h fun o2 hl1 h=>.ES 7 (fun (o3:List Int) (e3:Option Addr × Nat)=>[]) (fun o3 e3=>[.res (zI zU 3 e3.1 e3.2 o3), .res (Box AZ 247 [.pointer (kR AL.store BJ), .slice A1 AL.devices.length c1, .slice A2 AL.needs.length c2, .int .i64 (wrap .i64 x2), .int .i64 AL.BH.Size, .int .i64 AL.BH.Part, .slice A3 AL.BH.Have.length c3, .slice A4 AL.BH.Data.length c4, .int .i64 (wrap .i64 x3), .slice e3.1 o3.length e3.2]),1,2,3,5]) O O (fun o3=>o2= .inr o3) ?_ ?_
 ·refine .block<|.BM hl1 7 (fun (s1:Int × List Int) (e2:Option Addr × Nat)=>[0,1, .s 5 (.int .i64 s1.1)]) (fun s1 e2=>[.res (zI zU 3 e2.1 e2.2 s1.2), .res (Box AZ 247 [.pointer (kR AL.store BJ), .slice A1 AL.devices.length c1, .slice A2 AL.needs.length c2, .int .i64 (wrap .i64 x2), .int .i64 AL.BH.Size, .int .i64 AL.BH.Part, .slice A3 AL.BH.Have.length c3, .slice A4 AL.BH.Data.length c4, .int .i64 (wrap .i64 x3), .slice e2.1 s1.2.length e2.2]),1,2,3,4,5]) O O (A5,c5) (zb O) (zl [6] 0 O) ?_;rintro s1 ⟨A7,c7⟩ st1 hm1 hd1 h1;refine .seq<|.ab [0,1,5,40] O<|.cb h1 O (fun h1=>?_) (fun h1=>?_)
  ·refine .sk<|.pr [0,1,5] O<|.seq<|.block<|.a 2 O<|.bd h1 fun x4 hx4 h1=>.IB hx4 5 O fun b5 YD=>.ld YD 0 0 O<|.bf [0,1,5,6] [] 1 O O<|.seq<|.a 4 O<|.lb 1 1 O<|.b [0,1,5,6,54] O<|.cb h1 O (fun h1=>?_) (fun h1=>?_)
   ·refine .EK [4] [0,0,0,0,0] 1 O O ?_;cases h1;cases hd1 _ rfl
    have h:some _=some _:=h;cases h;exact .rv O O ⟨A1,c1,A2,c2,A3,c3,A4,c4,A7,c7,O,O⟩ (zk 6 3 [3,4,5] [1,4] 0 O)
   refine .sk<|.pr [0,1,5,6] O<|.seq<|.ae O<|.bd h1 fun o4 hl2 h1=>.ES 0 (fun (o5:Unit) (e5:Unit)=>[0,1,5,6]) (fun o5 e5=>[]) O O (fun o5=>o4= .inr o5) ?_ ?_
   ·refine .block<|.BM hl2 0 (fun (s2:Int) (e4:Unit)=>[0,1,5,6, .s 7 (.int .i64 s2)]) (fun s2 e4=>[]) O O () (zb O) (fun _ w=>w) ?_;rintro s2 e4 st2 hm2 hd2 h2;refine .seq<|.a 4 O<|.lb 9 1 O<|.b [0,1,5,6,7,61] O<|.cb h2 O (fun h2=>?_) (fun h2=>?_)
    ·refine .sk<|.pr [0,1,5,6,7] O<|.seq<|.block<|.a 3 O<|.lb 9 1 O<|.p O O<|.bd h2 fun x5 hx5 h2=>.PW hx5 0 O fun g1 hA=>?_;subst hA;refine .MJ 0 hx5 O O (.head _) O O<|.b [0,1,5,6,7,72] O<|.cb h2 O (fun h2=>?_) (fun h2=>?_)
     ·refine .EK [4] [0,0,0,0,0] 1 O O ?_;cases h2;cases hd2 _ rfl
      have h1:some _=some _:=h1;cases h1;cases hd1 _ rfl
      have h:some _=some _:=h;cases h;exact .rv O O ⟨A1,c1,A2,c2,A3,c3,A4,c4,(some ⟨g1,0,none⟩),c7,O,O⟩ (zk 6 3 [3,4,5] [1,4] 0 O)
     refine .skip<|.BL<|.AO<|.pr [0,1,5,6,7] O<|.region ?_;cases h2;exact .be O<|.ag () hm2 O zw
    refine .xq O ?_;cases h2;cases hd2 _ rfl
    exact .AO<|.CZ () () O (zb O) zw
   rintro o5 e5 ho;subst ho;have h1:=zVn h1;refine .region<|.n 4 O<|.lb 9 1 O<|.p O O<|.bS O fun g2=>.bd h1 fun l1 hl1 h1=>.app (E:=zU) hl1 O O O (.s .z) O O O O O O O O (iV (.head _) O O) O O fun A9 c9=>.n 2 O<|.sb 9 2 O<|.done<|.BL<|.AO<|.pf [0,1,5] [0,0] 1 O O<|.region ?_;cases h1;exact .be O<|.ag (A9,c9) hm1 O (zl [1] 0 O)
  refine .xq O ?_;cases h1;cases hd1 _ rfl
  exact .AO<|.CZ s1.2 (A7,c7) O trivial (zl [0,0,0,0,0] 1 O)
 rintro o3 ⟨A8,c8⟩ ho;subst ho;have h:=JG h;refine .ae O ?_;cases h;exact .rv O O ⟨A1,c1,A2,c2,A3,c3,A4,c4,A8,c8,O,O⟩ (zk 6 3 [3,4,5] [1,4] 0 O)
theorem zTT:BX Tryz.prog 252:=en Tryz.func252 (by kernel_rfl)
def rD (AL:zY) (EI:Int):Option Bool:=
 bnd (BP AL.devices EI) fun x1=>bnd (WJ .i64 AL.mask (wrap .u64 EI)) fun q1=>some (x1.Active != (sN .i64 q1 1))
theorem aY {AL EI A1 c1 A2 c2 A3 c3 A4 c4 A5 c5 AZ BJ r} (h:rD AL EI=some r):
    BA Tryz.prog 252 [.pointer (some ⟨AZ,0,none⟩), .int .i64 EI] [.ro (AV zS A2 c2 AL.needs), .ro (AV yW A3 c3 AL.BH.Have), .ro (AV AQ A4 c4 AL.BH.Data), .ro (AV zU A5 c5 AL.order), .res (Box AZ 247 (yM AL BJ A1 c1 A2 c2 A3 c3 A4 c4 A5 c5)), .res (yU (zT zC) 64 A1 c1 AL.devices)] (fun v F=>v= .bool r∧F= [.res (Box AZ 247 (yM AL BJ A1 c1 A2 c2 A3 c3 A4 c4 A5 c5)), .res (yU (zT zC) 64 A1 c1 AL.devices)]):=by
 refine BA.intro Tryz.func252 O O O fun w R=>?_;refine .ab [0,1] O<|.seq<|.regionF mixed (by kernel_rfl)<|.n 3 O<|.lb 1 4 O<|.p O O<|.bd h fun x1 hx1 h=>.TR hx1 O O O (zm 5 O) O O O O O fun g1 hA=>?_;subst hA;refine .p O O<|.OI (ls:=zC) 13 (fun ex=>.int .i64 x1.Active) hx1 O O (zm 5 O) O (fun _=>O) fun FC=>?_;obtain ⟨⟨A6,c6⟩,⟨⟨A7,c7⟩,_⟩⟩:=FC;refine .nm 8 O<|.n 3 O<|.lb 8 6 O<|.n 2 O<|.bd h fun q1 hq1 h=>.shr O O O hq1<|.beq O<|.pf [4] [] 2 O O ?_;cases h;exact .rv O O ⟨O,O⟩ (zl [] 4 O)
theorem zUi:BX Tryz.prog 210:=en Tryz.func210 (by kernel_rfl)
def qU [AP] (AL:zY):Option Int:=
 bnd (yC (τ:=Int) (fun (s1:Int × Int)=>bif decide (s1.2<(AL.order.length:Int)) then (bnd (BP AL.order s1.2) fun x1=>bnd (rD AL x1) fun r1=>bif r1 then (some (.next (wrap .i64 (s1.1+1),wrap .i64 (s1.2+1)))) else (some (.next (s1.1,wrap .i64 (s1.2+1))))) else (some (.done s1.1))) (0,0)) fun o1=>some o1
theorem zBt [AP] {AL A1 c1 A2 c2 A3 c3 A4 c4 A5 c5 AZ BJ r} (h:qU AL=some r):
    BA Tryz.prog 210 [.pointer (some ⟨AZ,0,none⟩)] [.ro (AV zS A2 c2 AL.needs), .ro (AV yW A3 c3 AL.BH.Have), .ro (AV AQ A4 c4 AL.BH.Data), .ro (AV zU A5 c5 AL.order), .res (Box AZ 247 (yM AL BJ A1 c1 A2 c2 A3 c3 A4 c4 A5 c5)), .res (yU (zT zC) 64 A1 c1 AL.devices)] (fun v F=>v= .int .i64 r∧F= [.res (Box AZ 247 (yM AL BJ A1 c1 A2 c2 A3 c3 A4 c4 A5 c5)), .res (yU (zT zC) 64 A1 c1 AL.devices)]):=by
 refine BA.intro Tryz.func210 O O O fun w R=>?_;refine .ab [0] O<|.ae O<|.seq<|.ae O<|.bd h fun o1 hl1 h=>.cu 0 [.s 3 (.int .i64 o1)] [] O O ?_ ?_
 ·refine .block<|.BM hl1 0 (fun (s1:Int × Int) (e1:Unit)=>[0, .s 3 (.int .i64 s1.1), .s 4 (.int .i64 s1.2)]) (fun s1 e1=>[]) O O () (zb O) (fun _ w=>w) ?_;rintro s1 e1 st1 hm1 hd1 h1;refine .seq<|.a 4 O<|.lb 9 4 O<|.b [0,3,4,11] O<|.cb h1 O (fun h1=>?_) (fun h1=>?_)
  ·refine .sk<|.pr [0,3,4] O<|.seq<|.block<|.a 4 O<|.lb 9 4 O<|.p O O<|.bd h1 fun x1 hx1 h1=>.IB hx1 3 O fun b1 DY=>.ld DY 0 0 O<|.bd h1 fun r1 hr1 h1=>.cq 7 [3,4,5,6] [5,5] 0 (aY (AZ:=AZ) hr1) zTT O<|.bf [0,3,4,22] [0,0] 1 O O<|.cb h1 O (fun h1=>?_) (fun h1=>?_)
   ·refine .region<|.n 3 O<|.done<|.BL<|.AO<|.pr [0,3,4] O<|.region ?_;cases h1;exact .be O<|.ag () hm1 O (zl [2,2,2,2] 0 O)
   refine .skip<|.BL<|.AO<|.pr [0,3,4] O<|.region ?_;cases h1;exact .be O<|.ag () hm1 O (zl [2,2,2,2] 0 O)
  refine .xq O ?_;cases h1;cases hd1 _ rfl
  exact .AO<|.hU O zw
 refine .ab [2] O ?_;cases h;exact .rv O O ⟨O,O⟩ (zl [] 4 O)
theorem yu:BX Tryz.prog 112:=en Tryz.func112 (by kernel_rfl)
def wO (AX:zH):Option (zH × Int):=
 some ((⟨AX.F_,AX.First,AX.Active,0, [],AX.Tail,true⟩:zH),10)
theorem tO {AX A1 c1 AZ BJ r} (h:wO AX=some r):
    BA Tryz.prog 112 [.pointer (some ⟨AZ,0,none⟩)] [.ro (Sl (zT zJ) A1 c1 AX.Keys), .res (Box AZ 189 (yL AX BJ A1 c1))] (fun v F=>∃ A2 c2,v= .int .i64 r.2∧F= [.ro (Sl (zT zJ) A2 c2 r.1.Keys), .res (Box AZ 189 (yL r.1 BJ A2 c2))]):=by
 unfold wO at h
 refine BA.intro Tryz.func112 O O O fun w R=>?_;refine .ab [0] O<|.a 3 O<|.sb 6 1 O<|.b [0] O<|.a 3 O<|.sb 4 0 O<|.bf [0] [0] 1 O O<|.a 3 O<|.sb 3 0 O<|.b [] O<|.ae O<|.AY (fun _ w=>w.CU (zT zJ)) ?_;cases h;exact .rv O O ⟨none,0,O,O⟩ (zk 2 1 [1] [1] 0 O)
theorem zQU:BX Tryz.prog 107:=en Tryz.func107 (by kernel_rfl)
def pH [AP] (BO:(List zD)) (changes:(List zD)):Option (List zD):=
 bnd (yC (τ:=List zD) (fun (s1:List zD × Int)=>bif decide (s1.2<(changes.length:Int)) then (bnd (BP changes s1.2) fun x1=>bnd (qM s1.1 x1) fun r1=>some (.next (r1,wrap .i64 (s1.2+1)))) else (some (.done s1.1))) (BO,0)) fun o1=>some o1
theorem dY [AP] {BO changes A1 c1 A2 c2 r} (h:pH BO changes=some r):
    BA Tryz.prog 107 [.slice A1 BO.length c1, .slice A2 changes.length c2] [.ro (Sl (zT zJ) A1 c1 BO), .ro (Sl (zT zJ) A2 c2 changes)] (fun v F=>∃ A3 c3,v= .slice A3 r.length c3∧F= [.ro (Sl (zT zJ) A3 c3 r)]):=by
 refine BA.intro Tryz.func107 O O O fun w R=>?_;refine .ab [0,1] O<|.seq<|.ae O<|.bd h fun o1 hl1 h=>.DV 2 (fun (e2:Option Addr × Nat)=>[.s 0 (.slice e2.1 o1.length e2.2)]) (fun e2=>[.ro (Sl (zT zJ) e2.1 e2.2 o1)]) O O ?_ ?_
 ·refine .block<|.BM hl1 1 (fun (s1:List zD × Int) (e1:Option Addr × Nat)=>[.s 0 (.slice e1.1 s1.1.length e1.2),1, .s 5 (.int .i64 s1.2)]) (fun s1 e1=>[.ro (Sl (zT zJ) e1.1 e1.2 s1.1)]) O O (A1,c1) (zb O) (fun _ w=>w) ?_;rintro s1 ⟨A3,c3⟩ st1 hm1 hd1 h1;refine .seq<|.ab [0,1,5,9] O<|.cb h1 O (fun h1=>?_) (fun h1=>?_)
  ·refine .sk<|.pr [0,1,5] O<|.seq<|.block<|.region<|.n 3 O<|.bd h1 fun x1 hx1 h1=>.KY hx1 1 O fun b1 DY FC=>?_;obtain ⟨⟨A5,c5⟩,_⟩:=FC;refine .nm 4 O<|.ld DY 0 0 O<|.bd h1 fun r1 hr1 h1=>.cr 5 [2,1] [] 0 (zBH hr1) zQV O fun A6 c6=>.p O O<|.done<|.BL<|.AO<|.pf [0,1,5] [0] 3 O O<|.region<|.n 3 O<|.done<|.AY (fun _ w=>w.IJ) ?_;cases h1;exact .AO<|.ag (A6,c6) hm1 O zw
  refine .xq O ?_;cases h1;cases hd1 _ rfl
  exact .AO<|.hE (A3,c3) O (zl [0] 1 O)
 rintro ⟨A4,c4⟩;refine .ab [4] O ?_;cases h;exact .rv O O ⟨A4,c4,O,O⟩ (zk 1 1 [0] [] 0 O)
theorem zTp:BX Tryz.prog 106:=en Tryz.func106 (by kernel_rfl)
def qQ [AP] (AX:zH) (FB:(List zD)) (CO:yD):Option (zH × Int):=
 bnd ((bif AX.KA then (some true) else (bnd (nD AX.F_) fun bb1=>some CO.Down):Option Bool)) fun o1=>bif o1 then (bnd (wO AX) fun r1=>some (r1.1,r1.2)) else (bif decide ((FB.length:Int)>32) then (some (AX,3)) else (bnd (yC (τ:=(zH × Int) ⊕ Unit) (fun (s1:Int)=>bif decide (s1<(FB.length:Int)) then (bnd ((bnd (BP FB s1) fun x1=>bif decide ((x1.Value.length:Int)>28) then (some true) else (bif x1.Delete then (some (decide ((x1.Value.length:Int)>0))) else (some false)):Option Bool)) fun o4=>bif o4 then (some (.done (.inl (AX,1)))) else (bnd (yC (τ:=(zH × Int) ⊕ Unit) (fun (s2:Int)=>bif decide (s2<s1) then (bnd (BP FB s2) fun x2=>bnd (BP FB s1) fun x3=>bif (x2.Key==x3.Key) then (some (.done (.inl (AX,7)))) else (some (.next (wrap .i64 (s2+1))))) else (some (.done (.inr ())))) 0) fun o5=>vz (fun r_=>(.done (.inl r_))) o5 fun o6=>some (.next (wrap .i64 (s1+1))))) else (some (.done (.inr ())))) 0) fun o2=>xL o2 fun o3=>bnd (pH AX.Keys FB) fun r2=>bif decide ((r2.length:Int)>32) then (some (AX,3)) else (some (AX,0))))
theorem zBw [AP] {AX FB CO A1 c1 A2 c2 A3 c3 A4 c4 AZ BJ r} (h:qQ AX FB CO=some r):
    BA Tryz.prog 106 [.pointer (some ⟨AZ,0,none⟩), .slice A2 FB.length c2] [.ro (Sl (zT zJ) A1 c1 AX.Keys), .ro (Sl (zT zJ) A2 c2 FB), .res (Box AZ 189 (yL AX BJ A1 c1)), .res (Box BJ 187 (yG CO A3 c3 A4 c4)), .res (zI AQ 5 A3 c3 CO.Data), .res (zI zU 3 A4 c4 CO.DT)] (fun v F=>∃ A5 c5,v= .int .i64 r.2∧F= [.ro (Sl (zT zJ) A5 c5 r.1.Keys), .res (Box AZ 189 (yL r.1 BJ A5 c5)), .res (Box BJ 187 (yG CO A3 c3 A4 c4)), .res (zI AQ 5 A3 c3 CO.Data), .res (zI zU 3 A4 c4 CO.DT)]):=by
 refine BA.intro Tryz.func106 O O O fun w R=>?_;refine .ab [0,1] O<|.seq<|.seq<|.bd h fun o1 hj1 h=>.cu 0 [0,1, .s 19 (.bool o1)] [] O O ?_ ?_
 ·refine .region<|.n 3 O<|.lb 6 2 O<|.p O O<|.gs 11 hj1 O (fun hj1=>?_) (fun hj1=>?_)
  ·cases hj1;exact .be O<|.hU O zw
  refine .n 3 O<|.BN O O<|.lb 0 2 O<|.BN O O<|.bd hj1 fun bb1 KD hj1=>?_;refine .ss 15 (uD KD)<|.n 2 O<|.BN O O<|.lb 6 3 O ?_;cases hj1;exact .be O<|.hU O zw
 refine .cb h O (fun h=>?_) (fun h=>?_)
 ·refine .a 1 O<|.bd h fun r1 hr1 h=>.cr 7 [1] [2] 0 (tO (AZ:=AZ) hr1) yu O fun A5 c5=>.bf [4] [0,0] 2 O O ?_;cases h;exact .rv O O ⟨A5,c5,O,O⟩ (zk 5 1 [4] [1,1,1,1] 0 O)
 refine .sk<|.pr [0,1] O<|.seq<|.ab [0,1,24] O<|.cb h O (fun h=>?_) (fun h=>?_)
 ·refine .EK [4] [0] 1 O O ?_;cases h;exact .rv O O ⟨A1,c1,O,O⟩ (zk 5 1 [4] [1,1,1,1] 0 O)
 refine .sk<|.pr [0,1] O<|.seq<|.ae O<|.bd h fun o2 hl1 h=>.ES 0 (fun (o3:Unit) (e3:Unit)=>[0,1]) (fun o3 e3=>[]) O O (fun o3=>o2= .inr o3) ?_ ?_
 ·refine .block<|.BM hl1 0 (fun (s1:Int) (e2:Unit)=>[0,1, .s 5 (.int .i64 s1)]) (fun s1 e2=>[]) O O () (zb O) (fun _ w=>w) ?_;rintro s1 e2 st1 hm1 hd1 h1;refine .seq<|.ab [0,1,5,28] O<|.cb h1 O (fun h1=>?_) (fun h1=>?_)
  ·refine .sk<|.pr [0,1,5] O<|.seq<|.block<|.seq<|.seq<|.bd h1 fun o4 hj2 h1=>.cu 0 [0,1,5, .s 53 (.bool o4)] [] O O ?_ ?_
   ·refine .region<|.n 2 O<|.bd hj2 fun x1 hx1 hj2=>.KY hx1 1 O fun b1 DY FC=>?_;obtain ⟨⟨A6,c6⟩,_⟩:=FC;refine .nm 8 O<|.p O O<|.ld DY 1 0 O<|.n 3 O<|.gs 38 hj2 O (fun hj2=>?_) (fun hj2=>?_)
    ·cases hj2;exact .be O<|.hU O (zl [] 2 O)
    refine .n 2 O<|.BN O O<|.KY hx1 3 O fun b2 JD JQ=>?_;obtain ⟨⟨A7,c7⟩,_⟩:=JQ;refine .nm 10 O<|.n 1 O<|.BN O O<|.ld JD 2 0 O<|.n 1 O<|.gs 44 hj2 O (fun hj2=>?_) (fun hj2=>?_)
    ·refine .n 2 O<|.BN O O<|.KY hx1 5 O fun b3 MP MX=>?_;obtain ⟨⟨A8,c8⟩,_⟩:=MX;refine .nm 12 O<|.n 1 O<|.BN O O<|.ld MP 1 0 O ?_;cases hj2;exact .be O<|.hU O (zl [] 6 O)
    cases hj2;exact .be O<|.hU O (zl [] 4 O)
   refine .cb h1 O (fun h1=>?_) (fun h1=>?_)
   ·refine .EK [4] [0] 1 O O ?_;cases h1;cases hd1 _ rfl
    have h:some _=some _:=h;cases h;exact .rv O O ⟨A1,c1,O,O⟩ (zk 5 1 [4] [1,1,1,1] 0 O)
   refine .sk<|.pr [0,1,5] O<|.ae O<|.bd h1 fun o5 hl2 h1=>.IV<|.ES 0 (fun (o6:Unit) (e6:Unit)=>[0,1,5]) (fun o6 e6=>[]) O O (fun o6=>o5= .inr o6) ?_ ?_
   ·refine .block<|.BM hl2 0 (fun (s2:Int) (e5:Unit)=>[0,1,5, .s 6 (.int .i64 s2)]) (fun s2 e5=>[]) O O () (zb O) (fun _ w=>w) ?_;rintro s2 e5 st2 hm2 hd2 h2;refine .seq<|.ab [0,1,5,6,56] O<|.cb h2 O (fun h2=>?_) (fun h2=>?_)
    ·refine .sk<|.pr [0,1,5,6] O<|.seq<|.block<|.seq<|.regionF mixed (by kernel_rfl)<|.n 2 O<|.bd h2 fun x2 hx2 h2=>.KY hx2 1 O fun b4 TY lg=>?_;obtain ⟨⟨A9,c9⟩,_⟩:=lg;refine .nm 8 O<|.p O O<|.ld TY 0 0 O<|.n 2 O<|.bd h2 fun x3 hx3 h2=>.KY hx3 3 O fun b5 YD ex5=>?_;obtain ⟨⟨EC,c10⟩,_⟩:=ex5;refine .nm 10 O<|.p O O<|.ld YD 0 0 O<|.beq O<|.pf [0,1,5,6,69] [] 4 O O<|.cb h2 O (fun h2=>?_) (fun h2=>?_)
     ·refine .EK [4] [0] 1 O O ?_;cases h2;cases hd2 _ rfl
      have h1:some _=some _:=h1;cases h1;cases hd1 _ rfl
      have h:some _=some _:=h;cases h;exact .rv O O ⟨A1,c1,O,O⟩ (zk 5 1 [4] [1,1,1,1] 0 O)
     refine .skip<|.BL<|.AO<|.pr [0,1,5,6] O<|.region ?_;cases h2;exact .be O<|.ag () hm2 O zw
    refine .xq O ?_;cases h2;cases hd2 _ rfl
    exact .AO<|.CZ () () O (zb O) zw
   rintro o6 e6 ho;subst ho;have h1:=zVn h1;refine .BL<|.AO<|.region ?_;cases h1;exact .be O<|.ag () hm1 O zw
  refine .xq O ?_;cases h1;cases hd1 _ rfl
  exact .AO<|.CZ () () O (zb O) zw
 rintro o3 e3 ho;subst ho;have h:=JG h;refine .seq<|.a 3 O<|.lb 4 2 O<|.p O O<|.bd h fun r2 hr2 h=>.cr 7 [0,1] [] 0 (dY hr2) zQU O fun EW c11=>.bf [77] [1] 2 O O<|.cb h O (fun h=>?_) (fun h=>?_)
 ·refine .ab [4] O ?_;cases h;exact .rv O O ⟨A1,c1,O,O⟩ (zk 5 1 [4] [1,1,1,1] 0 O)
 refine .sk<|.pr [] O<|.ae O ?_;cases h;exact .rv O O ⟨A1,c1,O,O⟩ (zk 5 1 [4] [1,1,1,1] 0 O)
theorem zSB:BX Tryz.prog 108:=en Tryz.func108 (by kernel_rfl)
def gP [AP] (BO:(List zD)):Option (List zD):=
 bnd (yC (τ:=List zD) (fun (s1:List zD × Int)=>bif decide (s1.2<(BO.length:Int)) then (bnd (BP BO s1.2) fun x1=>bnd (sD x1.Value) fun r1=>bnd (app 40 s1.1 [(⟨x1.Key,r1,x1.Delete⟩:zD)]) fun l1=>some (.next (l1,wrap .i64 (s1.2+1)))) else (some (.done s1.1))) ([],0)) fun o1=>some o1
theorem zIB [AP] {BO A1 c1 r} (h:gP BO=some r):
    BA Tryz.prog 108 [.slice A1 BO.length c1] [.ro (Sl (zT zJ) A1 c1 BO)] (fun v F=>∃ A2 c2,v= .slice A2 r.length c2∧F= [.res (yU (zT zJ) 107 A2 c2 r)]):=by
 refine BA.intro Tryz.func108 O O O fun w R=>?_;refine .ab [0] O<|.ae O<|.seq<|.ae O<|.AY (fun _ w=>w.MK (zT zJ) 107)<|.bd h fun o1 hl1 h=>.DV 2 (fun (e2:Option Addr × Nat)=>[.s 3 (.slice e2.1 o1.length e2.2)]) (fun e2=>[.res (yU (zT zJ) 107 e2.1 e2.2 o1)]) O O ?_ ?_
 ·refine .block<|.BM hl1 1 (fun (s1:List zD × Int) (e1:Option Addr × Nat)=>[0, .s 3 (.slice e1.1 s1.1.length e1.2), .s 4 (.int .i64 s1.2)]) (fun s1 e1=>[.res (yU (zT zJ) 107 e1.1 e1.2 s1.1)]) O O (none,0) (zb O) (fun _ w=>w) ?_;rintro s1 ⟨A2,c2⟩ st1 hm1 hd1 h1;refine .seq<|.ab [0,3,4,8] O<|.cb h1 O (fun h1=>?_) (fun h1=>?_)
  ·refine .sk<|.pr [0,3,4] O<|.seq<|.block<|.bd h1 fun x1 hx1 h1=>.UZ EO hx1 fun b1 DY FC JA=>?_;obtain ⟨⟨A4,c4⟩,_⟩:=FC;refine .nm 4 O<|.BI (iN [0,4,8,12,16,20,24,28,33,36,41,48,52,56,60,64,47,68,75,79,80] .nil) _ mixed (by kernel_rfl) (zl [0,0] 1 O)<|.yn 3 O<|.KT (fun _ h=>h) (Rd.ZA JA hx1 O O O O O O O) O<|.yn 1 O<|.KT (fun _ h=>h) (Rd.load DY 0 O (.head _) O O) O<|.yn 2 O<|.JC (Rd.ZA JA hx1 O O O O O O O) O<|.yn 1 O<|.JC (Rd.load DY 1 O (.head _) O O) O<|.yn 2 O<|.KT (fun _ h=>h) (Rd.ZA JA hx1 O O O O O O O) O<|.yn 1 O<|.KT (fun _ h=>h) (Rd.load DY 2 O (.head _) O O) O<|.BV<|.bd h1 fun r1 hr1 h1=>.cr 5 [1] [] 0 (bU hr1) I8 O fun A5 c5=>.xk (zl [1,1] 2 O)<|.yn 1 O<|.BV<|.bS O fun g1=>.xk (zl [2,2] 3 O)<|.BV<|.bd h1 fun l1 hl1 h1=>.AY (fun _ w=>(w.sl [1] 0 O).BU)<|.LW (E:=(zT zJ)) hl1 O O O (CS 4 O) O O O O O O O O (cV (ls:=zJ) [((⟨x1.Key,r1,x1.Delete⟩:zD),((A5,c5),()))] EO O O O ⟨(.head _),trivial⟩) O O fun A6 c6=>.xk (zl [] 3 O)<|.yn 1 O<|.CQ<|.BL<|.AO<|.pf [0,3,4] [0] 4 O O<|.region ?_;cases h1;exact .be O<|.ag (A6,c6) hm1 O zw
  refine .xq O ?_;cases h1;cases hd1 _ rfl
  exact .AO<|.hE (A2,c2) O (zl [0] 1 O)
 rintro ⟨A3,c3⟩;refine .ab [2] O ?_;cases h;exact .rv O O ⟨A3,c3,O,O⟩ zw
theorem zPU:BX Tryz.prog 109:=en Tryz.func109 (by kernel_rfl)
def mN [AP] (BO:(List zD)):Option (List Int):=
 bnd (yC (τ:=List Int) (fun (s1:List Int × Int)=>bif decide (s1.2<(BO.length:Int)) then (bnd (BP BO s1.2) fun x1=>bif x1.Delete then (bnd (app 1 s1.1 [x1.Key,128]) fun l1=>some (.next (l1,wrap .i64 (s1.2+1)))) else (bnd (BP BO s1.2) fun x2=>bnd (app 1 s1.1 [x2.Key,wrap .u8 (x2.Value.length:Int)]) fun l2=>bnd (app 1 l2 x1.Value) fun l3=>some (.next (l3,wrap .i64 (s1.2+1))))) else (some (.done s1.1))) ([wrap .u8 (BO.length:Int)],0)) fun o1=>bnd (app 1 o1 [0]) fun l4=>some l4
theorem zBC [AP] {BO A1 c1 r} (h:mN BO=some r):
    BA Tryz.prog 109 [.slice A1 BO.length c1] [.ro (Sl (zT zJ) A1 c1 BO)] (fun v F=>∃ A2 c2,v= .slice A2 r.length c2∧F= [.res (zI AQ 5 A2 c2 r)]):=by
 refine BA.intro Tryz.func109 O O O fun w R=>?_;refine .ab [0] O<|.a 3 O<|.bS O fun g1=>.b [0,3] O<|.seq<|.ae O<|.AY (fun _ w=>w.IL (E:=AQ) (e:=5) [wrap .u8 (BO.length:Int)] O O)<|.bd h fun o1 hl1 h=>.DV 2 (fun (e2:Option Addr × Nat)=>[.s 3 (.slice e2.1 o1.length e2.2)]) (fun e2=>[.res (zI AQ 5 e2.1 e2.2 o1)]) O O ?_ ?_
 ·refine .block<|.BM hl1 1 (fun (s1:List Int × Int) (e1:Option Addr × Nat)=>[0, .s 3 (.slice e1.1 s1.1.length e1.2), .s 4 (.int .i64 s1.2)]) (fun s1 e1=>[.res (zI AQ 5 e1.1 e1.2 s1.1)]) O O ((some ⟨g1,0,none⟩),([wrap .u8 (BO.length:Int)]:List Int).length) (zb O) (fun _ w=>w) ?_;rintro s1 ⟨A2,c2⟩ st1 hm1 hd1 h1;refine .seq<|.ab [0,3,4,12] O<|.cb h1 O (fun h1=>?_) (fun h1=>?_)
  ·refine .sk<|.pr [0,3,4] O<|.seq<|.block<|.seq<|.a 2 O<|.bd h1 fun x1 hx1 h1=>.KY hx1 1 O fun b1 DY FC=>?_;obtain ⟨⟨A4,c4⟩,_⟩:=FC;refine .nm 4 O<|.p O O<|.ld DY 2 0 O<|.bf [0,3,4,19] [] 2 O O<|.cb h1 O (fun h1=>?_) (fun h1=>?_)
   ·refine .a 3 O<|.KY hx1 1 O fun b2 JD JQ=>?_;obtain ⟨⟨A5,c5⟩,_⟩:=JQ;refine .nm 4 O<|.p O O<|.ld JD 0 0 O<|.bS O fun g2=>.bd h1 fun l1 hl1 h1=>.app (E:=AQ) hl1 O O O (CS 3 O) O O O O O O O O (iV (.head _) O O) O O fun A6 c6=>.bf [0,3,4] [0] 3 O O<|.xq O<|.AO<|.region ?_;cases h1;exact .be O<|.ag (A6,c6) hm1 O zw
   refine .sk<|.pr [0,3,4] O<|.seq<|.bd h1 fun x2 hx2 h1=>.UZ EO hx2 fun b3 MP MX UB=>?_;obtain ⟨⟨A7,c7⟩,_⟩:=MX;refine .nm 4 O<|.BI (iN [0,4,8,13,16,21,24,28,33,36,41,44,48,55,59,60] .nil) _ mixed (by kernel_rfl) (zl [0,0] 1 O)<|.yn 3 O<|.JC (Rd.ZA UB hx2 O O O O O O O) O<|.yn 1 O<|.JC (Rd.load MP 0 O (.head _) O O) O<|.yn 2 O<|.JC (Rd.ZA UB hx2 O O O O O O O) O<|.yn 1 O<|.JC (Rd.load MP 1 O (.head _) O O) O<|.yn 2 O<|.BV<|.bS O fun g3=>.xk (zl [1,1] 2 O)<|.BV<|.bd h1 fun l2 hl2 h1=>.app (E:=AQ) hl2 O O O (CS 3 O) O O O O O O O O (iV (.head _) O O) O O fun A8 c8=>.xk (zl [] 2 O)<|.yn 1 O<|.CQ<|.AO<|.pf [0,3,4] [0] 3 O O<|.region<|.n 3 O<|.KY hx1 1 O fun b4 TY lg=>?_;obtain ⟨⟨A9,c9⟩,_⟩:=lg;refine .nm 4 O<|.p O O<|.ld TY 1 0 O<|.bd h1 fun l3 hl3 h1=>.app (E:=AQ) hl3 O O O (CS 2 O) O O O O O O O O (gU EO) O O fun EC c10=>.p O O<|.done<|.BL<|.AO<|.pf [0,3,4] [0] 2 O O<|.region ?_;cases h1;exact .be O<|.ag (EC,c10) hm1 O zw
  refine .xq O ?_;cases h1;cases hd1 _ rfl
  exact .AO<|.hE (A2,c2) O (zl [0] 1 O)
 rintro ⟨A3,c3⟩;refine .a 1 O<|.bS O fun g4=>.bd h fun l4 hl4 h=>.app (E:=AQ) hl4 O O O (.s .z) O O O O O O O O (iV (.head _) O O) O O fun EW c11=>.bf [2] [0] 1 O O ?_;cases h;exact .rv O O ⟨EW,c11,O,O⟩ zw
theorem zPA:BX Tryz.prog 110:=en Tryz.func110 (by kernel_rfl)
def qG [AP] (BF:(List Int)):Option Bool:=
 bnd (yC (τ:=Bool ⊕ Unit) (fun (s1:Int)=>bif decide (s1<(BF.length:Int)) then (bnd (BP BF s1) fun x1=>bif (x1 != 255) then (some (.done (.inl false))) else (some (.next (wrap .i64 (s1+1))))) else (some (.done (.inr ())))) 0) fun o1=>xL o1 fun o2=>some true
theorem zBA [AP] {BF A1 c1 r} (h:qG BF=some r):
    BA Tryz.prog 110 [.slice A1 BF.length c1] [.ro (AV AQ A1 c1 BF)] (Val (.bool r)):=by
 refine BA.intro Tryz.func110 O O O fun w R=>?_;refine .ab [0] O<|.seq<|.ae O<|.bd h fun o1 hl1 h=>.ES 1 (fun (o2:Unit) (e2:Unit)=>[]) (fun o2 e2=>[]) O O (fun o2=>o1= .inr o2) ?_ ?_
 ·refine .block<|.BM hl1 0 (fun (s1:Int) (e1:Unit)=>[0, .s 3 (.int .i64 s1)]) (fun s1 e1=>[]) O O () (zb O) (fun _ w=>w) ?_;rintro s1 e1 st1 hm1 hd1 h1;refine .seq<|.ab [0,3,7] O<|.cb h1 O (fun h1=>?_) (fun h1=>?_)
  ·refine .sk<|.pr [0,3] O<|.seq<|.block<|.a 2 O<|.bd h1 fun x1 hx1 h1=>.IB hx1 0 O fun b1 DY=>.ld DY 0 0 O<|.bf [0,3,14] [] 1 O O<|.cb h1 O (fun h1=>?_) (fun h1=>?_)
   ·refine .EK [2] [] 1 O O ?_;cases h1;cases hd1 _ rfl
    have h:some _=some _:=h;cases h;exact .rv O O ⟨O,O⟩ zw
   refine .skip<|.BL<|.AO<|.pr [0,3] O<|.region ?_;cases h1;exact .be O<|.ag () hm1 O zw
  refine .xq O ?_;cases h1;cases hd1 _ rfl
  exact .AO<|.CZ () () O trivial (zl [] 1 O)
 rintro o2 e2 ho;subst ho;have h:=JG h;refine .ae O ?_;cases h;exact .rv O O ⟨O,O⟩ zw
theorem zUt:BX Tryz.prog 193:=en Tryz.func193 (by kernel_rfl)
def pT (CG:yD) (CW:Int) (GR:Int):Option Bool:=
 bnd ((bif decide (CW≥0) then (bif decide (GR≥0) then (bif decide (CW≤(CG.Data.length:Int)) then (some (decide (GR≤(wrap .i64 ((CG.Data.length:Int) - CW))))) else (some false)) else (some false)) else (some false):Option Bool)) fun o1=>some o1
theorem zBR {CG CW GR A1 c1 A2 c2 AZ r} (h:pT CG CW GR=some r):
    BA Tryz.prog 193 [.pointer (some ⟨AZ,0,none⟩), .int .i64 CW, .int .i64 GR] [.res (Box AZ 187 (yG CG A1 c1 A2 c2)), .res (zI AQ 5 A1 c1 CG.Data), .res (zI zU 3 A2 c2 CG.DT)] (fun v F=>v= .bool r∧F= [.res (Box AZ 187 (yG CG A1 c1 A2 c2)), .res (zI AQ 5 A1 c1 CG.Data), .res (zI zU 3 A2 c2 CG.DT)]):=by
 refine BA.intro Tryz.func193 O O O fun w R=>?_;refine .ab [0,1,2] O<|.seq<|.bd h fun o1 hj1 h=>.cu 0 [.s 6 (.bool o1)] [] O O ?_ ?_
 ·refine .region<|.n 3 O<|.gs 9 hj1 O (fun hj1=>?_) (fun hj1=>?_)
  ·refine .n 4 O<|.gs 13 hj1 O (fun hj1=>?_) (fun hj1=>?_)
   ·refine .n 4 O<|.BN O O<|.lb 1 0 O<|.n 4 O<|.gs 22 hj1 O (fun hj1=>?_) (fun hj1=>?_)
    ·refine .n 4 O<|.BN O O<|.lb 1 0 O ?_;cases hj1;exact .be O<|.hU O zw
    cases hj1;exact .be O<|.hU O zw
   cases hj1;exact .be O<|.hU O zw
  cases hj1;exact .be O<|.hU O zw
 cases h;exact .rv O O ⟨O,O⟩ zw
theorem zPt:BX Tryz.prog 194:=en Tryz.func194 (by kernel_rfl)
def wW (CG:yD):Option (yD × Bool):=
 bif (CG.Left==0) then (some ((⟨CG.Size,CG.Data,CG.DT,wrap .i64 (CG.Steps+1),CG.Left,CG.JL,CG.Down⟩:yD),false)) else (bif decide ((wrap .i64 (CG.Left - 1))>0) then (some ((⟨CG.Size,CG.Data,CG.DT,wrap .i64 (CG.Steps+1),wrap .i64 (CG.Left - 1),CG.JL,CG.Down⟩:yD),false)) else (some ((⟨CG.Size,CG.Data,CG.DT,wrap .i64 (CG.Steps+1),wrap .i64 (CG.Left - 1),CG.JL,true⟩:yD),true)))
theorem gH {CG A1 c1 A2 c2 AZ r} (h:wW CG=some r):
    BA Tryz.prog 194 [.pointer (some ⟨AZ,0,none⟩)] [.res (Box AZ 187 (yG CG A1 c1 A2 c2)), .res (zI AQ 5 A1 c1 CG.Data), .res (zI zU 3 A2 c2 CG.DT)] (fun v F=>∃ A3 c3 A4 c4,v= .bool r.2∧F= [.res (Box AZ 187 (yG r.1 A3 c3 A4 c4)), .res (zI AQ 5 A3 c3 r.1.Data), .res (zI zU 3 A4 c4 r.1.DT)]):=by
 refine BA.intro Tryz.func194 O O O fun w R=>?_;refine .ab [0] O<|.a 3 O<|.lb 3 0 O<|.n 3 O<|.sb 3 0 O<|.b [0] O<|.seq<|.a 3 O<|.lb 4 0 O<|.b [0,14] O<|.cb h O (fun h=>?_) (fun h=>?_)
 ·refine .ab [2] O ?_;cases h;exact .rv O O ⟨A1,c1,A2,c2,O,O⟩ zw
 refine .sk<|.pr [0] O<|.a 3 O<|.lb 4 0 O<|.n 3 O<|.sb 4 0 O<|.b [0] O<|.seq<|.a 3 O<|.lb 4 0 O<|.b [0,26] O<|.cb h O (fun h=>?_) (fun h=>?_)
 ·refine .ab [2] O ?_;cases h;exact .rv O O ⟨A1,c1,A2,c2,O,O⟩ zw
 refine .sk<|.pr [0] O<|.a 3 O<|.sb 6 0 O<|.b [] O<|.ae O ?_;cases h;exact .rv O O ⟨A1,c1,A2,c2,O,O⟩ zw
theorem Sz:BX Tryz.prog 111:=en Tryz.func111 (by kernel_rfl)
def xT [AP] (CG:yD) (CW:Int) (FN:(List Int)):Option (yD × Int):=
 bif CG.Down then (some (CG,10)) else (bnd (pT CG CW (FN.length:Int)) fun r1=>bif !r1 then (some (CG,2)) else (bnd (yC (τ:=(yD × Int) ⊕ yD) (fun (s1:yD × Int)=>bif decide (s1.2<(FN.length:Int)) then (bnd (wW s1.1) fun r2=>bif r2.2 then (bnd (BP r2.1.Data (wrap .i64 (CW+s1.2))) fun x1=>bnd (BP r2.1.Data (wrap .i64 (CW+s1.2))) fun x2=>bnd (BP FN s1.2) fun x3=>bnd (BP r2.1.Data (wrap .i64 (CW+s1.2))) fun x4=>bnd (rJ r2.1.Data (wrap .i64 (CW+s1.2)) (sN .u8 x2 (FK .u8 x3 r2.1.JL))) fun l1=>some (.done (.inl ((⟨r2.1.Size,l1,r2.1.DT,r2.1.Steps,r2.1.Left,r2.1.JL,r2.1.Down⟩:yD),10)))) else (bnd (BP r2.1.Data (wrap .i64 (CW+s1.2))) fun x5=>bnd (BP r2.1.Data (wrap .i64 (CW+s1.2))) fun x6=>bnd (BP FN s1.2) fun x7=>bnd (BP r2.1.Data (wrap .i64 (CW+s1.2))) fun x8=>bnd (rJ r2.1.Data (wrap .i64 (CW+s1.2)) (sN .u8 x6 x7)) fun l2=>some (.next ((⟨r2.1.Size,l2,r2.1.DT,r2.1.Steps,r2.1.Left,r2.1.JL,r2.1.Down⟩:yD),wrap .i64 (s1.2+1))))) else (some (.done (.inr s1.1)))) (CG,0)) fun o1=>xL o1 fun o2=>some (o2,0)))
theorem rF [AP] {CG CW FN A1 c1 A2 c2 A3 c3 AZ r} (h:xT CG CW FN=some r):
    BA Tryz.prog 111 [.pointer (some ⟨AZ,0,none⟩), .int .i64 CW, .slice A3 FN.length c3] [.ro (AV AQ A3 c3 FN), .res (Box AZ 187 (yG CG A1 c1 A2 c2)), .res (zI AQ 5 A1 c1 CG.Data), .res (zI zU 3 A2 c2 CG.DT)] (fun v F=>∃ A4 c4 A5 c5,v= .int .i64 r.2∧F= [.res (Box AZ 187 (yG r.1 A4 c4 A5 c5)), .res (zI AQ 5 A4 c4 r.1.Data), .res (zI zU 3 A5 c5 r.1.DT)]):=by
 refine BA.intro Tryz.func111 O O O fun w R=>?_;refine .ab [0,1,2] O<|.seq<|.a 3 O<|.lb 6 1 O<|.b [0,1,2,11] O<|.cb h O (fun h=>?_) (fun h=>?_)
 ·refine .EK [6] [] 1 O O ?_;cases h;exact .rv O O ⟨A1,c1,A2,c2,O,O⟩ zw
 refine .sk<|.pr [0,1,2] O<|.seq<|.a 4 O<|.bd h fun r1 hr1 h=>.cq 4 [] [1,1,1] 0 (zBR hr1) zUt O<|.b [0,1,2,17] O<|.cb h O (fun h=>?_) (fun h=>?_)
 ·refine .EK [6] [0,0,0] 1 O O ?_;cases h;exact .rv O O ⟨A1,c1,A2,c2,O,O⟩ zw
 refine .sk<|.pr [0,1,2] O<|.seq<|.ae O<|.bd h fun o1 hl1 h=>.ES 4 (fun (o2:yD) (e2:Option Addr × Nat × Option Addr × Nat)=>[]) (fun o2 e2=>[.res (zI zU 3 e2.2.2.1 e2.2.2.2 o2.DT), .res (zI AQ 5 e2.1 e2.2.1 o2.Data), .res (Box AZ 187 (yG o2 e2.1 e2.2.1 e2.2.2.1 e2.2.2.2))]) O O (fun o2=>o1= .inr o2) ?_ ?_
 ·refine .block<|.BM hl1 3 (fun (s1:yD × Int) (e1:Option Addr × Nat × Option Addr × Nat)=>[0,1,2, .s 7 (.int .i64 s1.2)]) (fun s1 e1=>[.res (zI zU 3 e1.2.2.1 e1.2.2.2 s1.1.DT), .res (zI AQ 5 e1.1 e1.2.1 s1.1.Data), .res (Box AZ 187 (yG s1.1 e1.1 e1.2.1 e1.2.2.1 e1.2.2.2))]) O O (A1,c1,A2,c2) (zb O) (zl [2,1] 0 O) ?_;rintro s1 ⟨A4,c4,A5,c5⟩ st1 hm1 hd1 h1;refine .seq<|.ab [0,1,2,7,21] O<|.cb h1 O (fun h1=>?_) (fun h1=>?_)
  ·refine .sk<|.pr [0,1,2,7] O<|.seq<|.block<|.seq<|.a 1 O<|.bd h1 fun r2 hr2 h1=>.ct 4 [] [2,1] 0 (gH hr2) zPt O fun A8 c8 A9 c9=>.b [0,1,2,7,25] O<|.cb h1 O (fun h1=>?_) (fun h1=>?_)
   ·refine .seq<|.bd h1 fun x1 hx1 h1=>.QE EO hx1 fun g1 hA=>?_;subst hA;refine .BI (iN [0,4,8,13,16,20,24,28,32,36,41,44,48,52,57,61,64,68,73,77,80,84,88,93,96,100,105,111] .nil) _ mixed (by kernel_rfl) (zl [] 2 O)<|.yn 3 O<|.yx 1 0 O<|.yn 6 O<|.yx 1 0 O<|.yn 3 O<|.bd h1 fun x2 hx2 h1=>.JC (Rd.TA (E:=AQ) hx2 O O O O O O O) O<|.JC (Rd.MJ 0 hx2 O EO O O) O<|.yn 2 O<|.bd h1 fun x3 hx3 h1=>.JZ (zm 3 O) hx3 fun b1 DY JA=>.AY (fun _ w=>Sat.JE JA (zm 3 O) hx3 w) ?_;have hc1:=fun w h=>Sat.JE JA EO hx3 ((fun (w:World) (h:Sat (.res (zI zU 3 A9 c9 r2.1.DT):: .ro (AV AQ A3 c3 FN)::R) w)=>h) w h);refine .JC (Rd.SY (E:=AQ) JA hx3 O O O O O O O) O<|.JC (Rd.load DY 0 O (.head _) O O) O<|.yn 3 O<|.yx 5 1 O<|.yn 2 O<|.bd h1 fun x4 hx4 h1=>.JC (Rd.TA (E:=AQ) hx4 O O O O O O O) O<|.BV<|.bd h1 fun l1 hl1 h1=>.TB 0 hx4 hl1 O O (CS 2 O) O O O O O ?_;refine .ss 29 (wY hl1) ?_;refine .ss 36 (wY hl1)<|.AY (F':=.res (zI AQ 5 (some ⟨g1,0,none⟩) c8 l1):: .ro (oU b1 DY [.int .u8 x3]):: .res (Box AZ 187 [.int .i64 r2.1.Size, .slice (some ⟨g1,0,none⟩) l1.length c8, .slice A9 r2.1.DT.length c9, .int .i64 r2.1.Steps, .int .i64 r2.1.Left, .int .u8 r2.1.JL, .bool r2.1.Down]):: .res (zI zU 3 A9 c9 r2.1.DT):: .ro (AV AQ A3 c3 FN)::R) (fun _ w=>by rw [sV hl1]; exact w)<|.xk (zl [] 3 O)<|.CQ<|.AO<|.pf [] [0,1,1] 2 O O<|.ae O ?_;cases h1;cases hd1 _ rfl
    have h:some _=some _:=h;cases h;exact .rv O O ⟨(some ⟨g1,0,none⟩),c8,A9,c9,O,O⟩ (zl [1] 0 O)
   refine .sk<|.pr [0,1,2,7] O<|.bd h1 fun x5 hx5 h1=>.QE EO hx5 fun g4 hA=>?_;subst hA;refine .BI (iN [0,4,8,13,16,20,24,28,32,36,41,44,48,52,57,61,64,68,73,77,80,85,91] .nil) _ mixed (by kernel_rfl) (zl [] 2 O)<|.yn 3 O<|.yx 1 0 O<|.yn 6 O<|.yx 1 0 O<|.yn 3 O<|.bd h1 fun x6 hx6 h1=>.JC (Rd.TA (E:=AQ) hx6 O O O O O O O) O<|.JC (Rd.MJ 0 hx6 O EO O O) O<|.yn 2 O<|.bd h1 fun x7 hx7 h1=>.JZ (zm 3 O) hx7 fun b2 JD LD=>.AY (fun _ w=>Sat.JE LD (zm 3 O) hx7 w) ?_;have hc2:=fun w h=>Sat.JE LD EO hx7 ((fun (w:World) (h:Sat (.res (zI zU 3 A9 c9 r2.1.DT):: .ro (AV AQ A3 c3 FN)::R) w)=>h) w h);refine .JC (Rd.SY (E:=AQ) LD hx7 O O O O O O O) O<|.JC (Rd.load JD 0 O (.head _) O O) O<|.yn 1 O<|.bd h1 fun x8 Tc h1=>.JC (Rd.TA (E:=AQ) Tc O O O O O O O) O<|.BV<|.bd h1 fun l2 hl2 h1=>.TB 0 Tc hl2 O O (CS 2 O) O O O O O ?_;refine .ss 56 (wY hl2) ?_;refine .ss 63 (wY hl2)<|.AY (F':=.res (zI AQ 5 (some ⟨g4,0,none⟩) c8 l2):: .ro (oU b2 JD [.int .u8 x7]):: .res (Box AZ 187 [.int .i64 r2.1.Size, .slice (some ⟨g4,0,none⟩) l2.length c8, .slice A9 r2.1.DT.length c9, .int .i64 r2.1.Steps, .int .i64 r2.1.Left, .int .u8 r2.1.JL, .bool r2.1.Down]):: .res (zI zU 3 A9 c9 r2.1.DT):: .ro (AV AQ A3 c3 FN)::R) (fun _ w=>by rw [sV hl2]; exact w)<|.xk (zl [] 3 O)<|.CQ<|.BL<|.AO<|.pf [0,1,2,7] [0] 1 O O<|.region ?_;cases h1;exact .be O<|.ag ((some ⟨g4,0,none⟩),c8,A9,c9) hm1 O (zl [2] 0 O)
  refine .xq O ?_;cases h1;cases hd1 _ rfl
  exact .AO<|.CZ s1.1 (A4,c4,A5,c5) O trivial (zl [0,0,0] 1 O)
 rintro o2 ⟨A6,c6,A7,c7⟩ ho;subst ho;have h:=JG h;refine .ae O ?_;cases h;exact .rv O O ⟨A6,c6,A7,c7,O,O⟩ (zl [2,1] 0 O)
theorem zUj:BX Tryz.prog 113:=en Tryz.func113 (by kernel_rfl)
def qR [AP] (CG:yD) (EJ:Int):Option (yD × Int):=
 bif CG.Down then (some (CG,10)) else (bnd ((bif decide (EJ<0) then (some true) else (some (decide (EJ≥(CG.DT.length:Int)))):Option Bool)) fun o1=>bif o1 then (some (CG,2)) else (bnd (BP CG.DT EJ) fun x1=>bnd (rJ CG.DT EJ (wrap .i64 (x1+1))) fun l1=>bnd (wW (⟨CG.Size,CG.Data,l1,CG.Steps,CG.Left,CG.JL,CG.Down⟩:yD)) fun r1=>bif r1.2 then (bnd (yC (τ:=yD) (fun (s1:yD × Int)=>bif decide (s1.2<(wrap .i64 ((wrap .i64 (EJ+1))*s1.1.Size))) then (bnd (BP s1.1.Data s1.2) fun x2=>bnd (BP s1.1.Data s1.2) fun x3=>bnd (BP s1.1.Data s1.2) fun x4=>bnd (rJ s1.1.Data s1.2 (FK .u8 x3 s1.1.JL)) fun l2=>some (.next ((⟨s1.1.Size,l2,s1.1.DT,s1.1.Steps,s1.1.Left,s1.1.JL,s1.1.Down⟩:yD),wrap .i64 (s1.2+1)))) else (some (.done s1.1))) (r1.1,wrap .i64 (EJ*r1.1.Size))) fun o2=>some (o2,10)) else (bnd (yC (τ:=yD) (fun (s2:yD × Int)=>bif decide (s2.2<(wrap .i64 ((wrap .i64 (EJ+1))*s2.1.Size))) then (bnd (BP s2.1.Data s2.2) fun x5=>bnd (rJ s2.1.Data s2.2 255) fun l3=>some (.next ((⟨s2.1.Size,l3,s2.1.DT,s2.1.Steps,s2.1.Left,s2.1.JL,s2.1.Down⟩:yD),wrap .i64 (s2.2+1)))) else (some (.done s2.1))) (r1.1,wrap .i64 (EJ*r1.1.Size))) fun o3=>some (o3,0))))
theorem zBp [AP] {CG EJ A1 c1 A2 c2 AZ r} (h:qR CG EJ=some r):
    BA Tryz.prog 113 [.pointer (some ⟨AZ,0,none⟩), .int .i64 EJ] [.res (Box AZ 187 (yG CG A1 c1 A2 c2)), .res (zI AQ 5 A1 c1 CG.Data), .res (zI zU 3 A2 c2 CG.DT)] (fun v F=>∃ A3 c3 A4 c4,v= .int .i64 r.2∧F= [.res (Box AZ 187 (yG r.1 A3 c3 A4 c4)), .res (zI AQ 5 A3 c3 r.1.Data), .res (zI zU 3 A4 c4 r.1.DT)]):=by
 refine BA.intro Tryz.func113 O O O fun w R=>?_;refine .ab [0,1] O<|.seq<|.a 3 O<|.lb 6 0 O<|.b [0,1,10] O<|.cb h O (fun h=>?_) (fun h=>?_)
 ·refine .ab [4] O ?_;cases h;exact .rv O O ⟨A1,c1,A2,c2,O,O⟩ zw
 refine .sk<|.pr [0,1] O<|.seq<|.seq<|.bd h fun o1 hj1 h=>.cu 0 [0,1, .s 21 (.bool o1)] [] O O ?_ ?_
 ·refine .region<|.n 3 O<|.gs 13 hj1 O (fun hj1=>?_) (fun hj1=>?_)
  ·cases hj1;exact .be O<|.hU O zw
  refine .n 4 O<|.BN O O<|.lb 2 0 O ?_;cases hj1;exact .be O<|.hU O zw
 refine .cb h O (fun h=>?_) (fun h=>?_)
 ·refine .ab [4] O ?_;cases h;exact .rv O O ⟨A1,c1,A2,c2,O,O⟩ zw
 refine .sk<|.pr [0,1] O<|.a 3 O<|.lb 2 0 O<|.p O O<|.bd h fun x1 hx1 h=>.PW hx1 2 O fun g1 hA=>?_;subst hA;refine .MJ 0 hx1 O O (zm 2 O) O O<|.p O O<|.PW hx1 2 O fun g2 hA=>?_;cases hA;refine .bd h fun l1 hl1 h=>.TB 0 hx1 hl1 O O (CS 2 O) O O O O O ?_;refine .ss 25 (wY hl1)<|.AY (F':=.res (zI zU 3 (some ⟨g1,0,none⟩) c2 l1):: .res (Box AZ 187 [.int .i64 CG.Size, .slice A1 CG.Data.length c1, .slice (some ⟨g1,0,none⟩) l1.length c2, .int .i64 CG.Steps, .int .i64 CG.Left, .int .u8 CG.JL, .bool CG.Down]):: .res (zI AQ 5 A1 c1 CG.Data)::R) (fun _ w=>by rw [sV hl1]; exact w)<|.b [0,1] O<|.seq<|.a 1 O<|.bd h fun r1 hr1 h=>.ct 3 [] [1,1] 0 (gH hr1) zPt O fun A3 c3 A4 c4=>.b [0,1,32] O<|.cb h O (fun h=>?_) (fun h=>?_)
 ·refine .seq<|.a 4 O<|.lb 0 0 O<|.b [0,1,5] O<|.bd h fun o2 hl1 h=>.DV 3 (fun (e3:Option Addr × Nat × Option Addr × Nat)=>[]) (fun e3=>[.res (zI zU 3 e3.2.2.1 e3.2.2.2 o2.DT), .res (zI AQ 5 e3.1 e3.2.1 o2.Data), .res (Box AZ 187 (yG o2 e3.1 e3.2.1 e3.2.2.1 e3.2.2.2))]) O O ?_ ?_
  ·refine .block<|.BM hl1 3 (fun (s1:yD × Int) (e2:Option Addr × Nat × Option Addr × Nat)=>[0,1, .s 5 (.int .i64 s1.2)]) (fun s1 e2=>[.res (zI zU 3 e2.2.2.1 e2.2.2.2 s1.1.DT), .res (zI AQ 5 e2.1 e2.2.1 s1.1.Data), .res (Box AZ 187 (yG s1.1 e2.1 e2.2.1 e2.2.2.1 e2.2.2.2))]) O O (A3,c3,A4,c4) (zb O) (zl [2,1] 0 O) ?_;rintro s1 ⟨A5,c5,A6,c6⟩ st1 hm1 hd1 h1;refine .seq<|.a 6 O<|.lb 0 2 O<|.b [0,1,5,47] O<|.cb h1 O (fun h1=>?_) (fun h1=>?_)
   ·refine .sk<|.pr [0,1,5] O<|.seq<|.block<|.bd h1 fun x2 hx2 h1=>.QE EO hx2 fun g3 hA=>?_;subst hA;refine .BI (iN [0,4,8,13,16,20,24,28,33,36,41,45,48,52,56,61,64,69,75] .nil) _ mixed (by kernel_rfl) (zl [0] 2 O)<|.yn 3 O<|.yx 1 2 O<|.yn 4 O<|.yx 1 2 O<|.yn 1 O<|.bd h1 fun x3 hx3 h1=>.JC (Rd.TA (E:=AQ) hx3 O O O O O O O) O<|.JC (Rd.MJ 0 hx3 O EO O O) O<|.yn 3 O<|.yx 5 2 O<|.yn 1 O<|.bd h1 fun x4 hx4 h1=>.JC (Rd.TA (E:=AQ) hx4 O O O O O O O) O<|.BV<|.bd h1 fun l2 hl2 h1=>.TB 0 hx4 hl2 O O (.s .z) O O O O O ?_;refine .ss 53 (wY hl2) ?_;refine .ss 58 (wY hl2)<|.AY (F':=.res (zI AQ 5 (some ⟨g3,0,none⟩) c5 l2):: .res (zI zU 3 A6 c6 s1.1.DT):: .res (Box AZ 187 [.int .i64 s1.1.Size, .slice (some ⟨g3,0,none⟩) l2.length c5, .slice A6 s1.1.DT.length c6, .int .i64 s1.1.Steps, .int .i64 s1.1.Left, .int .u8 s1.1.JL, .bool s1.1.Down])::R) (fun _ w=>by rw [sV hl2]; exact w)<|.xk (zl [1] 2 O)<|.CQ<|.BL<|.AO<|.pr [0,1,5] O<|.region ?_;cases h1;exact .be O<|.ag ((some ⟨g3,0,none⟩),c5,A6,c6) hm1 O (zl [1] 0 O)
   refine .xq O ?_;cases h1;cases hd1 _ rfl
   exact .AO<|.QB (A5,c5,A6,c6) trivial zw
  rintro ⟨A7,c7,A8,c8⟩;refine .ae O ?_;cases h;exact .rv O O ⟨A7,c7,A8,c8,O,O⟩ (zl [2,1] 0 O)
 refine .sk<|.pr [0,1] O<|.seq<|.a 4 O<|.lb 0 0 O<|.b [0,1,6] O<|.bd h fun o3 hl2 h=>.DV 3 (fun (e5:Option Addr × Nat × Option Addr × Nat)=>[]) (fun e5=>[.res (zI zU 3 e5.2.2.1 e5.2.2.2 o3.DT), .res (zI AQ 5 e5.1 e5.2.1 o3.Data), .res (Box AZ 187 (yG o3 e5.1 e5.2.1 e5.2.2.1 e5.2.2.2))]) O O ?_ ?_
 ·refine .block<|.BM hl2 3 (fun (s2:yD × Int) (e4:Option Addr × Nat × Option Addr × Nat)=>[0,1, .s 6 (.int .i64 s2.2)]) (fun s2 e4=>[.res (zI zU 3 e4.2.2.1 e4.2.2.2 s2.1.DT), .res (zI AQ 5 e4.1 e4.2.1 s2.1.Data), .res (Box AZ 187 (yG s2.1 e4.1 e4.2.1 e4.2.2.1 e4.2.2.2))]) O O (A3,c3,A4,c4) (zb O) (zl [2,1] 0 O) ?_;rintro s2 ⟨A9,c9,EC,c10⟩ st2 hm2 hd2 h2;refine .seq<|.a 6 O<|.lb 0 2 O<|.b [0,1,6,82] O<|.cb h2 O (fun h2=>?_) (fun h2=>?_)
  ·refine .sk<|.pr [0,1,6] O<|.seq<|.block<|.region<|.n 3 O<|.lb 1 2 O<|.p O O<|.bd h2 fun x5 hx5 h2=>.PW hx5 1 O fun g6 hA=>?_;subst hA;refine .bd h2 fun l3 hl3 h2=>.TB 0 hx5 hl3 O O (.s .z) O O O O O ?_;refine .ss 88 (wY hl3)<|.AY (F':=.res (zI AQ 5 (some ⟨g6,0,none⟩) c9 l3):: .res (zI zU 3 EC c10 s2.1.DT):: .res (Box AZ 187 [.int .i64 s2.1.Size, .slice (some ⟨g6,0,none⟩) l3.length c9, .slice EC s2.1.DT.length c10, .int .i64 s2.1.Steps, .int .i64 s2.1.Left, .int .u8 s2.1.JL, .bool s2.1.Down])::R) (fun _ w=>by rw [sV hl3]; exact w)<|.done<|.BL<|.AO<|.pr [0,1,6] O<|.region ?_;cases h2;exact .be O<|.ag ((some ⟨g6,0,none⟩),c9,EC,c10) hm2 O (zl [1] 0 O)
  refine .xq O ?_;cases h2;cases hd2 _ rfl
  exact .AO<|.QB (A9,c9,EC,c10) trivial zw
 rintro ⟨EW,c11,FX,c12⟩;refine .ae O ?_;cases h;exact .rv O O ⟨EW,c11,FX,c12,O,O⟩ (zl [2,1] 0 O)
theorem zTR:BX Tryz.prog 114:=en Tryz.func114 (by kernel_rfl)
def kP [AP] (EM:Int) (EN:Int):Option (List Int):=
 bnd (yC (τ:=List Int) (fun (s1:Int × List Int × Int)=>bif decide (s1.2.2<EN) then (bnd (app 1 s1.2.1 [wrap .u8 (s1.1.tmod 256)]) fun l1=>some (.next (wrap .u64 (s1.1.tdiv 256),l1,wrap .i64 (s1.2.2+1)))) else (some (.done s1.2.1))) (EM, [],0)) fun o1=>some o1
theorem zGx [AP] {EM EN r} (h:kP EM EN=some r):
    BA Tryz.prog 114 [.int .u64 EM, .int .i64 EN] [] (fun v F=>∃ A1 c1,v= .slice A1 r.length c1∧F= [.res (zI AQ 5 A1 c1 r)]):=by
 refine BA.intro Tryz.func114 O O O fun w R=>?_;refine .ab [0,1] O<|.ae O<|.seq<|.ae O<|.AY (fun _ w=>w.HY AQ 5)<|.bd h fun o1 hl1 h=>.DV 1 (fun (e2:Option Addr × Nat)=>[.s 5 (.slice e2.1 o1.length e2.2)]) (fun e2=>[.res (zI AQ 5 e2.1 e2.2 o1)]) O O ?_ ?_
 ·refine .block<|.BM hl1 1 (fun (s1:Int × List Int × Int) (e1:Option Addr × Nat)=>[.s 0 (.int .u64 s1.1),1, .s 5 (.slice e1.1 s1.2.1.length e1.2), .s 6 (.int .i64 s1.2.2)]) (fun s1 e1=>[.res (zI AQ 5 e1.1 e1.2 s1.2.1)]) O O (none,0) (zb O) (fun _ w=>w) ?_;rintro s1 ⟨A1,c1⟩ st1 hm1 hd1 h1;refine .seq<|.ab [0,1,5,6,9] O<|.cb h1 O (fun h1=>?_) (fun h1=>?_)
  ·refine .sk<|.pr [0,1,5,6] O<|.seq<|.block<|.a 4 O<|.bS O fun g1=>.bd h1 fun l1 hl1 h1=>.app (E:=AQ) hl1 O O O (.s .z) O O O O O O O O (iV (.head _) O O) O O fun A3 c3=>.bf [0,1,5,6] [0] 1 O O<|.region<|.n 3 O<|.done<|.BL<|.AO<|.pr [0,1,5,6] O<|.region ?_;cases h1;exact .be O<|.ag (A3,c3) hm1 O zw
  refine .xq O ?_;cases h1;cases hd1 _ rfl
  exact .AO<|.hE (A1,c1) O zw
 rintro ⟨A2,c2⟩;refine .ab [4] O ?_;cases h;exact .rv O O ⟨A2,c2,O,O⟩ zw
theorem Eo:BX Tryz.prog 46:=en Tryz.func46 (by kernel_rfl)
def xA [AP] (AX:zH) (FB:(List zD)) (CO:yD):Option (zH × yD × Int):=
 bnd (qQ AX FB CO) fun r1=>bif (r1.2 != 0) then (some (r1.1,CO,r1.2)) else (bif ((FB.length:Int)==0) then (some (r1.1,CO,0)) else (bnd (gP FB) fun r2=>bnd (pH r1.1.Keys r2) fun r3=>bnd (mN FB) fun r4=>bnd ((bif decide (r1.1.Active≥0) then (bnd (nD r1.1.F_) fun bb1=>bnd (tD CO.Data.length (wrap .i64 ((wrap .i64 ((wrap .i64 (r1.1.First+r1.1.Active))*CO.Size))+r1.1.Tail)) (wrap .i64 ((wrap .i64 ((wrap .i64 (r1.1.First+r1.1.Active))*CO.Size))+CO.Size))) fun n1=>bnd ((bif decide ((r4.length:Int)≤(n1:Int)) then (bnd (sub CO.Data ((Int.toNat (wrap .i64 ((wrap .i64 ((wrap .i64 (r1.1.First+r1.1.Active))*CO.Size))+r1.1.Tail)):Nat):Int) (((Int.toNat (wrap .i64 ((wrap .i64 ((wrap .i64 (r1.1.First+r1.1.Active))*CO.Size))+r1.1.Tail)))+n1:Nat):Int)) fun l1=>bnd (qG l1) fun r5=>some r5) else (some false):Option Bool)) fun o3=>bif o3 then (bnd (xT CO (wrap .i64 ((wrap .i64 ((wrap .i64 (r1.1.First+r1.1.Active))*CO.Size))+r1.1.Tail)) r4) fun r6=>bif (r6.2 != 0) then (bnd (wO r1.1) fun r7=>some (.inl (r7.1,r6.1,r7.2))) else (some (.inl ((⟨r1.1.F_,r1.1.First,r1.1.Active,r1.1.Gen,r3,wrap .i64 (r1.1.Tail+(r4.length:Int)),r1.1.KA⟩:zH),r6.1,0)))) else (bif (r1.1.Gen==2147483648) then (some (.inl (r1.1,CO,3))) else (some (.inr true)))) else (some (.inr r1.1.F_)):Option ((zH × yD × Int) ⊕ Bool))) fun o1=>xL o1 fun o2=>bnd ((bif (r1.1.Active==0) then (some 1) else (some 0):Option Int)) fun o4=>bnd (nD o2) fun bb2=>bnd ((bnd (tD CO.Data.length (wrap .i64 ((wrap .i64 (r1.1.First+o4))*CO.Size)) (wrap .i64 ((wrap .i64 ((wrap .i64 (r1.1.First+o4))*CO.Size))+CO.Size))) fun n2=>bnd (sub CO.Data ((Int.toNat (wrap .i64 ((wrap .i64 (r1.1.First+o4))*CO.Size)):Nat):Int) (((Int.toNat (wrap .i64 ((wrap .i64 (r1.1.First+o4))*CO.Size)))+n2:Nat):Int)) fun l2=>bnd (qG l2) fun r8=>bif !r8 then (bnd (qR CO (wrap .i64 (r1.1.First+o4))) fun r9=>bif (r9.2 != 0) then (bnd (wO r1.1) fun r10=>some (.inl (r10.1,r9.1,r10.2))) else (some (.inr r9.1))) else (some (.inr CO)):Option ((zH × yD × Int) ⊕ yD))) fun o5=>xL o5 fun o6=>bnd (kP (wrap .u64 (wrap .i64 (r1.1.Gen+1))) 4) fun r11=>bnd (xT o6 (wrap .i64 ((wrap .i64 (r1.1.First+o4))*CO.Size)) r11) fun r12=>bif (r12.2 != 0) then (bnd (wO r1.1) fun r13=>some (r13.1,r12.1,r13.2)) else (bnd ((bif decide ((r3.length:Int)>0) then (bnd (mN r3) fun QN=>bnd (xT r12.1 (wrap .i64 ((wrap .i64 ((wrap .i64 (r1.1.First+o4))*CO.Size))+5)) QN) fun QO=>bif (QO.2 != 0) then (bnd (wO r1.1) fun r16=>some (.inl (r16.1,QO.1,r16.2))) else (some (.inr (wrap .i64 (5+(QN.length:Int)),QO.1)))) else (some (.inr (5,r12.1))):Option ((zH × yD × Int) ⊕ (Int × yD)))) fun o7=>xL o7 fun o8=>bnd (xT o8.2 (wrap .i64 ((wrap .i64 ((wrap .i64 (r1.1.First+o4))*CO.Size))+4)) ([0])) fun YG=>bif (YG.2 != 0) then (bnd (wO r1.1) fun WY=>some (WY.1,YG.1,WY.2)) else (some ((⟨r1.1.F_,r1.1.First,o4,wrap .i64 (r1.1.Gen+1),r3,o8.1,r1.1.KA⟩:zH),YG.1,0)))))
theorem tA [AP] {AX FB CO A1 c1 A2 c2 A3 c3 A4 c4 AZ BJ r} (h:xA AX FB CO=some r):
    BA Tryz.prog 46 [.pointer (some ⟨AZ,0,none⟩), .slice A2 FB.length c2] [.ro (Sl (zT zJ) A1 c1 AX.Keys), .ro (Sl (zT zJ) A2 c2 FB), .res (Box AZ 189 (yL AX BJ A1 c1)), .res (Box BJ 187 (yG CO A3 c3 A4 c4)), .res (zI AQ 5 A3 c3 CO.Data), .res (zI zU 3 A4 c4 CO.DT)] (fun v F=>∃ A5 c5 A6 c6 A7 c7,v= .int .i64 r.2.2∧F= [.ro (Sl (zT zJ) A5 c5 r.1.Keys), .res (Box AZ 189 (yL r.1 BJ A5 c5)), .res (Box BJ 187 (yG r.2.1 A6 c6 A7 c7)), .res (zI AQ 5 A6 c6 r.2.1.Data), .res (zI zU 3 A7 c7 r.2.1.DT)]):=by
 refine BA.intro Tryz.func46 O O O fun w R=>?_;refine .ab [0,1] O<|.seq<|.a 2 O<|.bd h fun r1 hr1 h=>.cr 7 [4,5] [2,2,2,2] 0 (zBw (AZ:=AZ) (BJ:=BJ) hr1) zTp O fun A5 c5=>.bf [0,1,5] [0,0,0,0,0] 1 O O<|.ab [0,1,5,19] O<|.cb h O (fun h=>?_) (fun h=>?_)
 ·refine .EK [4] [0,0,0,0,0] 1 O O ?_;cases h;exact .rv O O ⟨A5,c5,A3,c3,A4,c4,O,O⟩ (zk 5 1 [4] [1,1,1,1] 0 O)
 refine .sk<|.pr [0,1] O<|.seq<|.ab [0,1,23] O<|.cb h O (fun h=>?_) (fun h=>?_)
 ·refine .EK [4] [0,0,0,0,0] 1 O O ?_;cases h;exact .rv O O ⟨A5,c5,A3,c3,A4,c4,O,O⟩ (zk 5 1 [4] [1,1,1,1] 0 O)
 refine .sk<|.pr [0,1] O<|.a 3 O<|.lb 0 1 O<|.b [0,1,6] O<|.seq<|.BI (iN [0,4,8,12,16,23,27,28] .nil) _ mixed (by kernel_rfl) zw<|.yn 3 O<|.yl 4 1 O<|.yn 1 O<|.BV<|.bd h fun r2 hr2 h=>.cr 7 [5] [] 0 (zIB hr2) zSB O fun A6 c6=>.xk (zl [] 1 O)<|.BV<|.AY (fun _ w=>w.IJ)<|.bd h fun r3 hr3 h=>.cr 8 [1,0] [] 0 (dY hr3) zQU O fun A7 c7=>.xk (zl [] 2 O)<|.yn 1 O<|.CQ<|.AO<|.pf [0,1,6,7] [0] 1 O O<|.a 1 O<|.bd h fun r4 hr4 h=>.cr 8 [6] [] 0 (zBC hr4) zPU O fun A8 c8=>.bf [0,6,7,8] [0,0,0,0,0,0,0] 1 O O<|.seq<|.bd h fun o1 hj1 h=>.ES 1 (fun (o2:Bool) (e1:Unit)=>[0, .s 6 (.pointer (kR o2 BJ)),7]) (fun o2 e1=>[]) O O (fun o2=>o1= .inr o2) ?_ ?_
 ·refine .a 3 O<|.lb 2 3 O<|.b [0,6,7,8,41] O<|.cb hj1 O (fun hj1=>?_) (fun hj1=>?_)
  ·refine .seq<|.regionF mixed (by kernel_rfl)<|.n 3 O<|.lb 1 3 O<|.n 3 O<|.lb 2 3 O<|.n 2 O<|.bd hj1 fun bb1 KD hj1=>?_;refine .ss 6 (uD KD) ?_;refine .ss 51 (uD KD)<|.n 2 O<|.lb 0 4 O<|.bq [0,6,7,8,9] O<|.seq<|.regionF mixed (by kernel_rfl)<|.n 3 O<|.lb 1 4 O<|.n 4 O<|.lb 5 3 O<|.n 5 O<|.lb 0 4 O<|.p O O<|.bd hj1 fun n1 hn1 hj1=>.part (E:=AQ) hn1 O O (zm 5 O) O O O O O O O<|.bq [0,6,7,8,9,10] O<|.seq<|.seq<|.bd hj1 fun o3 hj2 hj1=>.cu 0 [0,6,7,8,9, .s 81 (.bool o3)] [] O O ?_ ?_
   ·refine .region<|.n 6 O<|.gs 78 hj2 O (fun hj2=>?_) (fun hj2=>?_)
    ·refine .n 1 O<|.BN O O<|.bd hj2 fun l1 hl1 hj2=>?_;refine .ss 10 (mM hl1) ?_;refine .ss 75 (mM hl1) ?_;refine .ss 79 (mM hl1)<|.bd hj2 fun r5 JH hj2=>.OV (zBA JH) zPA O O O O (mG.part kQ hl1 (zm 5 O) mG.nil) ?_;cases hj2;exact .be O<|.hU O zw
    cases hj2;exact .be O<|.hU O zw
   refine .cb hj1 O (fun hj1=>?_) (fun hj1=>?_)
   ·refine .seq<|.a 5 O<|.lb 5 3 O<|.n 2 O<|.AY (fun _ w=>w.BU)<|.bd hj1 fun r6 KU hj1=>.ct 7 [3] [4,4,4] 0 (rF KU) Sz O fun A9 c9 EC c10=>.b [0,7,8,91] O<|.cb hj1 O (fun hj1=>?_) (fun hj1=>?_)
    ·refine .a 1 O<|.bd hj1 fun r7 OY hj1=>.cr 8 [6] [6] 0 (tO (AZ:=AZ) OY) yu O fun EW c11=>.bf [4] [0,0,0,0,0] 3 O O ?_;cases hj1;have h:some _=some _:=h;cases h;exact .rv O O ⟨EW,c11,A9,c9,EC,c10,O,O⟩ (zk 5 1 [4] [1,1,1,1] 0 O)
    refine .sk<|.pr [0,7,8] O<|.a 4 O<|.sb 4 6 O<|.bf [0,8] [0,0,0,0,0,0] 1 O O<|.a 3 O<|.lb 5 0 O<|.n 5 O<|.sb 5 0 O<|.bf [] [0,0,0,0] 1 O O<|.ae O ?_;cases hj1;have h:some _=some _:=h;cases h;exact .rv O O ⟨A7,c7,A9,c9,EC,c10,O,O⟩ (zk 5 1 [4] [] 0 O)
   refine .sk<|.pf [0,6,7] [] 1 O O<|.a 3 O<|.lb 3 2 O<|.b [0,6,7,111] O<|.cb hj1 O (fun hj1=>?_) (fun hj1=>?_)
   ·refine .EK [4] [] 1 O O ?_;cases hj1;have h:some _=some _:=h;cases h;exact .rv O O ⟨A5,c5,A3,c3,A4,c4,O,O⟩ (zk 5 1 [4] [1,1,1,1] 0 O)
   cases hj1;exact .sk<|.CZ true () O (zb O) zw
  cases hj1;exact .sk<|.CZ r1.1.F_ () O (zb O) (zl [] 1 O)
 rintro o2 e1 ho;subst ho;have h:=JG h;refine .ae O<|.seq<|.bd h fun o4 hj3 h=>.cu 0 [0,6,7, .s 11 (.int .i64 o4)] [] O O ?_ ?_
 ·refine .a 3 O<|.lb 2 2 O<|.b [0,6,7,11,116] O<|.cb hj3 O (fun hj3=>?_) (fun hj3=>?_)
  ·refine .region ?_;cases hj3;exact .be O<|.hU O zw
  cases hj3;exact .sk<|.hU O zw
 refine .seq<|.regionF mixed (by kernel_rfl)<|.n 3 O<|.lb 1 2 O<|.n 3 O<|.bd h fun bb2 MZ h=>?_;refine .ss 6 (uD MZ) ?_;refine .ss 123 (uD MZ)<|.n 2 O<|.lb 0 3 O<|.bq [0,6,7,11,12] O<|.seq<|.bd h fun o5 FZ h=>.ES 6 (fun (o6:yD) (e4:Option Addr × Nat × Option Addr × Nat)=>[0,6,7,11,12]) (fun o6 e4=>[.res (zI zU 3 e4.2.2.1 e4.2.2.2 o6.DT), .res (zI AQ 5 e4.1 e4.2.1 o6.Data),0,1,2, .res (Box BJ 187 (yG o6 e4.1 e4.2.1 e4.2.2.1 e4.2.2.2))]) O O (fun o6=>o5= .inr o6) ?_ ?_
 ·refine .seq<|.regionF mixed (by kernel_rfl)<|.n 3 O<|.lb 1 3 O<|.n 5 O<|.lb 0 3 O<|.p O O<|.bd FZ fun n2 hn2 FZ=>.part (E:=AQ) hn2 O O (zm 4 O) O O O O O O O<|.bd FZ fun l2 hl2 FZ=>?_;refine .ss 139 (mM hl2)<|.bd FZ fun r8 OZ FZ=>.OV (zBA OZ) zPA O O O O (mG.part kQ hl2 (zm 4 O) mG.nil)<|.bq [0,6,7,11,12,141] O<|.cb FZ O (fun FZ=>?_) (fun FZ=>?_)
  ·refine .a 4 O<|.lb 1 2 O<|.n 2 O<|.bd FZ fun r9 QW FZ=>.ct 6 [] [3,3,3] 0 (zBp QW) zUj O fun GU c14 KL c15=>.b [0,6,7,11,12,150] O<|.cb FZ O (fun FZ=>?_) (fun FZ=>?_)
   ·refine .a 1 O<|.bd FZ fun r10 LH FZ=>.cr 7 [5] [5] 0 (tO (AZ:=AZ) LH) yu O fun LG c16=>.bf [4] [0,0,0,0,0] 2 O O ?_;cases FZ;have h:some _=some _:=h;cases h;exact .rv O O ⟨LG,c16,GU,c14,KL,c15,O,O⟩ (zk 5 1 [4] [1,1,1,1] 0 O)
   cases FZ;exact .sk<|.CZ r9.1 (GU,c14,KL,c15) O (zb O) (zl [2,1,1,1,1] 0 O)
  cases FZ;exact .sk<|.CZ CO (A3,c3,A4,c4) O (zb O) (zl [5,4] 0 O)
 rintro o6 ⟨FX,c12,IE,c13⟩ ho;subst ho;have h:=JG h;refine .seq<|.a 5 O<|.lb 3 4 O<|.n 2 O<|.bd h fun r11 PD h=>.cr 7 [] [] 0 (zGx PD) zTR O fun LY c17=>.AY (fun _ w=>w.BU)<|.bd h fun r12 PE h=>.ct 7 [3] [6,2,1] 0 (rF PE) Sz O fun KO c18 JS c19=>.bf [0,6,7,11,12,163] [0,0,0] 1 O O<|.cb h O (fun h=>?_) (fun h=>?_)
 ·refine .a 1 O<|.bd h fun r13 RU h=>.cr 7 [5] [5] 0 (tO (AZ:=AZ) RU) yu O fun JU c20=>.bf [4] [0,0,0,0,0] 2 O O ?_;cases h;exact .rv O O ⟨JU,c20,KO,c18,JS,c19,O,O⟩ (zk 5 1 [4] [1,1,1,1] 0 O)
 refine .sk<|.pr [0,6,7,11,12] O<|.ae O<|.seq<|.bd h fun o7 JB h=>.ES 3 (fun (o8:Int × yD) (e5:Option Addr × Nat × Option Addr × Nat)=>[0,6,7,11,12, .s 13 (.int .i64 o8.1)]) (fun o8 e5=>[.res (zI zU 3 e5.2.2.1 e5.2.2.2 o8.2.DT), .res (zI AQ 5 e5.1 e5.2.1 o8.2.Data), .res (Box BJ 187 (yG o8.2 e5.1 e5.2.1 e5.2.2.1 e5.2.2.2))]) O O (fun o8=>o7= .inr o8) ?_ ?_
 ·refine .ab [0,6,7,11,12,13,168] O<|.cb JB O (fun JB=>?_) (fun JB=>?_)
  ·refine .a 1 O<|.bd JB fun QN VS JB=>.cr 7 [3] [] 0 (zBC VS) zPU O fun OJ c23=>.b [0,6,7,11,12,13,14] O<|.seq<|.a 4 O<|.AY (fun _ w=>w.BU)<|.bd JB fun QO VT JB=>.ct 7 [3] [1,1,1] 0 (rF VT) Sz O fun TM c24 RP c25=>.b [0,6,7,11,12,13,14,176] O<|.cb JB O (fun JB=>?_) (fun JB=>?_)
   ·refine .a 1 O<|.bd JB fun r16 VU JB=>.cr 8 [6] [6] 0 (tO (AZ:=AZ) VU) yu O fun UI QL=>.bf [4] [0,0,0,0,0] 3 O O ?_;cases JB;have h:some _=some _:=h;cases h;exact .rv O O ⟨UI,QL,TM,c24,RP,c25,O,O⟩ (zk 5 1 [4] [1,1,1,1] 0 O)
   refine .sk<|.pr [0,6,7,11,12,13,14] O<|.region ?_;cases JB;exact .be O<|.CZ (wrap .i64 (5+(QN.length:Int)),QO.1) (TM,c24,RP,c25) O (zb O) (zl [2,1,0] 1 O)
  cases JB;exact .sk<|.CZ (5,r12.1) (KO,c18,JS,c19) O (zb O) (zl [2,1] 0 O)
 rintro o8 ⟨KE,c21,LP,LQ⟩ ho;subst ho;have h:=JG h;refine .seq<|.a 3 O<|.bS O fun g1=>.AY (fun _ w=>w.IL (E:=AQ) (e:=5) [0] O O)<|.AY (fun _ w=>w.BU)<|.bd h fun YG lm h=>.ct 7 [3] [3,2,1] 0 (rF lm) Sz O fun RQ RS QX c28=>.bf [0,7,11,13,188] [0,0,0] 1 O O<|.cb h O (fun h=>?_) (fun h=>?_)
 ·refine .a 1 O<|.bd h fun WY lq h=>.cr 7 [5] [5] 0 (tO (AZ:=AZ) lq) yu O fun QY c29=>.bf [4] [0,0,0,0,0] 2 O O ?_;cases h;exact .rv O O ⟨QY,c29,RQ,RS,QX,c28,O,O⟩ (zk 5 1 [4] [1,1,1,1] 0 O)
 refine .sk<|.pr [0,7,11,13] O<|.a 4 O<|.sb 2 5 O<|.b [0,7,13] O<|.a 3 O<|.lb 3 0 O<|.n 3 O<|.sb 3 0 O<|.b [0,7,13] O<|.a 4 O<|.sb 4 0 O<|.bf [0,13] [0,0,0,0,0] 1 O O<|.a 4 O<|.sb 5 0 O<|.b [] O<|.ae O ?_;cases h;exact .rv O O ⟨A7,c7,RQ,RS,QX,c28,O,O⟩ (zk 5 1 [4] [] 0 O)
theorem zTO:BX Tryz.prog 199:=en Tryz.func199 (by kernel_rfl)
def sR [AP] (AL:zY) (BG:zH) (FH:yD):Option (zY × zH × yD × Int):=
 bnd (qU AL) fun r1=>bnd ((bif (AL.phase==2) then (bif decide (r1<(AL.order.length:Int)) then (some true) else (bif (AL.phase==3) then (some (decide (r1>0))) else (some false))) else (bif (AL.phase==3) then (some (decide (r1>0))) else (some false)):Option Bool)) fun o1=>bif o1 then (some (AL,BG,FH,0)) else (bnd (nD AL.store) fun bb1=>bnd (xA BG ([(⟨32, [],true⟩:zD)]) FH) fun r2=>bif (r2.2.2 != 0) then (some (AL,r2.1,r2.2.1,r2.2.2)) else (some ((⟨AL.store,AL.devices,AL.needs,0,AL.BH,AL.mask, []⟩:zY),r2.1,r2.2.1,0)))
theorem zCa [AP] {AL BG FH A1 c1 A2 c2 A3 c3 A4 c4 A5 c5 A6 c6 A7 c7 A8 c8 AZ BJ DW r} (h:sR AL BG FH=some r):
    BA Tryz.prog 199 [.pointer (some ⟨AZ,0,none⟩)] [.ro (AV zS A2 c2 AL.needs), .ro (AV yW A3 c3 AL.BH.Have), .ro (AV AQ A4 c4 AL.BH.Data), .ro (AV zU A5 c5 AL.order), .ro (Sl (zT zJ) A6 c6 BG.Keys), .res (Box AZ 247 (yM AL BJ A1 c1 A2 c2 A3 c3 A4 c4 A5 c5)), .res (yU (zT zC) 64 A1 c1 AL.devices), .res (Box BJ 189 (yL BG DW A6 c6)), .res (Box DW 187 (yG FH A7 c7 A8 c8)), .res (zI AQ 5 A7 c7 FH.Data), .res (zI zU 3 A8 c8 FH.DT)] (fun v F=>∃ A9 c9 EC c10 EW c11 FX c12 IE c13 GU c14 KL c15 LG c16,v= .int .i64 r.2.2.2∧F= [.ro (AV zS EC c10 r.1.needs), .ro (AV yW EW c11 r.1.BH.Have), .ro (AV AQ FX c12 r.1.BH.Data), .ro (AV zU IE c13 r.1.order), .ro (Sl (zT zJ) GU c14 r.2.1.Keys), .res (Box AZ 247 (yM r.1 BJ A9 c9 EC c10 EW c11 FX c12 IE c13)), .res (yU (zT zC) 64 A9 c9 r.1.devices), .res (Box BJ 189 (yL r.2.1 DW GU c14)), .res (Box DW 187 (yG r.2.2.1 KL c15 LG c16)), .res (zI AQ 5 KL c15 r.2.2.1.Data), .res (zI zU 3 LG c16 r.2.2.1.DT)]):=by
 refine BA.intro Tryz.func199 O O O fun w R=>?_;refine .ab [0] O<|.a 1 O<|.bd h fun r1 hr1 h=>.cq 11 [2,3,4,5] [5,5] 0 (zBt (AZ:=AZ) hr1) zUi O<|.b [0,3] O<|.seq<|.seq<|.bd h fun o1 hj1 h=>.cu 0 [0, .s 31 (.bool o1)] [] O O ?_ ?_
 ·refine .region<|.n 3 O<|.lb 3 0 O<|.n 2 O<|.gs 12 hj1 O (fun hj1=>?_) (fun hj1=>?_)
  ·refine .n 4 O<|.BN O O<|.lb 9 0 O<|.n 4 O<|.gs 21 hj1 O (fun hj1=>?_) (fun hj1=>?_)
   ·cases hj1;exact .be O<|.hU O zw
   refine .n 3 O<|.BN O O<|.lb 3 0 O<|.n 2 O<|.gs 27 hj1 O (fun hj1=>?_) (fun hj1=>?_)
   ·cases hj1;exact .be O<|.hU O zw
   cases hj1;exact .be O<|.hU O zw
  refine .n 12 O<|.BN O O<|.lb 3 0 O<|.n 2 O<|.gs 27 hj1 O (fun hj1=>?_) (fun hj1=>?_)
  ·cases hj1;exact .be O<|.hU O zw
  cases hj1;exact .be O<|.hU O zw
 refine .cb h O (fun h=>?_) (fun h=>?_)
 ·refine .ab [2] O ?_;cases h;exact .rv O O ⟨A1,c1,A2,c2,A3,c3,A4,c4,A5,c5,A6,c6,A7,c7,A8,c8,O,O⟩ (zk 11 5 [6,7,8,9,10] [0,0,5,5,5,5] 0 O)
 refine .sk<|.pr [0] O<|.seq<|.a 3 O<|.lb 0 0 O<|.p O O<|.bS O fun g1=>.bd h fun bb1 KD h=>?_;refine .ss 35 (uD KD)<|.AY (fun _ w=>w.CU (CY AQ))<|.AY (fun _ w=>Sat.OU (ls:=zJ) (e:=107) [((⟨32, [],true⟩:zD),((none,0),()))] O O O ⟨(.head _),trivial⟩ (w.sl [1] 0 O))<|.AY (fun _ w=>w.IJ)<|.bd h fun r2 hr2 h=>.call (tA (AZ:=BJ) (BJ:=DW) hr2) Eo O O O (zd [12,4] [9,9,9,9] 0 O) ?_;rintro _ _ ⟨A9,c9,EC,c10,EW,c11,rfl,rfl⟩;refine .nm 14 O<|.bf [0,4] [0,0,0,0,0,2,2,2,2,2,2] 3 O O<|.ab [0,4,40] O<|.cb h O (fun h=>?_) (fun h=>?_)
 ·refine .ab [2] O ?_;cases h;exact .rv O O ⟨A1,c1,A2,c2,A3,c3,A4,c4,A5,c5,A9,c9,EC,c10,EW,c11,O,O⟩ (zk 11 5 [7,8,9,10,6] [5,5,1,1,1,1] 0 O)
 refine .sk<|.pr [0] O<|.a 4 O<|.sb 3 5 O<|.n 2 O<|.sb 9 0 O<|.bf [] [0,0,0,0,0,0,0,0,0,0] 1 O O<|.ae O<|.AY (fun _ w=>w.CU (CY zU)) ?_;cases h;exact .rv O O ⟨A1,c1,A2,c2,A3,c3,A4,c4,none,0,A9,c9,EC,c10,EW,c11,O,O⟩ (zk 11 5 [8,9,10,6,7] [1,6,2,2,2,2] 0 O)
theorem zPO:BX Tryz.prog 115:=en Tryz.func115 (by kernel_rfl)
def pU [AP] (store:zH) (devices:(List zB)) (needs:(List yX)) (FT:yD):Option (zH × yD × (Option zY) × Int):=
 bnd (jW devices needs) fun r1=>bif (r1 != 0) then (some (store,FT,none,r1)) else (bnd (kI devices) fun r2=>bnd (app 80 ([]) needs) fun l1=>bnd (yC (τ:=List zB) (fun (s1:Int × List zB)=>bif decide (s1.1<(s1.2.length:Int)) then (bnd (yC (τ:=List zB) (fun (s2:List zB)=>bnd ((bnd (BP s2 s1.1) fun x1=>bif x1.BK then (some (true,s2)) else (some ((x1.Running != x1.Active),s2)):Option (Bool × List zB))) fun o3=>bif o3.1 then (bnd (BP o3.2 s1.1) fun x2=>bnd (BP o3.2 s1.1) fun x3=>bnd (rO x3) fun r3=>bnd (BP o3.2 s1.1) fun x4=>bnd (rJ o3.2 s1.1 r3) fun l2=>some (.next l2)) else (some (.done o3.2))) s1.2) fun o2=>some (.next (wrap .i64 (s1.1+1),o2))) else (some (.done s1.2))) (0,r2)) fun o1=>bnd (tK store 32) fun r4=>bif !r4.2 then (some (store,FT,(some (⟨true,o1,l1,0,(⟨0,0, [], []⟩:xV),0, []⟩:zY)),0)) else (bnd (uP (⟨true,o1,l1,0,(⟨0,0, [], []⟩:xV),0, []⟩:zY) r4.1) fun r5=>bif !r5.2 then (some (store,FT,none,6)) else (bnd (sR r5.1 store FT) fun r6=>bif (r6.2.2.2 != 0) then (some (r6.2.1,r6.2.2.1,none,r6.2.2.2)) else (some (r6.2.1,r6.2.2.1,(some r6.1),0)))))
theorem zCH [AP] {store devices needs FT A1 c1 A2 c2 A3 c3 A4 c4 A5 c5 AZ BJ r} (h:pU store devices needs FT=some r):
    BA Tryz.prog 115 [.pointer (some ⟨AZ,0,none⟩), .slice A2 devices.length c2, .slice A3 needs.length c3] [.ro (Sl (zT zJ) A1 c1 store.Keys), .ro (Sl (zT zC) A2 c2 devices), .ro (AV zS A3 c3 needs), .res (Box AZ 189 (yL store BJ A1 c1)), .res (Box BJ 187 (yG FT A4 c4 A5 c5)), .res (zI AQ 5 A4 c4 FT.Data), .res (zI zU 3 A5 c5 FT.DT)] (VE r.2.2.1 (fun v F=>∃ A6 c6 A7 c7 A8 c8,v= .tuple #[.pointer none, .int .i64 r.2.2.2]∧F= [.ro (Sl (zT zJ) A6 c6 r.1.Keys), .res (Box AZ 189 (yL r.1 BJ A6 c6)), .res (Box BJ 187 (yG r.2.1 A7 c7 A8 c8)), .res (zI AQ 5 A7 c7 r.2.1.Data), .res (zI zU 3 A8 c8 r.2.1.DT)]) (fun q_ v F=>∃ g1 A6 c6 A7 c7 A8 c8 A9 c9 EC c10 EW c11 FX c12 IE c13,v= .tuple #[.pointer (some ⟨g1,0,none⟩), .int .i64 r.2.2.2]∧F= [.ro (Sl (zT zJ) A6 c6 r.1.Keys), .ro (AV zS EC c10 q_.needs), .ro (AV yW EW c11 q_.BH.Have), .ro (AV AQ FX c12 q_.BH.Data), .ro (AV zU IE c13 q_.order), .res (Box AZ 189 (yL r.1 BJ A6 c6)), .res (Box BJ 187 (yG r.2.1 A7 c7 A8 c8)), .res (zI AQ 5 A7 c7 r.2.1.Data), .res (zI zU 3 A8 c8 r.2.1.DT), .res (Box g1 247 (yM q_ AZ A9 c9 EC c10 EW c11 FX c12 IE c13)), .res (yU (zT zC) 64 A9 c9 q_.devices)])):=by
 refine BA.intro Tryz.func115 O O O fun w R=>?_;refine .ab [0,1,2] O<|.seq<|.a 2 O<|.bd h fun r1 hr1 h=>.cv [1,2] (zGS hr1) zUf O<|.b [0,1,2,8] O<|.ab [0,1,2,8,18] O<|.cb h O (fun h=>?_) (fun h=>?_)
 ·refine .EK [6,7] [0] 2 O O ?_;cases h;exact .rv O O (wS ⟨A1,c1,A4,c4,A5,c5,O,O⟩) (zk 5 1 [4] [1,1,1,1] 0 O)
 refine .sk<|.pr [0,1,2] O<|.a 2 O<|.bd h fun r2 hr2 h=>.cr 8 [1] [] 0 (zFZ hr2) zQq O fun A6 c6=>.p O O<|.AY (fun _ w=>w.HY zS 123)<|.bd h fun l1 hl1 h=>.app (E:=zS) hl1 O O O .z O O O O O O O O (gU (.tail _ (.tail _ (.tail _ (.tail _ (.head _)))))) O O fun A7 c7=>.p O O<|.box O O fun g1=>.bf [0,9] [0,0,0,0] 2 O O<|.seq<|.ae O<|.bd h fun o1 hl1 h=>.DV 3 (fun (e2:Option Addr × Nat)=>[0,9]) (fun e2=>[.res (yU (zT zC) 64 e2.1 e2.2 o1), .res (Box g1 247 [.pointer (some ⟨AZ,0,none⟩), .slice e2.1 o1.length e2.2, .slice A7 l1.length c7, .int .i64 0, .int .i64 0, .int .i64 0, .slice none 0 0, .slice none 0 0, .int .i64 0, .slice none 0 0]),1]) O O ?_ ?_
 ·refine .block<|.BM hl1 3 (fun (s1:Int × List zB) (e1:Option Addr × Nat)=>[0,9, .s 10 (.int .i64 s1.1)]) (fun s1 e1=>[.res (yU (zT zC) 64 e1.1 e1.2 s1.2), .res (Box g1 247 [.pointer (some ⟨AZ,0,none⟩), .slice e1.1 s1.2.length e1.2, .slice A7 l1.length c7, .int .i64 0, .int .i64 0, .int .i64 0, .slice none 0 0, .slice none 0 0, .int .i64 0, .slice none 0 0]),1]) O O (A6,c6) (zb O) (zl [2] 0 O) ?_;rintro s1 ⟨A8,c8⟩ st1 hm1 hd1 h1;refine .seq<|.a 4 O<|.lb 1 1 O<|.b [0,9,10,33] O<|.cb h1 O (fun h1=>?_) (fun h1=>?_)
  ·refine .sk<|.pr [0,9,10] O<|.seq<|.block<|.bd h1 fun o2 hl2 h1=>.IV<|.DV 2 (fun (e4:Option Addr × Nat)=>[0,9,10]) (fun e4=>[.res (yU (zT zC) 64 e4.1 e4.2 o2), .res (Box g1 247 [.pointer (some ⟨AZ,0,none⟩), .slice e4.1 o2.length e4.2, .slice A7 l1.length c7, .int .i64 0, .int .i64 0, .int .i64 0, .slice none 0 0, .slice none 0 0, .int .i64 0, .slice none 0 0])]) O O ?_ ?_
   ·refine .block<|.BM hl2 2 (fun (s2:List zB) (e3:Option Addr × Nat)=>[0,9,10]) (fun s2 e3=>[.res (yU (zT zC) 64 e3.1 e3.2 s2), .res (Box g1 247 [.pointer (some ⟨AZ,0,none⟩), .slice e3.1 s2.length e3.2, .slice A7 l1.length c7, .int .i64 0, .int .i64 0, .int .i64 0, .slice none 0 0, .slice none 0 0, .int .i64 0, .slice none 0 0])]) O O (A8,c8) (zb O) (fun _ w=>w) ?_;rintro s2 ⟨EC,c10⟩ st2 hm2 hd2 h2;refine .seq<|.seq<|.bd h2 fun o3 hj1 h2=>.DV 2 (fun (e5:Option Addr × Nat)=>[0,9,10, .s 62 (.bool o3.1)]) (fun e5=>[.res (yU (zT zC) 64 e5.1 e5.2 o3.2), .res (Box g1 247 [.pointer (some ⟨AZ,0,none⟩), .slice e5.1 o3.2.length e5.2, .slice A7 l1.length c7, .int .i64 0, .int .i64 0, .int .i64 0, .slice none 0 0, .slice none 0 0, .int .i64 0, .slice none 0 0])]) O O ?_ ?_
    ·refine .regionF mixed (by kernel_rfl)<|.n 3 O<|.lb 1 1 O<|.p O O<|.bd hj1 fun x1 hx1 hj1=>.TR hx1 O O O (.head _) O O O O O fun g2 hA=>?_;subst hA;refine .p O O<|.OI (ls:=zC) 15 (fun ex=>.bool x1.BK) hx1 O O (.head _) O (fun _=>O) fun FC=>?_;obtain ⟨⟨IE,c13⟩,⟨⟨GU,c14⟩,_⟩⟩:=FC;refine .nm 10 O<|.p O O<|.gs 44 hj1 O (fun hj1=>?_) (fun hj1=>?_)
     ·cases hj1;exact .beq O<|.hE ((some ⟨g2,0,none⟩),c10) O (zl [] 2 O)
     refine .n 3 O<|.BN O O<|.lb 1 3 O<|.n 1 O<|.BN O O<|.TR hx1 O O O (zm 2 O) O O O O O fun g3 hA=>?_;cases hA;refine .n 1 O<|.BN O O<|.OI (ls:=zC) 14 (fun ex=>.int .i64 x1.Running) hx1 O O (zm 2 O) O (fun _=>O) fun JQ=>?_;obtain ⟨⟨KL,c15⟩,⟨⟨LG,c16⟩,_⟩⟩:=JQ;refine .nm 12 O<|.n 3 O<|.BN O O<|.lb 1 5 O<|.n 1 O<|.BN O O<|.TR hx1 O O O (zm 4 O) O O O O O fun g4 hA=>?_;cases hA;refine .n 1 O<|.BN O O<|.OI (ls:=zC) 13 (fun ex=>.int .i64 x1.Active) hx1 O O (zm 4 O) O (fun _=>O) fun MX=>?_;obtain ⟨⟨LY,c17⟩,⟨⟨KO,c18⟩,_⟩⟩:=MX;refine .nm 14 O ?_;cases hj1;exact .beq O<|.hE ((some ⟨g2,0,none⟩),c10) O (zl [] 6 O)
    rintro ⟨FX,c12⟩;refine .cb h2 O (fun h2=>?_) (fun h2=>?_)
    ·refine .sk<|.pr [0,9,10] O<|.block<|.bd h2 fun x2 hx2 h2=>.RI (.head _) hx2 fun g5 hA=>?_;subst hA;refine .bd h2 fun x3 hx3 h2=>.bd h2 fun r3 hr3 h2=>.bd h2 fun x4 hx4 h2=>.bd h2 fun l2 hl2 h2=>.BI (iN [0,4,8,16,20,24,28,36] (.alt (iN [15] (iN [35,40] (iN [47] (iN [51,53] (iN [59] .nil))))) (iN [35,40] (.alt (iN [15] (iN [47] (iN [51,53] (iN [59] .nil)))) (iN [47] (.alt (iN [15] (iN [51,53] (iN [59] .nil))) (iN [51] (iN [15,53] (iN [59] .nil))))))))) _ mixed (by kernel_rfl) (zl [] 2 O)<|.DX (Y:=?IZ) 0 (fun (e:Option Addr × Nat × Option Addr × Nat × Option Addr × Nat × Option Addr × Nat)=>[0,9,10, .s 66 (.slice (some ⟨g5,0,none⟩) o3.2.length c12), .s 67 (.int .i64 s1.1), .s 71 (.slice (some ⟨g5,0,none⟩) o3.2.length c12), .s 72 (.int .i64 s1.1), .s 75 (.agg (zF r3 e.1 e.2.1 e.2.2.1 e.2.2.2.1).toArray), .s 76 (.pointer (some ⟨g5,Int.toNat s1.1*16,none⟩))]) (fun e=>[.ro (AV AQ e.1 e.2.1 r3.Slots.e0.AU.Data), .ro (AV AQ e.2.2.1 e.2.2.2.1 r3.Slots.e1.AU.Data), .ro (AV AQ e.2.2.2.2.1 e.2.2.2.2.2.1 x3.Slots.e0.AU.Data), .ro (AV AQ e.2.2.2.2.2.2.1 e.2.2.2.2.2.2.2 x3.Slots.e1.AU.Data)]) O O (fun DL=>?EQ) ?ER
     case EQ=>
      refine .DX (Y:=?KZ) 0 (fun (e:Option Addr × Nat × Option Addr × Nat)=>[0,9,10, .s 66 (.slice (some ⟨g5,0,none⟩) o3.2.length c12), .s 67 (.int .i64 s1.1), .s 71 (.slice (some ⟨g5,0,none⟩) o3.2.length c12), .s 72 (.int .i64 s1.1), .s 74 (.agg (zF x3 e.1 e.2.1 e.2.2.1 e.2.2.2).toArray)]) (fun e=>[.ro (AV AQ e.1 e.2.1 x3.Slots.e0.AU.Data), .ro (AV AQ e.2.2.1 e.2.2.2 x3.Slots.e1.AU.Data)]) O O (fun EU=>?GL) ?GN
      case GL=>
       refine .DX (Y:=?RV) 0 (fun (e:Unit)=>[0,9,10, .s 66 (.slice (some ⟨g5,0,none⟩) o3.2.length c12), .s 67 (.int .i64 s1.1), .s 71 (.slice (some ⟨g5,0,none⟩) o3.2.length c12), .s 72 (.int .i64 s1.1), .s 73 (.pointer (some ⟨g5,Int.toNat s1.1*16,none⟩))]) (fun e=>[]) O O (fun JI=>?LJ) ?LK
       case LJ=>
        refine .yn 8 O<|.FY ?_ ?_
        ·refine .BV<|.lb 1 1 O<|.xk (zl [] 2 O)<|.BV<|.lb 1 1 O<|.xk (zl [] 2 O)<|.KT (fun _ h=>h) (Rd.OC (n':=16) hx3 O O O O O O O) O ?_;refine JI _ _ () ?_ ?_
         ·exact ⟨O,O,O,O,O,O,O,O,trivial⟩
         exact fun _ w=>w
        refine .BV<|.lb 1 1 O<|.xk (zl [] 2 O)<|.KT (fun _ h=>h) (Rd.OC (n':=16) hx3 O O O O O O O) O<|.FY ?_ ?_
        ·refine .BV<|.lb 1 1 O<|.xk (zl [] 2 O) ?_;refine JI _ _ () ?_ ?_
         ·exact ⟨O,O,O,O,O,O,O,O,trivial⟩
         exact fun _ w=>w
        refine .BV<|.OI (ls:=zC) 0 (fun ex=>.agg (zF x3 ex.1.1 ex.1.2 ex.2.1.1 ex.2.1.2).toArray) hx3 O O (.head _) O (fun _=>O) fun lg=>?_;obtain ⟨⟨JS,c19⟩,⟨⟨JU,c20⟩,_⟩⟩:=lg;refine .nm 10 O<|.xk (zl [] 4 O)<|.FY ?_ ?_
        ·refine .BV<|.lb 1 3 O<|.xk (zl [] 4 O) ?_;refine EU _ _ (JS,c19,JU,c20) ?_ ?_
         ·exact ⟨O,O,O,O,O,O,O,O,trivial⟩
         exact fun _ w=>w
        refine .BV<|.ct 12 [0,1] [] 0 (kB hr3) En O fun KE c21 LP LQ=>.xk (zl [] 6 O)<|.BV<|.lb 1 5 O<|.xk (zl [] 6 O)<|.JC (Rd.OC (n':=16) hx4 O O O O O O O) O ?_;refine DL _ _ (KE,c21,LP,LQ,JS,c19,JU,c20) ?_ ?_
        ·exact ⟨O,O,O,O,O,O,O,O,O,trivial⟩
        exact fun _ w=>w
       case LK=>
        rintro ⟨⟩;refine .nm 8 O<|.BV<|.OI (ls:=zC) 0 (fun ex=>.agg (zF x3 ex.1.1 ex.1.2 ex.2.1.1 ex.2.1.2).toArray) hx3 O O (.head _) O (fun _=>O) fun lg=>?_;obtain ⟨⟨JS,c19⟩,⟨⟨JU,c20⟩,_⟩⟩:=lg;refine .nm 10 O<|.xk (zl [] 4 O) ?_;refine EU _ _ (JS,c19,JU,c20) ?_ ?_
        ·exact ⟨O,O,O,O,O,O,O,O,trivial⟩
        exact fun _ w=>w
      case GN=>
       rintro ⟨JS,c19,JU,c20⟩;refine .nm 10 O<|.BV<|.ct 12 [0,1] [] 0 (kB hr3) En O fun KE c21 LP LQ=>.xk (zl [] 6 O)<|.JC (Rd.OC (n':=16) hx4 O O O O O O O) O ?_;refine DL _ _ (KE,c21,LP,LQ,JS,c19,JU,c20) ?_ ?_
       ·exact ⟨O,O,O,O,O,O,O,O,O,trivial⟩
       exact fun _ w=>w
     case ER=>
      rintro ⟨KE,c21,LP,LQ,JS,c19,JU,c20⟩;refine .nm 12 O<|.BV<|.Ci (ls:=zC) 0 (fun ex=>((KE,c21),((LP,LQ),()))) hx4 hl2 O O (CS 4 O) O O O O (fun _=>O) (fun _=>⟨(zm 2 O),(zm 3 O),trivial⟩) ?_;refine .ss 66 (wY hl2) ?_;refine .ss 71 (wY hl2)<|.AY (F':=.res (yU (zT zC) 64 (some ⟨g5,0,none⟩) c12 l2):: .ro (AV AQ KE c21 r3.Slots.e0.AU.Data):: .ro (AV AQ LP LQ r3.Slots.e1.AU.Data):: .ro (AV AQ JS c19 x3.Slots.e0.AU.Data):: .ro (AV AQ JU c20 x3.Slots.e1.AU.Data):: .res (Box g1 247 [.pointer (some ⟨AZ,0,none⟩), .slice (some ⟨g5,0,none⟩) l2.length c12, .slice A7 l1.length c7, .int .i64 0, .int .i64 0, .int .i64 0, .slice none 0 0, .slice none 0 0, .int .i64 0, .slice none 0 0]):: .res (zI zS 123 A7 c7 l1):: .ro (Sl (zT zJ) A1 c1 store.Keys):: .res (Box AZ 189 (yL store BJ A1 c1)):: .res (Box BJ 187 (yG FT A4 c4 A5 c5)):: .res (zI AQ 5 A4 c4 FT.Data):: .res (zI zU 3 A5 c5 FT.DT)::R) (fun _ w=>by rw [sV hl2]; exact w)<|.xk (zl [] 6 O)<|.CQ<|.BL ?_;cases h2;exact .AO<|.ag ((some ⟨g5,0,none⟩),c12) hm2 O (zl [0] 4 O)
    refine .xq O ?_;cases h2;cases hd2 _ rfl
    exact .AO<|.hE (FX,c12) O zw
   rintro ⟨EW,c11⟩;refine .BL<|.AO<|.region ?_;cases h1;exact .be O<|.ag (EW,c11) hm1 O zw
  refine .xq O ?_;cases h1;cases hd1 _ rfl
  exact .AO<|.hE (A8,c8) O zw
 rintro ⟨A9,c9⟩;refine .a 1 O<|.bd h fun r4 hr4 h=>.cr 9 [4] [4] 0 (zDi (AZ:=AZ) hr4) zUd O fun OJ c23=>.b [9,11,12] O<|.seq<|.ab [9,11,83] O<|.cb h O (fun h=>?_) (fun h=>?_)
 ·refine .EK [6,7] [0] 1 O O<|.AY (fun _ w=>(w.sl [3] 0 O).BU)<|.AY (fun _ w=>w.CU (CY yW))<|.AY (fun _ w=>w.CU (CY AQ))<|.AY (fun _ w=>w.CU (CY zU)) ?_;cases h;exact .rv O O (mI ⟨g1,A1,c1,A4,c4,A5,c5,A9,c9,A7,c7,none,0,none,0,none,0,O,O⟩) (zk 11 5 [10,9,8,7,6] [4,7,7,7,5,4] 0 O)
 refine .sk<|.pr [9,11] O<|.seq<|.a 2 O<|.AY (fun _ w=>(w.sl [4] 0 O).BU)<|.AY (fun _ w=>w.CU (CY yW))<|.AY (fun _ w=>w.CU (CY AQ))<|.AY (fun _ w=>w.HY zU 3)<|.AY (fun _ w=>(w.sl [5] 0 O).BU)<|.bd h fun r5 JH h=>.call (aV (AZ:=g1) JH) zUb O O O (zd [6,5,4,3] [7,6,1] 0 O) ?_;rintro _ _ ⟨TM,c24,RP,c25,UI,QL,RQ,RS,QX,c28,rfl,rfl⟩;refine .nm 15 O<|.bf [9,88] [0,0,0,0,0,0] 4 O O<|.cb h O (fun h=>?_) (fun h=>?_)
 ·refine .EK [6,7] [] 6 O O ?_;cases h;exact .rv O O (wS ⟨A1,c1,A4,c4,A5,c5,O,O⟩) (zk 5 1 [4] [0,1,1,1] 0 O)
 refine .sk<|.pr [9] O<|.seq<|.a 1 O<|.AY (fun _ w=>(w.sl [5] 0 O).BU)<|.bd h fun r6 KU h=>.call (zCa (AZ:=g1) (BJ:=AZ) (DW:=BJ) KU) zTO O O O (zd [7,8,9,6,10] [4,4,4,5,5,5] 0 O) ?_;rintro _ _ ⟨QY,c29,WT,WU,WV,c31,YE,c32,ZO,ZP,VI,c34,WW,WX,VK,VL,rfl,rfl⟩;refine .nm 16 O<|.bf [9,13] [0,0,0,0,0,0,0,0,0,0,0] 5 O O<|.ab [9,13,92] O<|.cb h O (fun h=>?_) (fun h=>?_)
 ·refine .EK [6,7] [4] 6 O O ?_;cases h;exact .rv O O (wS ⟨VI,c34,WW,WX,VK,VL,O,O⟩) (zk 5 1 [4] [1,1,1,1] 0 O)
 refine .sk<|.pr [9] O<|.ab [6,7] O ?_;cases h;exact .rv O O (mI ⟨g1,VI,c34,WW,WX,VK,VL,QY,c29,WT,WU,WV,c31,YE,c32,ZO,ZP,O,O⟩) (zk 11 5 [10,6,7,8,9] [7,7,7,7,5,5] 0 O)
theorem yw:BX Tryz.prog 47:=en Tryz.func47 (by kernel_rfl)
def xH [AP] (BR:uV) (VW:(List zB)) (UC:(List zB)) (EY:zA) (EZ:yD):Option (uV × zA × yD × Int × Bool × (Option (zE × zH × zM × zY))):=
 bnd (nD BR.d) fun bb1=>bnd (xN EY 0) fun r1=>sI r1.2.1 (none) (fun q1=>bnd (nD BR.f) fun bb2=>bnd (vH EZ 0) fun r2=>sI r2.2.1 (none) (fun q2=>bnd ((bif (r1.2.2 != r2.2.2) then (some true) else (some (r1.2.2 != 0)):Option Bool)) fun o1=>bif o1 then (some ((⟨BR.d,BR.f,false,false,BR.needs⟩:uV),r1.1,r2.1,r1.2.2,(r1.2.2==r2.2.2),none)) else (bnd (qI q1 VW BR.needs r1.1) fun r3=>sI r3.2.2.1 (bnd (pU q2 UC BR.needs r2.1) fun r4=>sI r4.2.2.1 (bnd ((bif (r3.2.2.2==0) then (some (r4.2.2.2==0)) else (some false):Option Bool)) fun o2=>bif o2 then (some ((⟨BR.d,BR.f,false,false,BR.needs⟩:uV),r3.2.1,r4.2.1,r3.2.2.2,false,none)) else (some ((⟨BR.d,BR.f,false,false,BR.needs⟩:uV),r3.2.1,r4.2.1,r3.2.2.2,(r3.2.2.2==r4.2.2.2),none))) (fun q4=>bnd ((bif (r3.2.2.2==0) then (some (r4.2.2.2==0)) else (some false):Option Bool)) fun o3=>bif o3 then (none) else (some ((⟨BR.d,BR.f,false,false,BR.needs⟩:uV),r3.2.1,r4.2.1,r3.2.2.2,(r3.2.2.2==r4.2.2.2),none)))) (fun q3=>bnd (pU q2 UC BR.needs r2.1) fun r5=>sI r5.2.2.1 (bnd ((bif (r3.2.2.2==0) then (some (r5.2.2.2==0)) else (some false):Option Bool)) fun o4=>bif o4 then (none) else (some ((⟨BR.d,BR.f,false,false,BR.needs⟩:uV),r3.2.1,r5.2.1,r3.2.2.2,(r3.2.2.2==r5.2.2.2),none))) (fun q5=>bnd ((bif (r3.2.2.2==0) then (some (r5.2.2.2==0)) else (some false):Option Bool)) fun o5=>bif o5 then (some ((⟨BR.d,BR.f,true,true,BR.needs⟩:uV),r3.2.1,r5.2.1,r3.2.2.2,true,(some (r3.1,r5.1,q3,q5)))) else (some ((⟨BR.d,BR.f,false,false,BR.needs⟩:uV),r3.2.1,r5.2.1,r3.2.2.2,(r3.2.2.2==r5.2.2.2),none)))))))
theorem vK [AP] {BR VW UC EY EZ A1 c1 A2 c2 A3 c3 A4 c4 A5 c5 A6 c6 A7 c7 AZ BJ DW r} (h:xH BR VW UC EY EZ=some r):
    BA Tryz.prog 47 [.pointer (some ⟨AZ,0,none⟩), .slice A2 VW.length c2, .slice A3 UC.length c3] [.ro (AV zS A1 c1 BR.needs), .ro (Sl (zT zC) A2 c2 VW), .ro (Sl (zT zC) A3 c3 UC), .ro (TS 0 [(2,some 315),(3,some 316)]), .res (Box AZ 97 [.pointer (kR BR.d BJ), .pointer (kR BR.f DW), .pointer none, .pointer none, .slice A1 BR.needs.length c1]), .res (Box BJ 131 (zG EY A4 c4 A5 c5)), .res (zI AQ 5 A4 c4 EY.bytes), .res (zI zU 3 A5 c5 EY.BD), .res (Box DW 187 (yG EZ A6 c6 A7 c7)), .res (zI AQ 5 A6 c6 EZ.Data), .res (zI zU 3 A7 c7 EZ.DT)] (VE r.2.2.2.2.2 (fun v F=>∃ A8 c8 A9 c9 EC c10 EW c11 FX c12,v= .tuple #[.int .i64 r.2.2.2.1, .bool r.2.2.2.2.1]∧F= [.ro (AV zS A8 c8 r.1.needs), .res (Box AZ 97 [.pointer (kR r.1.d BJ), .pointer (kR r.1.f DW), .pointer none, .pointer none, .slice A8 r.1.needs.length c8]), .res (Box BJ 131 (zG r.2.1 A9 c9 EC c10)), .res (zI AQ 5 A9 c9 r.2.1.bytes), .res (zI zU 3 EC c10 r.2.1.BD), .res (Box DW 187 (yG r.2.2.1 EW c11 FX c12)), .res (zI AQ 5 EW c11 r.2.2.1.Data), .res (zI zU 3 FX c12 r.2.2.1.DT)]) (fun q_ v F=>∃ g1 g2 g3 g4 A8 c8 A9 c9 EC c10 EW c11 FX c12 M1 IE c13 GU c14 KL c15 LG c16 LY c17 KO c18 JS c19 JU c20 KE c21 LP LQ OJ c23,v= .tuple #[.int .i64 r.2.2.2.1, .bool r.2.2.2.2.1]∧F= [.ro (AV zS A8 c8 r.1.needs), .ro (Sl (zT zJ) IE c13 q_.2.1.Keys), .ro (AV zS KL c15 q_.2.2.1.needs), .ro (AV yW LG c16 q_.2.2.1.load.Have), .ro (AV AQ LY c17 q_.2.2.1.load.Data), .ro (AV zU KO c18 q_.2.2.1.order), .ro (AV zS JU c20 q_.2.2.2.needs), .ro (AV yW KE c21 q_.2.2.2.BH.Have), .ro (AV AQ LP LQ q_.2.2.2.BH.Data), .ro (AV zU OJ c23 q_.2.2.2.order), .res (Box AZ 97 (l7 r.1 BJ DW g3 g4 A8 c8)), .res (Box BJ 131 (zG r.2.1 A9 c9 EC c10)), .res (zI AQ 5 A9 c9 r.2.1.bytes), .res (zI zU 3 EC c10 r.2.1.BD), .res (Box DW 187 (yG r.2.2.1 EW c11 FX c12)), .res (zI AQ 5 EW c11 r.2.2.1.Data), .res (zI zU 3 FX c12 r.2.2.1.DT), .res (Box g1 135 (zR q_.1 BJ M1)), .res (yV (yH .u8) (CY AQ) M1 q_.1.all), .res (Box g2 189 (yL q_.2.1 DW IE c13)), .res (Box g3 144 (zL q_.2.2.1 g1 GU c14 KL c15 LG c16 LY c17 KO c18)), .res (yU (zT zC) 64 GU c14 q_.2.2.1.devices), .res (Box g4 247 (yM q_.2.2.2 g2 JS c19 JU c20 KE c21 LP LQ OJ c23)), .res (yU (zT zC) 64 JS c19 q_.2.2.2.devices)])):=by
 refine BA.intro Tryz.func47 O O O fun w R=>?_;refine .ab [0,1,2] O<|.a 3 O<|.lb 0 4 O<|.bd h fun bb1 KD h=>?_;refine .ss 18 (uD KD)<|.bd h fun r1 hr1 h=>.call (uI hr1) ZM O O O (zl [5,5,5] 0 O) ?_
 intro v_ F_ CX
 rcases hq1:r1.2.1 with _ | q1
 ·replace h:=wJ hq1 h;cases h
 replace CX:=wL hq1 CX;replace h:=wK hq1 h;obtain ⟨g1,EC,c10,EW,c11,M1,rfl,rfl⟩:=CX;refine .nm 13 O<|.b [0,1,2,8,9] O<|.a 3 O<|.lb 1 9 O<|.bd h fun bb2 MZ h=>?_;refine .ss 26 (uD MZ)<|.bd h fun r2 hr2 h=>.call (pO hr2) ku O O O (zl [10,10,10] 0 O) ?_
 intro v_ F_ CX
 rcases hq2:r2.2.1 with _ | q2
 ·replace h:=wJ hq2 h;cases h
 replace CX:=wL hq2 CX;replace h:=wK hq2 h;obtain ⟨g2,GU,c14,KL,c15,LG,c16,rfl,rfl⟩:=CX;refine .nm 15 O<|.b [0,1,2,8,9,10,11] O<|.seq<|.seq<|.bd h fun o1 hj1 h=>.cu 0 [0,1,2,8,9,10,11, .s 36 (.bool o1)] [] O O ?_ ?_
 ·refine .region<|.n 4 O<|.gs 33 hj1 O (fun hj1=>?_) (fun hj1=>?_)
  ·cases hj1;exact .be O<|.hU O zw
  cases hj1;exact .be O<|.hU O zw
 refine .cb h O (fun h=>?_) (fun h=>?_)
 ·refine .EK [6,7] [1,1,1,2,2,2,4] 6 O O ?_;cases h;exact .rv O O (wS ⟨A1,c1,EC,c10,EW,c11,GU,c14,KL,c15,O,O⟩) (zk 8 2 [7] [8,3,3,3] 0 O)
 refine .sk<|.pr [0,1,2,8,10] O<|.a 5 O<|.lb 4 14 O<|.bd h fun r3 hr3 h=>.call (zBy (AZ:=g1) (BJ:=BJ) hr3) zSj O O O (zd [11,10,13] [8,8,5,5,5] 0 O) ?_
 intro v_ F_ CX
 rcases hq3:r3.2.2.1 with _ | q3
 ·replace CX:=bL hq3 CX;replace h:=wJ hq3 h;obtain ⟨M2,LY,c17,KO,c18,rfl,rfl⟩:=CX;refine .nm 15 O<|.bf [0,2,9,10,12] [2,2,2,2,2,2,2,2,2] 3 O O<|.a 5 O<|.lb 4 11 O<|.bd h fun r4 hr4 h=>.call (zCH (AZ:=g2) (BJ:=DW) hr4) zPO O O O (zd [7,9,8] [7,4,4,4] 0 O) ?_
  intro v_ F_ CX
  rcases hq4:r4.2.2.1 with _ | q4
  ·replace CX:=bL hq4 CX;replace h:=wJ hq4 h;obtain ⟨UI,QL,RQ,RS,QX,c28,rfl,rfl⟩:=CX;refine .nm 13 O<|.bf [0,9,11,12,13] [2,2,2,2,2,2,3] 4 O O<|.seq<|.seq<|.bd h fun o2 hj2 h=>.cu 0 [0,9,11,12,13, .s 66 (.bool o2)] [] O O ?_ ?_
   ·refine .region<|.n 3 O<|.gs 63 hj2 O (fun hj2=>?_) (fun hj2=>?_)
    ·cases hj2;exact .be O<|.hU O zw
    cases hj2;exact .be O<|.hU O zw
   refine .cb h O (fun h=>?_) (fun h=>?_)
   ·refine .a 6 O<|.sb 2 8 O<|.n 2 O<|.sb 3 0 O<|.b [9,12] O<|.ab [6,7] O ?_;cases h;exact .rv O O (wS ⟨A1,c1,LY,c17,KO,c18,RQ,RS,QX,c28,O,O⟩) (zk 8 2 [7] [0,3,3,3] 0 O)
   refine .sk<|.pr [9,11] O<|.ab [6,7] O ?_;cases h;exact .rv O O (wS ⟨A1,c1,LY,c17,KO,c18,RQ,RS,QX,c28,O,O⟩) (zk 8 2 [7] [8,3,3,3] 0 O)
  replace CX:=wL hq4 CX;replace h:=wK hq4 h;obtain ⟨g4,QY,c29,WT,WU,WV,c31,YE,c32,ZO,ZP,VI,c34,WW,WX,VK,VL,rfl,rfl⟩:=CX;refine .nm 19 O<|.bf [0,9,11,12,13] [0,0,0,0,0,0,0,0,0,0,0,0,0,0,1] 2 O O<|.seq<|.seq<|.bd h fun o3 hj3 h=>.cu 0 [0,9,11,12,13, .s 66 (.bool o3)] [] O O ?_ ?_
  ·refine .region<|.n 3 O<|.gs 63 hj3 O (fun hj3=>?_) (fun hj3=>?_)
   ·cases hj3;exact .be O<|.hU O zw
   cases hj3;exact .be O<|.hU O zw
  refine .cb h O (fun h=>?_) (fun h=>?_)
  ·refine .a 6 O<|.sb 2 16 O<|.n 2 O<|.sb 3 0 O<|.b [9,12] O<|.ab [6,7] O ?_;cases h
  refine .sk<|.pf [9,11] [6,6,6] 8 O O<|.ab [6,7] O ?_;cases h;exact .rv O O (wS ⟨A1,c1,LY,c17,KO,c18,WT,WU,WV,c31,O,O⟩) (zk 8 2 [7] [8,3,3,3] 0 O)
 replace CX:=wL hq3 CX;replace h:=wK hq3 h;obtain ⟨g3,M3,JS,c19,JU,c20,KE,c21,LP,LQ,OJ,c23,TM,c24,RP,c25,rfl,rfl⟩:=CX;refine .nm 21 O<|.bf [0,2,9,10,12] [0,0,0,0,0,0,0,0,0,0,0,0,0,0,0,0,0] 1 O O<|.a 5 O<|.lb 4 19 O<|.bd h fun r5 JH h=>.call (zCH (AZ:=g2) (BJ:=DW) JH) zPO O O O (zd [15,17,16] [15,12,12,12] 0 O) ?_
 intro v_ F_ CX
 rcases hq5:r5.2.2.1 with _ | q5
 ·replace CX:=bL hq5 CX;replace h:=wJ hq5 h;obtain ⟨Ee,c37,Ef,Eg,F7,F8,rfl,rfl⟩:=CX;refine .nm 21 O<|.bf [0,9,11,12,13] [2,2,2,2,2,2,2,2,2,2,2,2,2,2,3] 4 O O<|.seq<|.seq<|.bd h fun o4 FZ h=>.cu 0 [0,9,11,12,13, .s 66 (.bool o4)] [] O O ?_ ?_
  ·refine .region<|.n 3 O<|.gs 63 FZ O (fun FZ=>?_) (fun FZ=>?_)
   ·cases FZ;exact .be O<|.hU O zw
   cases FZ;exact .be O<|.hU O zw
  refine .cb h O (fun h=>?_) (fun h=>?_)
  ·refine .a 6 O<|.sb 2 16 O<|.n 2 O<|.sb 3 0 O<|.b [9,12] O<|.ab [6,7] O ?_;cases h
  refine .sk<|.pf [9,11] [0,0,0,6,6,6] 8 O O<|.ab [6,7] O ?_;cases h;exact .rv O O (wS ⟨A1,c1,JS,c19,JU,c20,Ef,Eg,F7,F8,O,O⟩) (zk 8 2 [7] [8,3,3,3] 0 O)
 replace CX:=wL hq5 CX;replace h:=wK hq5 h;obtain ⟨g5,F9,c40,Ry,Rz,G5,G6,A43,c43,G7,G8,G9,H6,A46,c46,A47,c47,rfl,rfl⟩:=CX;refine .nm 27 O<|.bf [0,9,11,12,13] [0,0,0,0,0,0,0,0,0,0,0,0,0,0,0,0,0,0,0,0,0,0,1] 2 O O<|.seq<|.seq<|.bd h fun o5 JB h=>.cu 0 [0,9,11,12,13, .s 66 (.bool o5)] [] O O ?_ ?_
 ·refine .region<|.n 3 O<|.gs 63 JB O (fun JB=>?_) (fun JB=>?_)
  ·cases JB;exact .be O<|.hU O zw
  cases JB;exact .be O<|.hU O zw
 refine .cb h O (fun h=>?_) (fun h=>?_)
 ·refine .a 6 O<|.sb 2 24 O<|.n 2 O<|.sb 3 0 O<|.b [9,12] O<|.ab [6,7] O ?_;cases h;exact .rv O O (mI ⟨g1,g2,g3,g5,A1,c1,JS,c19,JU,c20,Ry,Rz,G5,G6,M3,F9,c40,KE,c21,LP,LQ,OJ,c23,TM,c24,RP,c25,A43,c43,G7,G8,G9,H6,A46,c46,A47,c47,O,O⟩) (zk 24 11 [23,14,19,20,21,22,15,16,17,18] [0,17,17,17,6,6,6,12,12,5,11,11,5,5] 0 O)
 refine .sk<|.pf [9,11] [6,6,6,14,14,14] 16 O O<|.ab [6,7] O ?_;cases h;exact .rv O O (wS ⟨A1,c1,JS,c19,JU,c20,Ry,Rz,G5,G6,O,O⟩) (zk 8 2 [7] [8,3,3,3] 0 O)
theorem aO:BX Tryz.prog 48:=en Tryz.func48 (by kernel_rfl)
def xR (BR:uV) (EY:zA) (EZ:yD):Option Bool:=
 none
theorem vM {BR EY EZ A1 c1 A2 c2 A3 c3 A4 c4 A5 c5 AZ BJ DW r} (h:xR BR EY EZ=some r):
    BA Tryz.prog 48 [.pointer (some ⟨AZ,0,none⟩)] [.ro (AV zS A1 c1 BR.needs), .res (Box AZ 97 [.pointer (kR BR.d BJ), .pointer (kR BR.f DW), .pointer none, .pointer none, .slice A1 BR.needs.length c1]), .res (Box BJ 131 (zG EY A2 c2 A3 c3)), .res (zI AQ 5 A2 c2 EY.bytes), .res (zI zU 3 A3 c3 EY.BD), .res (Box DW 187 (yG EZ A4 c4 A5 c5)), .res (zI AQ 5 A4 c4 EZ.Data), .res (zI zU 3 A5 c5 EZ.DT)] (fun v F=>v= .bool r∧F= [.res (Box AZ 97 [.pointer (kR BR.d BJ), .pointer (kR BR.f DW), .pointer none, .pointer none, .slice A1 BR.needs.length c1]), .res (Box BJ 131 (zG EY A2 c2 A3 c3)), .res (zI AQ 5 A2 c2 EY.bytes), .res (zI zU 3 A3 c3 EY.BD), .res (Box DW 187 (yG EZ A4 c4 A5 c5)), .res (zI AQ 5 A4 c4 EZ.Data), .res (zI zU 3 A5 c5 EZ.DT)]):=by
 unfold xR at h
 refine BA.intro Tryz.func48 O O O fun w R=>?_;refine .ab [0] O<|.seq<|.BI (iN [0,4,8,13,20,24,28,32,19,39,40,44] .nil) _ mixed (by kernel_rfl) zw<|.yn 3 O<|.yx 2 1 O<|.yn 3 O<|.yl 3 1 O ?_;cases h
theorem zVC:BX Tryz.prog 95:=en Tryz.func95 (by kernel_rfl)
def rB (AL:zM) (most:Int):Option (List Int):=
 bif (AL.phase != 1) then (some ([])) else (none)
theorem aS {AL most A1 c1 A2 c2 A3 c3 A4 c4 A5 c5 AZ BJ r} (h:rB AL most=some r):
    BA Tryz.prog 95 [.pointer (some ⟨AZ,0,none⟩), .int .i64 most] [.ro (AV zS A2 c2 AL.needs), .ro (AV yW A3 c3 AL.load.Have), .ro (AV AQ A4 c4 AL.load.Data), .ro (AV zU A5 c5 AL.order), .res (Box AZ 144 (zL AL BJ A1 c1 A2 c2 A3 c3 A4 c4 A5 c5)), .res (yU (zT zC) 64 A1 c1 AL.devices)] (fun v F=>∃ A6 c6,v= .slice A6 r.length c6∧F= [.res (Box AZ 144 (zL AL BJ A1 c1 A2 c2 A3 c3 A4 c4 A5 c5)), .res (yU (zT zC) 64 A1 c1 AL.devices), .res (zI zU 3 A6 c6 r)]):=by
 refine BA.intro Tryz.func95 O O O fun w R=>?_;refine .ab [0,1] O<|.seq<|.a 3 O<|.lb 3 4 O<|.b [0,1,9] O<|.cb h O (fun h=>?_) (fun h=>?_)
 ·refine .ab [4] O<|.AY (fun _ w=>w.HY zU 3) ?_;cases h;exact .rv O O ⟨none,0,O,O⟩ (zl [5,5,0] 4 O)
 refine .sk<|.pr [0,1] O<|.a 3 O<|.lb 4 4 O<|.p O O ?_;cases h
theorem zTv:BX Tryz.prog 116:=en Tryz.func116 (by kernel_rfl)
def rW (AL:zY) (most:Int):Option (List Int):=
 bif (AL.phase != 1) then (some ([])) else (none)
theorem zAf {AL most A1 c1 A2 c2 A3 c3 A4 c4 A5 c5 AZ BJ r} (h:rW AL most=some r):
    BA Tryz.prog 116 [.pointer (some ⟨AZ,0,none⟩), .int .i64 most] [.ro (AV zS A2 c2 AL.needs), .ro (AV yW A3 c3 AL.BH.Have), .ro (AV AQ A4 c4 AL.BH.Data), .ro (AV zU A5 c5 AL.order), .res (Box AZ 247 (yM AL BJ A1 c1 A2 c2 A3 c3 A4 c4 A5 c5)), .res (yU (zT zC) 64 A1 c1 AL.devices)] (fun v F=>∃ A6 c6,v= .slice A6 r.length c6∧F= [.res (Box AZ 247 (yM AL BJ A1 c1 A2 c2 A3 c3 A4 c4 A5 c5)), .res (yU (zT zC) 64 A1 c1 AL.devices), .res (zI zU 3 A6 c6 r)]):=by
 refine BA.intro Tryz.func116 O O O fun w R=>?_;refine .ab [0,1] O<|.seq<|.a 3 O<|.lb 3 4 O<|.b [0,1,9] O<|.cb h O (fun h=>?_) (fun h=>?_)
 ·refine .ab [4] O<|.AY (fun _ w=>w.HY zU 3) ?_;cases h;exact .rv O O ⟨none,0,O,O⟩ (zl [5,5,0] 4 O)
 refine .sk<|.pr [0,1] O<|.a 3 O<|.lb 4 4 O<|.p O O ?_;cases h
theorem zTG:BX Tryz.prog 117:=en Tryz.func117 (by kernel_rfl)
def qX (AL:zY):Option Int:=
 some AL.phase
theorem zBo {AL A1 c1 A2 c2 A3 c3 A4 c4 A5 c5 AZ BJ r} (h:qX AL=some r):
    BA Tryz.prog 117 [.pointer (some ⟨AZ,0,none⟩)] [.ro (AV zS A2 c2 AL.needs), .ro (AV yW A3 c3 AL.BH.Have), .ro (AV AQ A4 c4 AL.BH.Data), .ro (AV zU A5 c5 AL.order), .res (Box AZ 247 (yM AL BJ A1 c1 A2 c2 A3 c3 A4 c4 A5 c5)), .res (yU (zT zC) 64 A1 c1 AL.devices)] (fun v F=>v= .int .i64 r∧F= [.res (Box AZ 247 (yM AL BJ A1 c1 A2 c2 A3 c3 A4 c4 A5 c5)), .res (yU (zT zC) 64 A1 c1 AL.devices)]):=by
 unfold qX at h
 refine BA.intro Tryz.func117 O O O fun w R=>?_;refine .ab [0] O<|.a 3 O<|.lb 3 4 O<|.b [2] O ?_;cases h;exact .rv O O ⟨O,O⟩ (zl [] 4 O)
theorem zUP:BX Tryz.prog 24:=en Tryz.func24 (by kernel_rfl)
def sH [AP] (AL:zM):Option (List zB):=
 bnd ((eu 184 0 (AL.devices.length:Int):Option (List zB))) fun l1=>bnd (yC (τ:=List zB) (fun (s1:List zB × Int)=>bif decide (s1.2<(AL.devices.length:Int)) then (bnd (BP AL.devices s1.2) fun x1=>bnd (oC x1) fun r1=>bnd (app 184 s1.1 [r1]) fun l2=>some (.next (l2,wrap .i64 (s1.2+1)))) else (some (.done s1.1))) (l1,0)) fun o1=>some o1
theorem bR [AP] {AL A1 c1 A2 c2 A3 c3 A4 c4 A5 c5 AZ BJ r} (h:sH AL=some r):
    BA Tryz.prog 24 [.pointer (some ⟨AZ,0,none⟩)] [.ro (AV zS A2 c2 AL.needs), .ro (AV yW A3 c3 AL.load.Have), .ro (AV AQ A4 c4 AL.load.Data), .ro (AV zU A5 c5 AL.order), .res (Box AZ 144 (zL AL BJ A1 c1 A2 c2 A3 c3 A4 c4 A5 c5)), .res (yU (zT zC) 64 A1 c1 AL.devices)] (fun v F=>∃ A6 c6,v= .slice A6 r.length c6∧F= [.res (Box AZ 144 (zL AL BJ A1 c1 A2 c2 A3 c3 A4 c4 A5 c5)), .res (yU (zT zC) 64 A1 c1 AL.devices), .res (yU (zT zC) 64 A6 c6 r)]):=by
 refine BA.intro Tryz.func24 O O O fun w R=>?_;refine .ab [0] O<|.a 3 O<|.lb 1 4 O<|.p O O<|.bd h fun l1 hl1 h=>.eu (E:=(zT zC)) hl1 O O O O O O O O O O O fun g1=>.b [0,3] O<|.seq<|.a 3 O<|.lb 1 5 O<|.b [3,15,16,17] O<|.bd h fun o1 hl1 h=>.DV 1 (fun (e2:Option Addr × Nat)=>[.s 3 (.slice e2.1 o1.length e2.2)]) (fun e2=>[.res (yU (zT zC) 64 e2.1 e2.2 o1)]) O O ?_ ?_
 ·refine .block<|.BM hl1 1 (fun (s1:List zB × Int) (e1:Option Addr × Nat)=>[.s 3 (.slice e1.1 s1.1.length e1.2),15,16, .s 17 (.int .i64 s1.2)]) (fun s1 e1=>[.res (yU (zT zC) 64 e1.1 e1.2 s1.1)]) O O ((some ⟨g1,0,none⟩),(Int.toNat (AL.devices.length:Int))) (zb O) (fun _ w=>w) ?_;rintro s1 ⟨A6,c6⟩ st1 hm1 hd1 h1;refine .ae O<|.seq<|.cb h1 O (fun h1=>?_) (fun h1=>?_)
  ·refine .sk<|.pr [3,15,16,17] O<|.seq<|.block<|.seq<|.region<|.bd h1 fun x1 hx1 h1=>.TR hx1 O O O (zm 6 O) O O O O O fun g2 hA=>?_;subst hA;refine .OI (ls:=zC) 0 (fun ex=>.agg (zF x1 ex.1.1 ex.1.2 ex.2.1.1 ex.2.1.2).toArray) hx1 O O (zm 6 O) O (fun _=>O) fun FC=>?_;obtain ⟨⟨A8,c8⟩,⟨⟨A9,c9⟩,_⟩⟩:=FC;refine .nm 9 O<|.alloc O O fun g3=>.sb 0 0 O<|.b [3,5,15,16,17] O<|.region<|.p O O<|.lb 0 0 O<|.bd h1 fun r1 hr1 h1=>.ct 12 [1,2] [] 0 (aL hr1) zSf O fun EC c10 EW c11=>.bS O fun g4=>.bd h1 fun l2 hl2 h1=>.LW (E:=(zT zC)) hl2 O O O (CS 6 O) O O O O O O O O (cV (ls:=zC) [(r1,((EC,c10),((EW,c11),())))] (.head _) O O O ⟨EO,(zm 2 O),trivial⟩) O O fun FX c12=>.p O O<|.done<|.BL<|.AO<|.pf [3,15,16,17] [0] 6 O O<|.region ?_;cases h1;exact .be O<|.ag (FX,c12) hm1 O zw
  refine .xq O ?_;cases h1;cases hd1 _ rfl
  exact .AO<|.hE (A6,c6) O zw
 rintro ⟨A7,c7⟩;refine .ab [2] O ?_;cases h;exact .rv O O ⟨A7,c7,O,O⟩ (zl [5,5,0] 4 O)
def lX [AP] (BO:(List zB)):Option (List zB):=
 bnd (yC (τ:=List zB) (fun (s1:List zB × Int)=>bif decide (s1.2<(BO.length:Int)) then (bnd (BP BO s1.2) fun x1=>bnd (vG x1) fun r1=>bnd (app 184 s1.1 [r1]) fun l1=>some (.next (l1,wrap .i64 (s1.2+1)))) else (some (.done s1.1))) ([],0)) fun o1=>some o1
theorem zCM [AP] {BO A1 c1 r} (h:lX BO=some r):
    BA Tryz.prog 196 [.slice A1 BO.length c1] [.res (yU (zT zC) 64 A1 c1 BO)] (fun v F=>∃ A2 c2,v= .slice A2 r.length c2∧F= [.res (yU (zT zC) 64 A1 c1 BO), .res (yU (zT zC) 64 A2 c2 r)]):=by
 refine BA.intro Tryz.func196 O O O fun w R=>?_;refine .ab [0] O<|.ae O<|.seq<|.ae O<|.AY (fun _ w=>w.MK (zT zC) 64)<|.bd h fun o1 hl1 h=>.DV 1 (fun (e2:Option Addr × Nat)=>[.s 3 (.slice e2.1 o1.length e2.2)]) (fun e2=>[.res (yU (zT zC) 64 e2.1 e2.2 o1)]) O O ?_ ?_
 ·refine .block<|.BM hl1 1 (fun (s1:List zB × Int) (e1:Option Addr × Nat)=>[0, .s 3 (.slice e1.1 s1.1.length e1.2), .s 4 (.int .i64 s1.2)]) (fun s1 e1=>[.res (yU (zT zC) 64 e1.1 e1.2 s1.1)]) O O (none,0) (zb O) (fun _ w=>w) ?_;rintro s1 ⟨A2,c2⟩ st1 hm1 hd1 h1;refine .seq<|.ab [0,3,4,8] O<|.cb h1 O (fun h1=>?_) (fun h1=>?_)
  ·refine .sk<|.pr [0,3,4] O<|.seq<|.block<|.region<|.n 3 O<|.bd h1 fun x1 hx1 h1=>.TR hx1 O O O EO O O O O O fun g1 hA=>?_;subst hA;refine .OI (ls:=zC) 0 (fun ex=>.agg (zF x1 ex.1.1 ex.1.2 ex.2.1.1 ex.2.1.2).toArray) hx1 O O EO O (fun _=>O) fun FC=>?_;obtain ⟨⟨A4,c4⟩,⟨⟨A5,c5⟩,_⟩⟩:=FC;refine .nm 4 O<|.bd h1 fun r1 hr1 h1=>.ct 6 [0,1] [] 0 (sA hr1) bK O fun A6 c6 A7 c7=>.bS O fun g2=>.bd h1 fun l1 hl1 h1=>.LW (E:=(zT zC)) hl1 O O O (CS 5 O) O O O O O O O O (cV (ls:=zC) [(r1,((A6,c6),((A7,c7),())))] (.head _) O O O ⟨EO,(zm 2 O),trivial⟩) O O fun A8 c8=>.p O O<|.done<|.BL<|.AO<|.pf [0,3,4] [0] 5 O O<|.region ?_;cases h1;exact .be O<|.ag (A8,c8) hm1 O zw
  refine .xq O ?_;cases h1;cases hd1 _ rfl
  exact .AO<|.hE (A2,c2) O zw
 rintro ⟨A3,c3⟩;refine .ab [2] O ?_;cases h;exact .rv O O ⟨A3,c3,O,O⟩ (zl [1] 0 O)
theorem zUq:BX Tryz.prog 118:=en Tryz.func118 (by kernel_rfl)
def rE [AP] (AL:zY):Option (zY × (List zB)):=
 bnd (lX AL.devices) fun r1=>some (AL,r1)
theorem zAa [AP] {AL A1 c1 A2 c2 A3 c3 A4 c4 A5 c5 AZ BJ r} (h:rE AL=some r):
    BA Tryz.prog 118 [.pointer (some ⟨AZ,0,none⟩)] [.ro (AV zS A2 c2 AL.needs), .ro (AV yW A3 c3 AL.BH.Have), .ro (AV AQ A4 c4 AL.BH.Data), .ro (AV zU A5 c5 AL.order), .res (Box AZ 247 (yM AL BJ A1 c1 A2 c2 A3 c3 A4 c4 A5 c5)), .res (yU (zT zC) 64 A1 c1 AL.devices)] (fun v F=>∃ A6 c6 A7 c7 A8 c8 A9 c9 EC c10 EW c11,v= .slice EW r.2.length c11∧F= [.ro (AV zS A7 c7 r.1.needs), .ro (AV yW A8 c8 r.1.BH.Have), .ro (AV AQ A9 c9 r.1.BH.Data), .ro (AV zU EC c10 r.1.order), .res (Box AZ 247 (yM r.1 BJ A6 c6 A7 c7 A8 c8 A9 c9 EC c10)), .res (yU (zT zC) 64 A6 c6 r.1.devices), .res (yU (zT zC) 64 EW c11 r.2)]):=by
 refine BA.intro Tryz.func118 O O O fun w R=>?_;refine .ab [0] O<|.a 3 O<|.lb 1 4 O<|.bd h fun r1 hr1 h=>.cr 7 [] [5] 0 (zCM hr1) zQq O fun A6 c6=>.b [2] O ?_;cases h;exact .rv O O ⟨A1,c1,A2,c2,A3,c3,A4,c4,A5,c5,A6,c6,O,O⟩ (zk 7 4 [3,4,5,6] [6] 0 O)
theorem zSa:BX Tryz.prog 28:=en Tryz.func28 (by kernel_rfl)
def rZ (AL:zN) (DC:zN):Option Bool:=
 bnd ((bif (AL.Name.toList==DC.Name.toList) then (bif ((AL.Version.BZ==DC.Version.BZ)&&((AL.Version.CB==DC.Version.CB)&&((AL.Version.CJ==DC.Version.CJ)&&true))) then (some ((YT AL.Data).toList==(YT DC.Data).toList)) else (some false)) else (some false):Option Bool)) fun o1=>some o1
theorem eP {AL DC A1 c1 A2 c2 r} (h:rZ AL DC=some r):
    BA Tryz.prog 28 [.agg (yO AL A1 c1).toArray, .agg (yO DC A2 c2).toArray] [.ro (AV AQ A1 c1 AL.Data), .ro (AV AQ A2 c2 DC.Data)] (Val (.bool r)):=by
 refine BA.intro Tryz.func28 O O O fun w R=>?_;refine .seq<|.region<|.box O O fun g1=>.box O O fun g2=>.b [2,3] O<|.seq<|.bd h fun o1 hj1 h=>.cu 4 [.s 4 (.bool o1)] [] O O ?_ ?_
 ·refine .region<|.p O O<|.lb 0 1 O<|.p O O<|.lb 0 0 O<|.n 2 O<|.gs 10 hj1 O (fun hj1=>?_) (fun hj1=>?_)
  ·refine .n 1 O<|.BN O O<|.lb 1 1 O<|.n 1 O<|.BN O O<|.lb 1 0 O<|.n 3 O<|.gs 17 hj1 O (fun hj1=>?_) (fun hj1=>?_)
   ·refine .n 1 O<|.BN O O<|.lb 4 1 O<|.BN O O<|.Bf O O O O O O O O O (gU (E:=AQ) MQ)<|.n 1 O<|.BN O O<|.lb 4 0 O<|.BN O O<|.Bf O O O O O O O O O (gU (E:=AQ) XI) ?_;cases hj1;exact .be O<|.hU O (zl [] 4 O)
   cases hj1;exact .be O<|.hU O (zl [] 4 O)
  cases hj1;exact .be O<|.hU O (zl [] 4 O)
 cases h;exact .rv O O ⟨O,O⟩ zw
theorem zVc:BX Tryz.prog 83:=en Tryz.func83 (by kernel_rfl)
def gR (AL:zB) (DC:zB):Option Bool:=
 bnd ((bif !(AL.Name.toList==DC.Name.toList) then (some true) else (bif (AL.Active != DC.Active) then (some true) else (bif (AL.Running != DC.Running) then (some true) else (some (!(AL.BK==DC.BK))))):Option Bool)) fun o1=>bif o1 then (some false) else (bnd ((bif (AL.Slots.e0.Sum != DC.Slots.e0.Sum) then (some true) else (bnd (rZ AL.Slots.e0.AU DC.Slots.e0.AU) fun r1=>some (!r1)):Option Bool)) fun o2=>bif o2 then (some false) else (bnd ((bif (AL.Slots.e1.Sum != DC.Slots.e1.Sum) then (some true) else (bnd (rZ AL.Slots.e1.AU DC.Slots.e1.AU) fun r2=>some (!r2)):Option Bool)) fun o3=>bif o3 then (some false) else (some true)))
theorem zJp {AL DC A1 c1 A2 c2 A3 c3 A4 c4 r} (h:gR AL DC=some r):
    BA Tryz.prog 83 [.agg (zF AL A1 c1 A2 c2).toArray, .agg (zF DC A3 c3 A4 c4).toArray] [.ro (AV AQ A1 c1 AL.Slots.e0.AU.Data), .ro (AV AQ A2 c2 AL.Slots.e1.AU.Data), .ro (AV AQ A3 c3 DC.Slots.e0.AU.Data), .ro (AV AQ A4 c4 DC.Slots.e1.AU.Data)] (Val (.bool r)):=by
 refine BA.intro Tryz.func83 O O O fun w R=>?_;refine .seq<|.region<|.box O O fun g1=>.box O O fun g2=>.b [2,3] O<|.seq<|.seq<|.bd h fun o1 hj1 h=>.cu 0 [2,3, .s 31 (.bool o1)] [] O O ?_ ?_
 ·refine .region<|.p O O<|.lb 0 1 O<|.p O O<|.lb 0 0 O<|.n 2 O<|.gs 11 hj1 O (fun hj1=>?_) (fun hj1=>?_)
  ·cases hj1;exact .be O<|.hU O zw
  refine .n 1 O<|.BN O O<|.lb 13 1 O<|.n 1 O<|.BN O O<|.lb 13 0 O<|.n 3 O<|.gs 18 hj1 O (fun hj1=>?_) (fun hj1=>?_)
  ·cases hj1;exact .be O<|.hU O zw
  refine .n 1 O<|.BN O O<|.lb 14 1 O<|.n 1 O<|.BN O O<|.lb 14 0 O<|.n 3 O<|.gs 25 hj1 O (fun hj1=>?_) (fun hj1=>?_)
  ·cases hj1;exact .be O<|.hU O zw
  refine .n 1 O<|.BN O O<|.lb 15 1 O<|.n 1 O<|.BN O O<|.lb 15 0 O ?_;cases hj1;exact .be O<|.hU O zw
 refine .cb h O (fun h=>?_) (fun h=>?_)
 ·refine .EK [4] [] 6 O O ?_;cases h;exact .rv O O ⟨O,O⟩ zw
 refine .sk<|.pr [2,3] O<|.seq<|.ae O<|.block<|.rounds 9<|.round<|.seq<|.ab [2,3,5,33] O<|.EP O<|.sk<|.pr [2,3,5] O<|.seq<|.block<|.seq<|.bd h fun o2 hj2 h=>.cu 0 [2,3,5, .s 60 (.bool o2)] [] O O ?_ ?_
 ·refine .regionF mixed (by kernel_rfl)<|.n 4 O<|.lb 6 1 O<|.n 4 O<|.lb 6 0 O<|.n 2 O<|.gs 47 hj2 O (fun hj2=>?_) (fun hj2=>?_)
  ·cases hj2;exact .beq O<|.hU O zw
  refine .n 4 O<|.BN O O<|.lb 1 1 O<|.n 4 O<|.BN O O<|.lb 1 0 O<|.BN O O<|.bd hj2 fun r1 hr1 hj2=>.cv [2,4] (eP hr1) zSa O ?_;cases hj2;exact .beq O<|.hU O zw
 refine .cb h O (fun h=>?_) (fun h=>?_)
 ·refine .EK [4] [] 6 O O ?_;cases h;exact .rv O O ⟨O,O⟩ zw
 refine .skip<|.BL<|.AO<|.pr [2,3,5] O<|.region<|.be O<|.round<|.pr [2,3,5] O<|.seq<|.ab [2,3,5,33] O<|.EP O<|.sk<|.pr [2,3,5] O<|.seq<|.block<|.seq<|.bd h fun o3 hj3 h=>.cu 0 [2,3,5, .s 60 (.bool o3)] [] O O ?_ ?_
 ·refine .regionF mixed (by kernel_rfl)<|.n 4 O<|.lb 12 1 O<|.n 4 O<|.lb 12 0 O<|.n 2 O<|.gs 47 hj3 O (fun hj3=>?_) (fun hj3=>?_)
  ·cases hj3;exact .beq O<|.hU O zw
  refine .n 4 O<|.BN O O<|.lb 7 1 O<|.n 4 O<|.BN O O<|.lb 7 0 O<|.BN O O<|.bd hj3 fun r2 hr2 hj3=>.cv [3,5] (eP hr2) zSa O ?_;cases hj3;exact .beq O<|.hU O zw
 refine .cb h O (fun h=>?_) (fun h=>?_)
 ·refine .EK [4] [] 6 O O ?_;cases h;exact .rv O O ⟨O,O⟩ zw
 refine .skip<|.BL<|.AO<|.pr [2,3,5] O<|.region<|.be O<|.round<|.pr [2,3,5] O<|.seq<|.ab [2,3,5,33] O<|.FU O<|.xq O<|.AO<|.pf [] [] 6 O O<|.ae O ?_;cases h;exact .rv O O ⟨O,O⟩ zw
theorem zUS:BX Tryz.prog 23:=en Tryz.func23 (by kernel_rfl)
def mW [AP] (AL:(List zB)) (DC:(List zB)):Option Bool:=
 bif ((AL.length:Int) != (DC.length:Int)) then (some false) else (bnd (yC (τ:=Bool ⊕ Unit) (fun (s1:Int)=>bif decide (s1<(AL.length:Int)) then (bnd (BP AL s1) fun x1=>bnd (BP DC s1) fun x2=>bnd (gR x1 x2) fun r1=>bif !r1 then (some (.done (.inl false))) else (some (.next (wrap .i64 (s1+1))))) else (some (.done (.inr ())))) 0) fun o1=>xL o1 fun o2=>some true)
theorem zEC [AP] {AL DC A1 c1 A2 c2 r} (h:mW AL DC=some r):
    BA Tryz.prog 23 [.slice A1 AL.length c1, .slice A2 DC.length c2] [.ro (Sl (zT zC) A1 c1 AL), .ro (Sl (zT zC) A2 c2 DC)] (Val (.bool r)):=by
 refine BA.intro Tryz.func23 O O O fun w R=>?_;refine .ab [0,1] O<|.seq<|.ab [0,1,10] O<|.cb h O (fun h=>?_) (fun h=>?_)
 ·refine .EK [4] [] 2 O O ?_;cases h;exact .rv O O ⟨O,O⟩ zw
 refine .sk<|.pr [0,1] O<|.seq<|.ae O<|.bd h fun o1 hl1 h=>.ES 2 (fun (o2:Unit) (e2:Unit)=>[]) (fun o2 e2=>[]) O O (fun o2=>o1= .inr o2) ?_ ?_
 ·refine .block<|.BM hl1 0 (fun (s1:Int) (e1:Unit)=>[0,1, .s 5 (.int .i64 s1)]) (fun s1 e1=>[]) O O () (zb O) (fun _ w=>w) ?_;rintro s1 e1 st1 hm1 hd1 h1;refine .seq<|.ab [0,1,5,14] O<|.cb h1 O (fun h1=>?_) (fun h1=>?_)
  ·refine .sk<|.pr [0,1,5] O<|.seq<|.block<|.seq<|.regionF mixed (by kernel_rfl)<|.n 2 O<|.bd h1 fun x1 hx1 h1=>.KY hx1 0 O fun b1 DY FC=>?_;obtain ⟨⟨A3,c3⟩,⟨⟨A4,c4⟩,_⟩⟩:=FC;refine .nm 5 O<|.ld DY 0 0 O<|.n 2 O<|.bd h1 fun x2 hx2 h1=>.KY hx2 4 O fun b2 JD JQ=>?_;obtain ⟨⟨A5,c5⟩,⟨⟨A6,c6⟩,_⟩⟩:=JQ;refine .nm 8 O<|.ld JD 0 0 O<|.bd h1 fun r1 hr1 h1=>.cv [4,5,1,2] (zJp hr1) zVc O<|.beq O<|.pf [0,1,5,26] [] 6 O O<|.cb h1 O (fun h1=>?_) (fun h1=>?_)
   ·refine .EK [4] [] 2 O O ?_;cases h1;cases hd1 _ rfl
    have h:some _=some _:=h;cases h;exact .rv O O ⟨O,O⟩ zw
   refine .skip<|.BL<|.AO<|.pr [0,1,5] O<|.region ?_;cases h1;exact .be O<|.ag () hm1 O zw
  refine .xq O ?_;cases h1;cases hd1 _ rfl
  exact .AO<|.CZ () () O trivial (zl [] 2 O)
 rintro o2 e2 ho;subst ho;have h:=JG h;refine .ae O ?_;cases h;exact .rv O O ⟨O,O⟩ zw
theorem zOV:BX Tryz.prog 201:=en Tryz.func201 (by kernel_rfl)
def mR [AP] (AB:zB):Option zQ:=
 bnd (sL AB) fun r1=>bif !r1 then (some (⟨0,0,0⟩:zQ)) else (bnd (BP [AB.Slots.e0,AB.Slots.e1] AB.Running) fun x1=>some x1.AU.Version)
theorem aP [AP] {AB A1 c1 A2 c2 r} (h:mR AB=some r):
    BA Tryz.prog 201 [.agg (zF AB A1 c1 A2 c2).toArray] [.ro (AV AQ A1 c1 AB.Slots.e0.AU.Data), .ro (AV AQ A2 c2 AB.Slots.e1.AU.Data)] (Val (.agg #[.int .i64 r.BZ, .int .i64 r.CB, .int .i64 r.CJ])):=by
 refine BA.intro Tryz.func201 O O O fun w R=>?_;refine .seq<|.region<|.box O O fun g1=>.alloc O O fun g2=>.b [1,2] O<|.seq<|.seq<|.region<|.lb 0 1 O<|.bd h fun r1 hr1 h=>.cv [2,3] (mD hr1) Ej O<|.b [1,2,5] O<|.cb h O (fun h=>?_) (fun h=>?_)
 ·refine .a 1 O<|.sb 0 0 O<|.bf [2] [0] 3 O O ?_;cases h;exact .rt O Tryz.results201 (.cell O (.head _) O .nil) O ⟨O,O⟩ (zl [] 1 O)
 refine .sk<|.pr [1,2] O<|.a 1 O<|.lb 14 1 O<|.p O O<|.bd h fun x1 hx1 h=>.TG (sz:=6) hx1 O O O O O O O O<|.n 2 O<|.UH (ls:=vO) 1 [.string AB.Name] [.int .i64 AB.Active, .int .i64 AB.Running, .bool AB.BK] [(AB.Slots.e0,((A1,c1),())),(AB.Slots.e1,((A2,c2),()))] (fun ex=>.agg #[.int .i64 x1.AU.Version.BZ, .int .i64 x1.AU.Version.CB, .int .i64 x1.AU.Version.CJ]) hx1 O O EO O O O ⟨(zm 2 O),(zm 3 O),trivial⟩ O (fun _=>O) fun FC=>?_;obtain ⟨⟨A3,c3⟩,_⟩:=FC;refine .nm 5 O<|.sb 0 1 O<|.bf [2] [0] 4 O O ?_;cases h;exact .rt O Tryz.results201 (.cell O (.head _) O .nil) O ⟨O,O⟩ (zl [] 1 O)
theorem zTK:BX Tryz.prog 120:=en Tryz.func120 (by kernel_rfl)
def sC [AP] (AL:zY):Option (List yE):=
 bnd (yC (τ:=List yE) (fun (s1:List yE × Int)=>bif decide (s1.2<(AL.devices.length:Int)) then (bnd (BP AL.devices s1.2) fun x1=>bnd (BP AL.devices s1.2) fun x2=>bnd (BP AL.devices s1.2) fun x3=>bnd (mR x3) fun r1=>bnd (app 40 s1.1 [(⟨x2.Name,r1⟩:yE)]) fun l1=>some (.next (l1,wrap .i64 (s1.2+1)))) else (some (.done s1.1))) ([],0)) fun o1=>some o1
theorem bG [AP] {AL A1 c1 A2 c2 A3 c3 A4 c4 A5 c5 AZ BJ r} (h:sC AL=some r):
    BA Tryz.prog 120 [.pointer (some ⟨AZ,0,none⟩)] [.ro (AV zS A2 c2 AL.needs), .ro (AV yW A3 c3 AL.BH.Have), .ro (AV AQ A4 c4 AL.BH.Data), .ro (AV zU A5 c5 AL.order), .res (Box AZ 247 (yM AL BJ A1 c1 A2 c2 A3 c3 A4 c4 A5 c5)), .res (yU (zT zC) 64 A1 c1 AL.devices)] (fun v F=>∃ A6 c6,v= .slice A6 r.length c6∧F= [.res (Box AZ 247 (yM AL BJ A1 c1 A2 c2 A3 c3 A4 c4 A5 c5)), .res (yU (zT zC) 64 A1 c1 AL.devices), .res (zI zK 85 A6 c6 r)]):=by
 refine BA.intro Tryz.func120 O O O fun w R=>?_;refine .ab [0] O<|.ae O<|.seq<|.ae O<|.AY (fun _ w=>w.HY zK 85)<|.bd h fun o1 hl1 h=>.DV 1 (fun (e2:Option Addr × Nat)=>[.s 3 (.slice e2.1 o1.length e2.2)]) (fun e2=>[.res (zI zK 85 e2.1 e2.2 o1)]) O O ?_ ?_
 ·refine .block<|.BM hl1 1 (fun (s1:List yE × Int) (e1:Option Addr × Nat)=>[0, .s 3 (.slice e1.1 s1.1.length e1.2), .s 4 (.int .i64 s1.2)]) (fun s1 e1=>[.res (zI zK 85 e1.1 e1.2 s1.1)]) O O (none,0) (zb O) (fun _ w=>w) ?_;rintro s1 ⟨A6,c6⟩ st1 hm1 hd1 h1;refine .seq<|.a 4 O<|.lb 1 5 O<|.b [0,3,4,11] O<|.cb h1 O (fun h1=>?_) (fun h1=>?_)
  ·refine .sk<|.pr [0,3,4] O<|.seq<|.block<|.bd h1 fun x1 hx1 h1=>.RI (zm 6 O) hx1 fun g1 hA=>?_;subst hA;refine .bd h1 fun x2 hx2 h1=>.bd h1 fun x3 hx3 h1=>.bd h1 fun r1 hr1 h1=>.bd h1 fun l1 hl1 h1=>.BI (iN [0,4,8,12,16,20,24,28,36,40,44,48,52,56] (.alt (iN [35] (iN [63] (iN [67,68] (iN [75] (iN [79,80] .nil))))) (iN [63] (.alt (iN [35] (iN [67,68] (iN [75] (iN [79,80] .nil)))) (iN [67] (iN [35,68] (iN [75] (iN [79,80] .nil)))))))) _ mixed (by kernel_rfl) (zl [] 1 O)<|.DX (Y:=?IZ) 0 (fun (e:Option Addr × Nat × Option Addr × Nat × Option Addr × Nat × Option Addr × Nat)=>[0,3,4, .s 14 (.slice A6 s1.1.length c6), .s 22 (.string x2.Name), .s 30 (.agg #[.int .i64 r1.BZ, .int .i64 r1.CB, .int .i64 r1.CJ]), .s 31 (.agg #[.string x2.Name, .int .i64 r1.BZ, .int .i64 r1.CB, .int .i64 r1.CJ])]) (fun e=>[.ro (AV AQ e.1 e.2.1 x3.Slots.e0.AU.Data), .ro (AV AQ e.2.2.1 e.2.2.2.1 x3.Slots.e1.AU.Data), .ro (AV AQ e.2.2.2.2.1 e.2.2.2.2.2.1 x2.Slots.e0.AU.Data), .ro (AV AQ e.2.2.2.2.2.2.1 e.2.2.2.2.2.2.2 x2.Slots.e1.AU.Data)]) O O (fun DL=>?EQ) ?ER
   case EQ=>
    refine .DX (Y:=?KZ) 0 (fun (e:Option Addr × Nat × Option Addr × Nat × Option Addr × Nat × Option Addr × Nat)=>[0,3,4, .s 14 (.slice A6 s1.1.length c6), .s 22 (.string x2.Name), .s 29 (.agg (zF x3 e.1 e.2.1 e.2.2.1 e.2.2.2.1).toArray)]) (fun e=>[.ro (AV AQ e.1 e.2.1 x3.Slots.e0.AU.Data), .ro (AV AQ e.2.2.1 e.2.2.2.1 x3.Slots.e1.AU.Data), .ro (AV AQ e.2.2.2.2.1 e.2.2.2.2.2.1 x2.Slots.e0.AU.Data), .ro (AV AQ e.2.2.2.2.2.2.1 e.2.2.2.2.2.2.2 x2.Slots.e1.AU.Data)]) O O (fun EU=>?GL) ?GN
    case GL=>
     refine .yn 4 O<|.yl 1 4 O<|.yn 1 O<|.KT (fun _ h=>h) (Rd.OC (n':=16) hx2 O O O O O O O) O<|.yn 4 O<|.yl 1 4 O<|.yn 1 O<|.KT (fun _ h=>h) (Rd.OC (n':=16) hx3 O O O O O O O) O<|.FY ?_ ?_
     ·refine .BV<|.OI (ls:=zC) 0 (fun ex=>.string x2.Name) hx2 O O (zm 6 O) O (fun _=>O) fun FC=>?_;obtain ⟨⟨A8,c8⟩,⟨⟨A9,c9⟩,_⟩⟩:=FC;refine .nm 9 O<|.xk (zl [] 3 O)<|.BV<|.OI (ls:=zC) 0 (fun ex=>.agg (zF x3 ex.1.1 ex.1.2 ex.2.1.1 ex.2.1.2).toArray) hx3 O O (zm 8 O) O (fun _=>O) fun JQ=>?_;obtain ⟨⟨EC,c10⟩,⟨⟨EW,c11⟩,_⟩⟩:=JQ;refine .nm 11 O<|.xk (zl [] 5 O) ?_;refine EU _ _ (EC,c10,EW,c11,A8,c8,A9,c9) ?_ ?_
      ·exact ⟨O,O,O,O,O,O,trivial⟩
      exact fun _ w=>w
     refine .BV<|.OI (ls:=zC) 0 (fun ex=>.agg (zF x3 ex.1.1 ex.1.2 ex.2.1.1 ex.2.1.2).toArray) hx3 O O (zm 6 O) O (fun _=>O) fun JQ=>?_;obtain ⟨⟨EC,c10⟩,⟨⟨EW,c11⟩,_⟩⟩:=JQ;refine .nm 9 O<|.xk (zl [] 3 O)<|.FY ?_ ?_
     ·refine .BV<|.OI (ls:=zC) 0 (fun ex=>.string x2.Name) hx2 O O (zm 8 O) O (fun _=>O) fun FC=>?_;obtain ⟨⟨A8,c8⟩,⟨⟨A9,c9⟩,_⟩⟩:=FC;refine .nm 11 O<|.xk (zl [] 5 O) ?_;refine EU _ _ (EC,c10,EW,c11,A8,c8,A9,c9) ?_ ?_
      ·exact ⟨O,O,O,O,O,O,trivial⟩
      exact fun _ w=>(w.sl [2,2] 0 O)
     refine .BV<|.cv [0,1] (aP hr1) zOV O<|.xk (zl [] 3 O)<|.BV<|.OI (ls:=zC) 0 (fun ex=>.string x2.Name) hx2 O O (zm 8 O) O (fun _=>O) fun FC=>?_;obtain ⟨⟨A8,c8⟩,⟨⟨A9,c9⟩,_⟩⟩:=FC;refine .nm 11 O<|.xk (zl [] 5 O)<|.yn 1 O ?_;refine DL _ _ (EC,c10,EW,c11,A8,c8,A9,c9) ?_ ?_
     ·exact ⟨O,O,O,O,O,O,O,trivial⟩
     exact fun _ w=>(w.sl [2,2] 0 O)
    case GN=>
     rintro ⟨EC,c10,EW,c11,A8,c8,A9,c9⟩;refine .nm 11 O<|.BV<|.cv [0,1] (aP hr1) zOV O<|.xk (zl [] 5 O)<|.yn 1 O ?_;refine DL _ _ (EC,c10,EW,c11,A8,c8,A9,c9) ?_ ?_
     ·exact ⟨O,O,O,O,O,O,O,trivial⟩
     exact fun _ w=>w
   case ER=>
    rintro ⟨EC,c10,EW,c11,A8,c8,A9,c9⟩;refine .nm 11 O<|.BV<|.bS O fun g4=>.xk (zl [] 6 O)<|.BV<|.app (E:=zK) hl1 O O O (CS 5 O) O O O O O O O O (iV (.head _) O O) O O fun FX c12=>.xk (zl [] 6 O)<|.yn 1 O<|.CQ<|.BL<|.AO<|.pf [0,3,4] [0] 5 O O<|.region ?_;cases h1;exact .be O<|.ag (FX,c12) hm1 O zw
  refine .xq O ?_;cases h1;cases hd1 _ rfl
  exact .AO<|.hE (A6,c6) O zw
 rintro ⟨A7,c7⟩;refine .ab [2] O ?_;cases h;exact .rv O O ⟨A7,c7,O,O⟩ (zl [5,5,0] 4 O)
theorem zSE:BX Tryz.prog 119:=en Tryz.func119 (by kernel_rfl)
def gV [AP] (AL:(List yE)) (DC:(List yE)):Option Bool:=
 bif ((AL.length:Int) != (DC.length:Int)) then (some false) else (bnd (yC (τ:=Bool ⊕ Unit) (fun (s1:Int)=>bif decide (s1<(AL.length:Int)) then (bnd (BP AL s1) fun x1=>bnd (BP DC s1) fun x2=>bif !((x1.Name.toList==x2.Name.toList)&&(((x1.Version.BZ==x2.Version.BZ)&&((x1.Version.CB==x2.Version.CB)&&((x1.Version.CJ==x2.Version.CJ)&&true)))&&true)) then (some (.done (.inl false))) else (some (.next (wrap .i64 (s1+1))))) else (some (.done (.inr ())))) 0) fun o1=>xL o1 fun o2=>some true)
theorem zIF [AP] {AL DC A1 c1 A2 c2 r} (h:gV AL DC=some r):
    BA Tryz.prog 119 [.slice A1 AL.length c1, .slice A2 DC.length c2] [.ro (AV zK A1 c1 AL), .ro (AV zK A2 c2 DC)] (Val (.bool r)):=by
 refine BA.intro Tryz.func119 O O O fun w R=>?_;refine .ab [0,1] O<|.seq<|.ab [0,1,10] O<|.cb h O (fun h=>?_) (fun h=>?_)
 ·refine .EK [4] [] 2 O O ?_;cases h;exact .rv O O ⟨O,O⟩ zw
 refine .sk<|.pr [0,1] O<|.seq<|.ae O<|.bd h fun o1 hl1 h=>.ES 2 (fun (o2:Unit) (e2:Unit)=>[]) (fun o2 e2=>[]) O O (fun o2=>o1= .inr o2) ?_ ?_
 ·refine .block<|.BM hl1 0 (fun (s1:Int) (e1:Unit)=>[0,1, .s 5 (.int .i64 s1)]) (fun s1 e1=>[]) O O () (zb O) (fun _ w=>w) ?_;rintro s1 e1 st1 hm1 hd1 h1;refine .seq<|.ab [0,1,5,14] O<|.cb h1 O (fun h1=>?_) (fun h1=>?_)
  ·refine .sk<|.pr [0,1,5] O<|.seq<|.block<|.seq<|.regionF mixed (by kernel_rfl)<|.n 2 O<|.bd h1 fun x1 hx1 h1=>.IB hx1 0 O fun b1 DY=>.ld DY 0 0 O<|.n 2 O<|.bd h1 fun x2 hx2 h1=>.IB hx2 2 O fun b2 JD=>.ld JD 0 0 O<|.beq O<|.pf [0,1,5,25] [] 2 O O<|.cb h1 O (fun h1=>?_) (fun h1=>?_)
   ·refine .EK [4] [] 2 O O ?_;cases h1;cases hd1 _ rfl
    have h:some _=some _:=h;cases h;exact .rv O O ⟨O,O⟩ zw
   refine .skip<|.BL<|.AO<|.pr [0,1,5] O<|.region ?_;cases h1;exact .be O<|.ag () hm1 O zw
  refine .xq O ?_;cases h1;cases hd1 _ rfl
  exact .AO<|.CZ () () O trivial (zl [] 2 O)
 rintro o2 e2 ho;subst ho;have h:=JG h;refine .ae O ?_;cases h;exact .rv O O ⟨O,O⟩ zw
def xE [AP] (BR:uV) (EY:zA) (EZ:yD) (GY:zM) (FW:zE) (IQ:zY) (GZ:zH):Option (zY × Bool):=
 bnd (nD BR.a) fun bb1=>bnd (rB GY 3) fun r1=>bnd (nD BR.b) fun bb2=>bnd (rW IQ 3) fun r2=>bnd ((bif ((r1.length:Int) != (r2.length:Int)) then (some (true,IQ)) else (bnd (nD BR.a) fun bb3=>bnd (uY GY) fun r3=>bnd (nD BR.b) fun D6=>bnd (qX IQ) fun r4=>bif (r3 != r4) then (some (true,IQ)) else (bnd (nD BR.a) fun D7=>bnd (sH GY) fun r5=>bnd (nD BR.b) fun D8=>bnd (rE IQ) fun r6=>bnd (mW r5 r6.2) fun r7=>bif !r7 then (some (true,r6.1)) else (bnd (nD BR.a) fun bb7=>bnd (wQ GY) fun r8=>bnd (nD BR.b) fun bb8=>bnd (sC r6.1) fun r9=>bnd (gV r8 r9) fun r10=>some (!r10,r6.1)))):Option (Bool × zY))) fun o1=>bif o1.1 then (some (o1.2,false)) else (bnd (yC (τ:=(zY × Bool) ⊕ Unit) (fun (s1:Int)=>bif decide (s1<(r1.length:Int)) then (bnd (BP r1 s1) fun x1=>bnd (BP r2 s1) fun x2=>bif (x1 != x2) then (some (.done (.inl (o1.2,false)))) else (some (.next (wrap .i64 (s1+1))))) else (some (.done (.inr ())))) 0) fun o2=>xL o2 fun o3=>some (o1.2,true))
theorem vJ [AP] {BR EY EZ GY FW IQ GZ A1 c1 A2 c2 A3 c3 A4 c4 A5 c5 A6 c6 A7 c7 A8 c8 A9 c9 EC c10 EW c11 FX c12 IE c13 GU c14 KL c15 LG c16 M1 AZ BJ DW IG WZ RZ VX r} (h:xE BR EY EZ GY FW IQ GZ=some r):
    BA Tryz.prog 48 [.pointer (some ⟨AZ,0,none⟩)] [.ro (AV zS A1 c1 BR.needs), .ro (AV zS A7 c7 GY.needs), .ro (AV yW A8 c8 GY.load.Have), .ro (AV AQ A9 c9 GY.load.Data), .ro (AV zU EC c10 GY.order), .ro (AV zS FX c12 IQ.needs), .ro (AV yW IE c13 IQ.BH.Have), .ro (AV AQ GU c14 IQ.BH.Data), .ro (AV zU KL c15 IQ.order), .ro (Sl (zT zJ) LG c16 GZ.Keys), .res (Box AZ 97 (l7 BR BJ DW IG RZ A1 c1)), .res (Box BJ 131 (zG EY A2 c2 A3 c3)), .res (zI AQ 5 A2 c2 EY.bytes), .res (zI zU 3 A3 c3 EY.BD), .res (Box DW 187 (yG EZ A4 c4 A5 c5)), .res (zI AQ 5 A4 c4 EZ.Data), .res (zI zU 3 A5 c5 EZ.DT), .res (Box IG 144 (zL GY WZ A6 c6 A7 c7 A8 c8 A9 c9 EC c10)), .res (yU (zT zC) 64 A6 c6 GY.devices), .res (Box WZ 135 (zR FW BJ M1)), .res (yV (yH .u8) (CY AQ) M1 FW.all), .res (Box RZ 247 (yM IQ VX EW c11 FX c12 IE c13 GU c14 KL c15)), .res (yU (zT zC) 64 EW c11 IQ.devices), .res (Box VX 189 (yL GZ DW LG c16))] (fun v F=>∃ LY c17 KO c18 JS c19 JU c20 KE c21,v= .bool r.2∧F= [.ro (AV zS KO c18 r.1.needs), .ro (AV yW JS c19 r.1.BH.Have), .ro (AV AQ JU c20 r.1.BH.Data), .ro (AV zU KE c21 r.1.order), .res (Box AZ 97 (l7 BR BJ DW IG RZ A1 c1)), .res (Box BJ 131 (zG EY A2 c2 A3 c3)), .res (zI AQ 5 A2 c2 EY.bytes), .res (zI zU 3 A3 c3 EY.BD), .res (Box DW 187 (yG EZ A4 c4 A5 c5)), .res (zI AQ 5 A4 c4 EZ.Data), .res (zI zU 3 A5 c5 EZ.DT), .res (Box IG 144 (zL GY WZ A6 c6 A7 c7 A8 c8 A9 c9 EC c10)), .res (yU (zT zC) 64 A6 c6 GY.devices), .res (Box WZ 135 (zR FW BJ M1)), .res (yV (yH .u8) (CY AQ) M1 FW.all), .res (Box RZ 247 (yM r.1 VX LY c17 KO c18 JS c19 JU c20 KE c21)), .res (yU (zT zC) 64 LY c17 r.1.devices), .res (Box VX 189 (yL GZ DW LG c16))]):=by
 unfold xE at h
 refine BA.intro Tryz.func48 O O O fun w R=>?_;refine .ab [0] O<|.seq<|.BI (iN [0,4,8,13,20,24,28,32,19,39,40,44] .nil) _ mixed (by kernel_rfl) zw<|.yn 3 O<|.yx 2 10 O<|.yn 3 O<|.yl 3 10 O<|.BV<|.bd h fun bb1 KD h=>?_;refine .ss 9 (uD KD)<|.bd h fun r1 hr1 h=>.cr 25 [3,4,5,6] [17,17] 0 (aS (AZ:=IG) hr1) zVC O fun LY c17=>.xk (zl [3,3,3,3,3,3,3,3,3,3,3,3,3,3,3,3,3,0,0] 1 O)<|.BV<|.bd h fun bb2 MZ h=>?_;refine .ss 14 (uD MZ)<|.bd h fun r2 hr2 h=>.cr 26 [10,11,12,13] [22,22] 0 (zAf (AZ:=RZ) hr2) zTv O fun KO c18=>.xk (zl [6,6,6,6,6,6,6,6,6,6,6,6,6,6,6,6,6,3,3,4,4,0,0] 2 O)<|.yn 2 O<|.CQ<|.AO<|.pr [0,3,4] O<|.seq<|.seq<|.bd h fun o1 hj1 h=>.DV 15 (fun (e1:Option Addr × Nat × Option Addr × Nat × Option Addr × Nat × Option Addr × Nat × Option Addr × Nat)=>[3,4, .s 61 (.bool o1.1)]) (fun e1=>[.ro (AV zU e1.2.2.2.2.2.2.2.2.1 e1.2.2.2.2.2.2.2.2.2 o1.2.order), .ro (AV AQ e1.2.2.2.2.2.2.1 e1.2.2.2.2.2.2.2.1 o1.2.BH.Data), .ro (AV yW e1.2.2.2.2.1 e1.2.2.2.2.2.1 o1.2.BH.Have), .ro (AV zS e1.2.2.1 e1.2.2.2.1 o1.2.needs), .res (yU (zT zC) 64 e1.1 e1.2.1 o1.2.devices), .res (Box RZ 247 (yM o1.2 VX e1.1 e1.2.1 e1.2.2.1 e1.2.2.2.1 e1.2.2.2.2.1 e1.2.2.2.2.2.1 e1.2.2.2.2.2.2.1 e1.2.2.2.2.2.2.2.1 e1.2.2.2.2.2.2.2.2.1 e1.2.2.2.2.2.2.2.2.2)),2,3,4,5,6,7,8,9,10]) O O ?_ ?_
 ·refine .BI (iN [0,4,8,12,16,20,24,28,32,37,44,48,52,56,43,63,64,68,72,76,80,84,89,96,100,104,108,95,115,119,120,124,128,132,136,140,145,152,156,160,164,151,171,175,176,180] .nil) _ mixed (by kernel_rfl) (zl [] 2 O)<|.yn 6 O<|.sB 21 hj1 O (fun hj1=>?_) (fun hj1=>?_)
  ·refine .yn 40 O<|.CQ ?_;cases hj1;exact .AO<|.hE (EW,c11,FX,c12,IE,c13,GU,c14,KL,c15) O (zl [14,13,12,11,1] 0 O)
  refine .yn 3 O<|.IY O O<|.yx 2 16 O<|.yn 3 O<|.IY O O<|.yl 3 14 O<|.IY O O<|.BV<|.bd hj1 fun bb3 UA hj1=>?_;refine .ss 25 (uD UA)<|.bd hj1 fun r3 hr3 hj1=>.cq 26 [7,8,9,10] [3,3] 0 (iR (AZ:=IG) hr3) zSb O<|.xk (zl [4,0,0] 2 O)<|.IY O O<|.BV<|.bd hj1 fun D6 je hj1=>?_;refine .ss 30 (uD je)<|.bd hj1 fun r4 hr4 hj1=>.cq 26 [11,12,13,14] [2,2] 0 (zBo (AZ:=RZ) hr4) zTG O<|.xk (zl [4] 2 O)<|.yn 3 O<|.sB 34 hj1 O (fun hj1=>?_) (fun hj1=>?_)
  ·refine .yn 27 O<|.CQ ?_;cases hj1;exact .AO<|.hE (EW,c11,FX,c12,IE,c13,GU,c14,KL,c15) O (zl [14,13,12,11,1,0,2] 0 O)
  refine .yn 3 O<|.IY O O<|.yx 2 16 O<|.yn 3 O<|.IY O O<|.yl 3 14 O<|.IY O O<|.BV<|.bd hj1 fun D7 jf hj1=>?_;refine .ss 38 (uD jf)<|.bd hj1 fun r5 JH hj1=>.cr 27 [7,8,9,10] [2,2] 0 (bR (AZ:=IG) JH) zUP O fun TM c24=>.xk (zl [5,0,0] 3 O)<|.IY O O<|.BV<|.bd hj1 fun D8 jg hj1=>?_;refine .ss 43 (uD jg)<|.bd hj1 fun r6 KU hj1=>.call (zAa (AZ:=RZ) KU) zUq O O O (zd [12,13,14,15] [3,3] 0 O) ?_;rintro _ _ ⟨RP,c25,UI,QL,RQ,RS,QX,c28,QY,c29,WT,WU,rfl,rfl⟩;refine .nm 32 O<|.xk (zl [10,7,7] 8 O)<|.IY O O<|.BV<|.AY (fun _ w=>(w.sl [9] 0 O).IJ)<|.AY (fun _ w=>(w.sl [7] 0 O).IJ)<|.bd hj1 fun r7 OY hj1=>.cv [1,0] (zEC OY) zUS O<|.xk (zl [10] 8 O)<|.yn 3 O<|.sB 48 hj1 O (fun hj1=>?_) (fun hj1=>?_)
  ·refine .yn 13 O<|.CQ ?_;cases hj1;exact .AO<|.hE (RP,c25,UI,QL,RQ,RS,QX,c28,QY,c29) O (zl [5,4,3,2,3,2,4,2,2,2,2,2,2,2,2] 6 O)
  refine .yn 3 O<|.IY O O<|.yx 2 22 O<|.yn 3 O<|.IY O O<|.yl 3 14 O<|.IY O O<|.BV<|.bd hj1 fun bb7 I9 hj1=>?_;refine .ss 52 (uD I9)<|.bd hj1 fun r8 OZ hj1=>.cr 33 [13,14,15,16] [8,8] 0 (vL (AZ:=IG) OZ) Ec O fun WV c31=>.xk (zl [11,0,0] 9 O)<|.IY O O<|.BV<|.bd hj1 fun bb8 J3 hj1=>?_;refine .ss 57 (uD J3)<|.bd hj1 fun r9 QW hj1=>.cr 34 [7,8,9,10] [9,9] 0 (bG (AZ:=RZ) QW) zTK O fun YE c32=>.xk (zl [12,3,3] 10 O)<|.IY O O<|.BV<|.AY (fun _ w=>(w.sl [5] 0 O).BU)<|.AY (fun _ w=>(w.sl [3] 0 O).BU)<|.bd hj1 fun r10 LH hj1=>.cv [1,0] (zIF LH) zSE O<|.xk (zl [12,4,4] 10 O)<|.yn 2 O<|.CQ ?_;cases hj1;exact .AO<|.hE (RP,c25,UI,QL,RQ,RS,QX,c28,QY,c29) O (zl [11,10,9,8,3,2,6,2,2,4,4,4,4,4,4] 8 O)
 rintro ⟨JS,c19,JU,c20,KE,c21,LP,LQ,OJ,c23⟩;refine .cb h O (fun h=>?_) (fun h=>?_)
 ·refine .EK [2] [0,0,0,0,0,0,1,1] 2 O O ?_;cases h;exact .rv O O ⟨JS,c19,JU,c20,KE,c21,LP,LQ,OJ,c23,O,O⟩ (zk 18 10 [17,16,15,14] [14,14,14,14,14,14,14,6,6,12,12,5,4,10] 0 O)
 refine .sk<|.pr [3,4] O<|.seq<|.ab [3,4,63,64] O<|.bd h fun o2 hl1 h=>.ES 10 (fun (o3:Unit) (e3:Unit)=>[]) (fun o3 e3=>[0,1,2,3,4,5,7,8]) O O (fun o3=>o2= .inr o3) ?_ ?_
 ·refine .block<|.BM hl1 0 (fun (s1:Int) (e2:Unit)=>[3,4,63, .s 64 (.int .i64 s1)]) (fun s1 e2=>[]) O O () (zb O) (fun _ w=>w) ?_;rintro s1 e2 st1 hm1 hd1 h1;refine .ae O<|.seq<|.cb h1 O (fun h1=>?_) (fun h1=>?_)
  ·refine .sk<|.pr [3,4,63,64] O<|.seq<|.block<|.ab [3,4,5,63,64] O<|.seq<|.regionF mixed (by kernel_rfl)<|.n 2 O<|.bd h1 fun x1 hx1 h1=>.PW hx1 9 O fun g1 hA=>?_;subst hA;refine .MJ 0 hx1 O O (zm 9 O) O O<|.n 2 O<|.bd h1 fun x2 hx2 h1=>.PW hx2 6 O fun g2 hA=>?_;subst hA;refine .MJ 0 hx2 O O (zm 6 O) O O<|.bq [3,4,63,64,75] O<|.cb h1 O (fun h1=>?_) (fun h1=>?_)
   ·refine .EK [2] [0,0,0,0,0,0,1,1] 2 O O ?_;cases h1;cases hd1 _ rfl
    have h:some _=some _:=h;cases h;exact .rv O O ⟨JS,c19,JU,c20,KE,c21,LP,LQ,OJ,c23,O,O⟩ (zk 18 10 [17,16,15,14] [14,14,14,14,14,14,14,6,6,12,12,5,4,10] 0 O)
   refine .skip<|.BL<|.AO<|.pr [3,4,63,64] O<|.region ?_;cases h1;exact .be O<|.ag () hm1 O zw
  refine .xq O ?_;cases h1;cases hd1 _ rfl
  exact .AO<|.CZ () () O trivial (zl [0,0,0,0,0,0,1,1] 2 O)
 rintro o3 e3 ho;subst ho;have h:=JG h;refine .ae O ?_;cases h;exact .rv O O ⟨JS,c19,JU,c20,KE,c21,LP,LQ,OJ,c23,O,O⟩ (zk 18 10 [17,16,15,14] [14,14,14,14,14,14,14,6,6,12,12,5,4,10] 0 O)
def nW [AP] (codes:(List Int)) (DF:(List Int)) (raw:(List zB)) (list:(List yX)) (IW:Bool):Option Bool:=
 bnd (fI) fun r1=>bif !r1 then (some false) else (bnd ((bif decide ((raw.length:Int)>12) then (some true) else (bif decide ((list.length:Int)>40) then (some true) else (some (decide ((DF.length:Int)>28)))):Option Bool)) fun o1=>bif o1 then (some true) else (bnd (eX codes 300) fun r2=>bnd (zP r2 3) fun r3=>bnd (sub ([⟨#[98,105,111,115]⟩,⟨#[99,112,108,100]⟩,⟨#[109,101]⟩]) 0 (wrap .i64 (1+r3.2))) fun l1=>bnd (yC (τ:=List zB × List Int × Int) (fun (s1:List zB × Int × List Int × Int)=>bif decide (s1.2.1<(l1.length:Int)) then (bnd (BP l1 s1.2.1) fun x1=>bnd (qA (⟨s1.2.2.1,s1.2.2.2⟩:yS) x1) fun r4=>bnd (app 184 s1.1 [r4.2]) fun l2=>some (.next (l2,wrap .i64 (s1.2.1+1),r4.1.L,r4.1.At))) else (some (.done (s1.1,s1.2.2.1,s1.2.2.2)))) ([],0,r3.1.L,r3.1.At)) fun o2=>bnd ((bnd (zP (⟨o2.2.1,o2.2.2⟩:yS) 10) fun r5=>bif (r5.2==9) then (bnd (BP o2.1 0) fun x2=>bnd (rJ o2.1 0 (⟨x2.Name,x2.Slots,wrap .i64 (1 - x2.Active),x2.Running,x2.BK⟩:zB)) fun l3=>some (l3,r5.1.L,r5.1.At)) else (some (o2.1,r5.1.L,r5.1.At)):Option (List zB × List Int × Int))) fun o3=>bnd (zP (⟨o3.2.1,o3.2.2⟩:yS) 3) fun r6=>bnd (zP r6.1 8) fun r7=>bnd (zP r7.1 4) fun r8=>bnd (yC (τ:=List Int × List Int × Int) (fun (s2:List Int × Int × List Int × Int)=>bif decide (s2.2.1>0) then (bnd (zP (⟨s2.2.2.1,s2.2.2.2⟩:yS) 4) fun r9=>bnd (app 1 s2.1 [wrap .u8 r9.2]) fun l4=>some (.next (l4,wrap .i64 (s2.2.1 - 1),r9.1.L,r9.1.At))) else (some (.done (s2.1,s2.2.2.1,s2.2.2.2)))) ([wrap .u8 (wrap .i64 (2+r6.2)),wrap .u8 r7.2],r8.2,r8.1.L,r8.1.At)) fun o4=>bnd ((bnd ((bnd (zP (⟨o4.2.1,o4.2.2⟩:yS) 2) fun r10=>bif (r10.2==0) then (bnd (xK r10.1 3) fun r11=>some (r11.2,r11.1.L,r11.1.At)) else (some (list,r10.1.L,r10.1.At)):Option (List yX × List Int × Int))) fun o7=>bnd (uJ 2 1024) fun r12=>sI r12.1 (none) (fun q1=>bnd (tB 2 1024) fun r13=>sI r13.1 (none) (fun q2=>bnd (xN q1 0) fun QN=>sI QN.2.1 (none) (fun q3=>bnd (vH q2 0) fun QO=>sI QO.2.1 (none) (fun q4=>bnd ((bif (r12.2 != 0) then (some true) else (bif (r13.2 != 0) then (some true) else (bif (QN.2.2 != 0) then (some true) else (some (QO.2.2 != 0)))):Option Bool)) fun o8=>bif o8 then (some (.inl false)) else (bnd (xH (⟨true,true,false,false,o7.1⟩:uV) o3.1 o3.1 QN.1 QO.1) fun r16=>sI r16.2.2.2.2.2 (bnd ((bif !r16.2.2.2.2.1 then (some true) else (bif (r16.2.2.2.1==0) then (bnd (xR (⟨r16.1.d,r16.1.f,false,false,r16.1.needs⟩:uV) r16.2.1 r16.2.2.1) fun YG=>some (!YG)) else (some false)):Option Bool)) fun o9=>bif o9 then (some (.inl false)) else (some (.inr (o3.1,o3.1,o7.2.1,o7.2.2)))) (fun q5=>bnd ((bif !r16.2.2.2.2.1 then (some (true,q5.2.2.2)) else (bif (r16.2.2.2.1==0) then (bnd (xE r16.1 r16.2.1 r16.2.2.1 q5.2.2.1 q5.1 q5.2.2.2 q5.2.1) fun WY=>some (!WY.2,WY.1)) else (some (false,q5.2.2.2))):Option (Bool × zY))) fun Ep=>bif Ep.1 then (some (.inl false)) else (some (.inr (o3.1,o3.1,o7.2.1,o7.2.2))))))))):Option (Bool ⊕ (List zB × List zB × List Int × Int)))) fun o5=>xL o5 fun o6=>bnd ((bnd ((bnd (zP (⟨o6.2.2.1,o6.2.2.2⟩:yS) 2) fun Es=>bif (Es.2==0) then (bnd (xK Es.1 3) fun Td=>some (Td.2,Td.1.L,Td.1.At)) else (some (list,Es.1.L,Es.1.At)):Option (List yX × List Int × Int))) fun PI=>bnd (uJ 2 1024) fun Tf=>sI Tf.1 (none) (fun q6=>bnd (tB 2 1024) fun r22=>sI r22.1 (none) (fun q7=>bnd (xN q6 0) fun Et=>sI Et.2.1 (none) (fun q8=>bnd (vH q7 0) fun Eu=>sI Eu.2.1 (none) (fun q9=>bnd ((bif (Tf.2 != 0) then (some true) else (bif (r22.2 != 0) then (some true) else (bif (Et.2.2 != 0) then (some true) else (some (Eu.2.2 != 0)))):Option Bool)) fun J4=>bif J4 then (some (.inl false)) else (bnd (xH (⟨true,true,false,false,PI.1⟩:uV) raw raw Et.1 Eu.1) fun r25=>sI r25.2.2.2.2.2 (bnd ((bif !r25.2.2.2.2.1 then (some true) else (bif (r25.2.2.2.1==0) then (bnd (xR (⟨r25.1.d,r25.1.f,false,false,r25.1.needs⟩:uV) r25.2.1 r25.2.2.1) fun r26=>some (!r26)) else (some false)):Option Bool)) fun J5=>bif J5 then (some (.inl false)) else (some (.inr (PI.2.1,PI.2.2)))) (fun q10=>bnd ((bif !r25.2.2.2.2.1 then (some (true,q10.2.2.2)) else (bif (r25.2.2.2.1==0) then (bnd (xE r25.1 r25.2.1 r25.2.2.1 q10.2.2.1 q10.1 q10.2.2.2 q10.2.1) fun r27=>some (!r27.2,r27.1)) else (some (false,q10.2.2.2))):Option (Bool × zY))) fun o16=>bif o16.1 then (some (.inl false)) else (some (.inr (PI.2.1,PI.2.2))))))))):Option (Bool ⊕ (List Int × Int)))) fun Ti=>xL Ti fun XA=>bnd ((bnd ((bnd (zP (⟨XA.1,XA.2⟩:yS) 2) fun r28=>bif (r28.2==0) then (bnd (xK r28.1 3) fun Tj=>some (Tj.2,Tj.1.L,Tj.1.At)) else (some (list,r28.1.L,r28.1.At)):Option (List yX × List Int × Int))) fun OM=>bnd (uJ 2 1024) fun Tm=>sI Tm.1 (none) (fun q11=>bnd (tB 2 1024) fun Tn=>sI Tn.1 (none) (fun q12=>bnd (xN q11 0) fun r32=>sI r32.2.1 (none) (fun q13=>bnd (vH q12 0) fun lu=>sI lu.2.1 (none) (fun Tq=>bnd ((bif (Tm.2 != 0) then (some true) else (bif (Tn.2 != 0) then (some true) else (bif (r32.2.2 != 0) then (some true) else (some (lu.2.2 != 0)))):Option Bool)) fun J6=>bif J6 then (some (.inl false)) else (bnd ((bif (!IW) then (bnd (xQ q13 32 DF r32.1) fun zf=>bif (zf.2.2 != 0) then (some (true,lu.1,Tq,zf.2.1,zf.1)) else (bnd (xA Tq ([(⟨32,DF,false⟩:zD)]) lu.1) fun Tt=>some ((Tt.2.2 != 0),Tt.2.1,Tt.1,zf.2.1,zf.1))) else (some (false,lu.1,Tq,r32.1,q13)):Option (Bool × yD × zH × zA × zE))) fun VY=>bif VY.1 then (some (.inl false)) else (bnd (xH (⟨true,true,false,false,OM.1⟩:uV) o6.1 o6.1 VY.2.2.2.1 VY.2.1) fun SA=>sI SA.2.2.2.2.2 (bnd ((bif !SA.2.2.2.2.1 then (some true) else (bif (SA.2.2.2.1==0) then (bnd (xR (⟨SA.1.d,SA.1.f,false,false,SA.1.needs⟩:uV) SA.2.1 SA.2.2.1) fun r37=>some (!r37)) else (some false)):Option Bool)) fun J7=>bif J7 then (some (.inl false)) else (some (.inr (OM.2.1,OM.2.2)))) (fun mg=>bnd ((bif !SA.2.2.2.2.1 then (some (true,mg.2.2.2)) else (bif (SA.2.2.2.1==0) then (bnd (xE SA.1 SA.2.1 SA.2.2.1 mg.2.2.1 mg.1 mg.2.2.2 mg.2.1) fun J8=>some (!J8.2,J8.1)) else (some (false,mg.2.2.2))):Option (Bool × zY))) fun J9=>bif J9.1 then (some (.inl false)) else (some (.inr (OM.2.1,OM.2.2)))))))))):Option (Bool ⊕ (List Int × Int)))) fun Tv=>xL Tv fun XB=>bnd ((bnd ((bnd (zP (⟨XB.1,XB.2⟩:yS) 2) fun Ew=>bif (Ew.2==0) then (bnd (xK Ew.1 3) fun Tz=>some (Tz.2,Tz.1.L,Tz.1.At)) else (some (list,Ew.1.L,Ew.1.At)):Option (List yX × List Int × Int))) fun OO=>bnd (uJ 2 1024) fun Ua=>sI Ua.1 (none) (fun q16=>bnd (tB 2 1024) fun Ub=>sI Ub.1 (none) (fun q17=>bnd (xN q16 0) fun zh=>sI zh.2.1 (none) (fun N7=>bnd (vH q17 0) fun mr=>sI mr.2.1 (none) (fun Uc=>bnd ((bif (Ua.2 != 0) then (some true) else (bif (Ub.2 != 0) then (some true) else (bif (zh.2.2 != 0) then (some true) else (some (mr.2.2 != 0)))):Option Bool)) fun N8=>bif N8 then (some (.inl false)) else (bnd ((bif (!IW) then (bnd (xQ N7 32 DF zh.1) fun zn=>bif (zn.2.2 != 0) then (some (true,mr.1,Uc,zn.2.1,zn.1)) else (bnd (xA Uc ([(⟨32,DF,false⟩:zD)]) mr.1) fun Ud=>some ((Ud.2.2 != 0),Ud.2.1,Ud.1,zn.2.1,zn.1))) else (some (false,mr.1,Uc,zh.1,N7)):Option (Bool × yD × zH × zA × zE))) fun VZ=>bif VZ.1 then (some (.inl false)) else (bnd (xH (⟨true,true,false,false,OO.1⟩:uV) raw raw VZ.2.2.2.1 VZ.2.1) fun SB=>sI SB.2.2.2.2.2 (bnd ((bif !SB.2.2.2.2.1 then (some true) else (bif (SB.2.2.2.1==0) then (bnd (xR (⟨SB.1.d,SB.1.f,false,false,SB.1.needs⟩:uV) SB.2.1 SB.2.2.1) fun r48=>some (!r48)) else (some false)):Option Bool)) fun N9=>bif N9 then (some (.inl false)) else (some (.inr (OO.2.1,OO.2.2)))) (fun ng=>bnd ((bif !SB.2.2.2.2.1 then (some (true,ng.2.2.2)) else (bif (SB.2.2.2.1==0) then (bnd (xE SB.1 SB.2.1 SB.2.2.1 ng.2.2.1 ng.1 ng.2.2.2 ng.2.1) fun O0=>some (!O0.2,O0.1)) else (some (false,ng.2.2.2))):Option (Bool × zY))) fun O1=>bif O1.1 then (some (.inl false)) else (some (.inr (OO.2.1,OO.2.2)))))))))):Option (Bool ⊕ (List Int × Int)))) fun Ue=>xL Ue fun XC=>bnd ((bnd ((bnd (zP (⟨XC.1,XC.2⟩:yS) 2) fun Ey=>bif (Ey.2==0) then (bnd (xK Ey.1 3) fun Uf=>some (Uf.2,Uf.1.L,Uf.1.At)) else (some (list,Ey.1.L,Ey.1.At)):Option (List yX × List Int × Int))) fun PK=>bnd (uJ 2 1024) fun Ug=>sI Ug.1 (none) (fun q21=>bnd (tB 2 1024) fun Uh=>sI Uh.1 (none) (fun q22=>bnd (xN q21 0) fun Ez=>sI Ez.2.1 (none) (fun q23=>bnd (vH q22 0) fun zo=>sI zo.2.1 (none) (fun q24=>bnd ((bif (Ug.2 != 0) then (some true) else (bif (Uh.2 != 0) then (some true) else (bif (Ez.2.2 != 0) then (some true) else (some (zo.2.2 != 0)))):Option Bool)) fun O3=>bif O3 then (some (.inl false)) else (bnd ((bnd (Dt o4.1) fun z1=>bnd (xQ q23 32 o4.1 Ez.1) fun zq=>bif (zq.2.2 != 0) then (some (o4.1,true,zo.1,q24,zq.2.1,zq.1,o4.1)) else (bnd (xA q24 ([(⟨32,o4.1,false⟩:zD)]) zo.1) fun Ui=>some (o4.1,(Ui.2.2 != 0),Ui.2.1,Ui.1,zq.2.1,zq.1,o4.1)):Option (List Int × Bool × yD × zH × zA × zE × List Int))) fun NE=>bif NE.2.1 then (some (.inl false)) else (bnd (xH (⟨true,true,false,false,PK.1⟩:uV) o6.1 o6.1 NE.2.2.2.2.1 NE.2.2.1) fun SC=>sI SC.2.2.2.2.2 (bnd ((bif !SC.2.2.2.2.1 then (some true) else (bif (SC.2.2.2.1==0) then (bnd (xR (⟨SC.1.d,SC.1.f,false,false,SC.1.needs⟩:uV) SC.2.1 SC.2.2.1) fun r59=>some (!r59)) else (some false)):Option Bool)) fun O4=>bif O4 then (some (.inl false)) else (some (.inr (NE.1,NE.2.2.2.2.2.2,PK.2.1,PK.2.2)))) (fun ni=>bnd ((bif !SC.2.2.2.2.1 then (some (true,ni.2.2.2)) else (bif (SC.2.2.2.1==0) then (bnd (xE SC.1 SC.2.1 SC.2.2.1 ni.2.2.1 ni.1 ni.2.2.2 ni.2.1) fun O5=>some (!O5.2,O5.1)) else (some (false,ni.2.2.2))):Option (Bool × zY))) fun O6=>bif O6.1 then (some (.inl false)) else (some (.inr (NE.1,NE.2.2.2.2.2.2,PK.2.1,PK.2.2)))))))))):Option (Bool ⊕ (List Int × List Int × List Int × Int)))) fun Uj=>xL Uj fun o32=>bnd ((bnd ((bnd (zP (⟨o32.2.2.1,o32.2.2.2⟩:yS) 2) fun Fa=>bif (Fa.2==0) then (bnd (xK Fa.1 3) fun Uk=>some (Uk.2,Uk.1.L,Uk.1.At)) else (some (list,Fa.1.L,Fa.1.At)):Option (List yX × List Int × Int))) fun PL=>bnd (uJ 2 1024) fun Ul=>sI Ul.1 (none) (fun q26=>bnd (tB 2 1024) fun Um=>sI Um.1 (none) (fun q27=>bnd (xN q26 0) fun Fb=>sI Fb.2.1 (none) (fun q28=>bnd (vH q27 0) fun zu=>sI zu.2.1 (none) (fun O7=>bnd ((bif (Ul.2 != 0) then (some true) else (bif (Um.2 != 0) then (some true) else (bif (Fb.2.2 != 0) then (some true) else (some (zu.2.2 != 0)))):Option Bool)) fun O8=>bif O8 then (some (.inl false)) else (bnd ((bnd (Dt o32.1) fun z2=>bnd (xQ q28 32 o32.1 Fb.1) fun zx=>bif (zx.2.2 != 0) then (some (o32.1,true,zu.1,O7,zx.2.1,zx.1)) else (bnd (xA O7 ([(⟨32,o32.1,false⟩:zD)]) zu.1) fun Un=>some (o32.1,(Un.2.2 != 0),Un.2.1,Un.1,zx.2.1,zx.1)):Option (List Int × Bool × yD × zH × zA × zE))) fun QR=>bif QR.2.1 then (some (.inl false)) else (bnd (xH (⟨true,true,false,false,PL.1⟩:uV) raw raw QR.2.2.2.2.1 QR.2.2.1) fun SE=>sI SE.2.2.2.2.2 (bnd ((bif !SE.2.2.2.2.1 then (some true) else (bif (SE.2.2.2.1==0) then (bnd (xR (⟨SE.1.d,SE.1.f,false,false,SE.1.needs⟩:uV) SE.2.1 SE.2.2.1) fun r70=>some (!r70)) else (some false)):Option Bool)) fun O9=>bif O9 then (some (.inl false)) else (some (.inr (QR.1,PL.2.1,PL.2.2)))) (fun q30=>bnd ((bif !SE.2.2.2.2.1 then (some (true,q30.2.2.2)) else (bif (SE.2.2.2.1==0) then (bnd (xE SE.1 SE.2.1 SE.2.2.1 q30.2.2.1 q30.1 q30.2.2.2 q30.2.1) fun P5=>some (!P5.2,P5.1)) else (some (false,q30.2.2.2))):Option (Bool × zY))) fun P6=>bif P6.1 then (some (.inl false)) else (some (.inr (QR.1,PL.2.1,PL.2.2)))))))))):Option (Bool ⊕ (List Int × List Int × Int)))) fun Uo=>xL Uo fun XD=>some true))
end Go.Proofs.YtplchdlgdjcojaaGreatDoor
end
