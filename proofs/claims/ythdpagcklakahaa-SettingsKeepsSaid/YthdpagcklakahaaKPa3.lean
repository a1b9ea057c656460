/-
  Texts of this seat, put together: rules, walks, plain laws.
  Conditions: none.
-/
import Derived.Test.YthdpagcklakahaaKPa2
section
namespace Go.Proofs.Ythdpagcklakahaa
open Go
set_option linter.unusedVariables false
set_option maxRecDepth 4000
set_option maxHeartbeats 4000000 in
theorem c_slices_pdqsortOrdered_uint8_step {rec : List Int → Int → Int → Int → Option (List Int)} (c_rec : ∀ {data : (List Int)} {a_p1 : Int} {b_p2 : Int} {limit : Int} {A1 : Option Addr} {c1 : Nat} {r : (List Int)}, rec data a_p1 b_p2 limit = some r →
    Fun Try.prog 83 [.slice A1 data.length c1, .int .i64 a_p1, .int .i64 b_p2, .int .i64 limit] [.res (OwnL eu8 5 A1 c1 data)] (fun v_ F_ => v_ = .tuple #[] ∧ F_ = [.res (OwnL eu8 5 A1 c1 r)])) {data : (List Int)} {a_p1 : Int} {b_p2 : Int} {limit : Int} {A1 : Option Addr} {c1 : Nat} {r : (List Int)} (h : m_slices_pdqsortOrdered_uint8_step rec data a_p1 b_p2 limit = some r) :
    Fun Try.prog 83 [.slice A1 data.length c1, .int .i64 a_p1, .int .i64 b_p2, .int .i64 limit] [.res (OwnL eu8 5 A1 c1 data)] (fun v_ F_ => v_ = .tuple #[] ∧ F_ = [.res (OwnL eu8 5 A1 c1 r)]) := by
 unfold m_slices_pdqsortOrdered_uint8_step at h
 refine Fun.intro Try.func83 rfl rfl rfl fun w R => ?_;refine .ae rfl ?_;refine .ae rfl ?_;obtain ⟨o1, hl1, h⟩ := bnd_e h;refine .selfThen ?_;refine .cutI (fun (o2 : Unit) (e2 : Unit) => []) (fun o2 e2 => .res (OwnL eu8 5 A1 c1 data) :: R) (fun o2 => o1 = .inr o2) ?_ ?_
 ·refine .block ?_;refine .loop hl1 (fun (s1 : List Int × Int × Int × Int × Bool × Bool) (e1 : Unit) => [(0, .slice A1 s1.1.length c1), (1, .int .i64 s1.2.1), (2, .int .i64 s1.2.2.1), (3, .int .i64 s1.2.2.2.1), (8, .bool s1.2.2.2.2.1), (9, .bool s1.2.2.2.2.2)]) (fun s1 e1 => .res (OwnL eu8 5 A1 c1 s1.1) :: R) (fun _ _ => True) () trivial (zb rfl) (fun _ w => w) ?_;rintro s1 e1 - hit1
  obtain ⟨st1, hm1, hd1⟩ := iter_e hit1;have h1 := hm1;refine .block ?_;refine .ab [0,1,2,3,8,9,10] rfl ?_;refine .seq ?_;refine .ab [0,1,2,3,8,9,10,23] rfl ?_;refine .cb h1 rfl (fun h1 => ?_) (fun h1 => ?_)
  ·refine .a 3 rfl ?_;obtain ⟨r1, hr1, h1⟩ := bnd_e h1;refine .call (c_slices_insertionSortOrdered_uint8 hr1) ent87 rfl rfl rfl (fun _ w => w) ?_;rintro _ _ ⟨rfl, rfl⟩;refine .nm 1 rfl ?_;obtain ⟨l1, hl1, h1⟩ := bnd_e h1;refine .ss 0 (sl_chk hl1) ?_;refine .ss 24 (sl_chk hl1) ?_;refine .b [] rfl ?_;refine .ret ?_;repeat (first | refine .thenR ?_ | refine .blkR ?_)
   cases h1;have ho := hd1 _ rfl;subst ho;have h : some _ = some _ := h;cases h;exact .finR Try.results83 .nil rfl _ ⟨rfl, rfl⟩ (fun _ w => w)
  refine .sk ?_;refine .pr [0,1,2,3,8,9,10] rfl ?_;refine .seq ?_;refine .ab [0,1,2,3,8,9,10,29] rfl ?_;refine .cb h1 rfl (fun h1 => ?_) (fun h1 => ?_)
  ·refine .a 3 rfl ?_;obtain ⟨r2, hr2, h1⟩ := bnd_e h1;refine .call (c_slices_heapSortOrdered_uint8 hr2) ent88 rfl rfl rfl (fun _ w => w) ?_;rintro _ _ ⟨rfl, rfl⟩;refine .nm 1 rfl ?_;obtain ⟨l2, hl2, h1⟩ := bnd_e h1;refine .ss 0 (sl_chk hl2) ?_;refine .ss 30 (sl_chk hl2) ?_;refine .b [] rfl ?_;refine .ret ?_;repeat (first | refine .thenR ?_ | refine .blkR ?_)
   cases h1;have ho := hd1 _ rfl;subst ho;have h : some _ = some _ := h;cases h;exact .finR Try.results83 .nil rfl _ ⟨rfl, rfl⟩ (fun _ w => w)
  refine .sk ?_;refine .pr [0,1,2,3,8,9,10] rfl ?_;refine .seq ?_;obtain ⟨o3, hj1, h1⟩ := bnd_e h1;refine .cutE (fun (e3 : Unit) => [(0, .slice A1 o3.1.length c1), (1, .int .i64 s1.2.1), (2, .int .i64 s1.2.2.1), (3, .int .i64 o3.2), (8, .bool s1.2.2.2.2.1), (9, .bool s1.2.2.2.2.2), (10, .int .i64 (IntKind.wrap .i64 (s1.2.2.1 - s1.2.1)))]) (fun e3 => .res (OwnL eu8 5 A1 c1 o3.1) :: R) ?_ ?_
  ·refine .ab [0,1,2,3,8,9,10,35] rfl ?_;refine .cb hj1 rfl (fun hj1 => ?_) (fun hj1 => ?_)
   ·refine .a 3 rfl ?_;obtain ⟨r3, hr3, hj1⟩ := bnd_e hj1;refine .call (c_slices_breakPatternsOrdered_uint8 hr3) ent89 rfl rfl rfl (fun _ w => w) ?_;rintro _ _ ⟨rfl, rfl⟩;refine .nm 1 rfl ?_;obtain ⟨l3, hl3, hj1⟩ := bnd_e hj1;refine .ss 0 (sl_chk hl3) ?_;refine .ss 36 (sl_chk hl3) ?_;refine .b [0,1,2,3,8,9,10] rfl ?_;refine .region ?_;cases hj1;refine .be rfl ?_
    exact .hereE () (zb rfl) (fun _ w => w)
   cases hj1;refine .sk ?_;exact .hereE () (zb rfl) (fun _ w => w)
  rintro e3;refine .a 3 rfl ?_;obtain ⟨r4, hr4, h1⟩ := bnd_e h1;refine .callL (c_slices_choosePivotOrdered_uint8 hr4) ent90 rfl rfl rfl rfl (Asks.own (.head _) Asks.nil) (fun _ _ h => by rw [h.2]; exact True.intro) ?_;rintro _ _ ⟨rfl, rfl⟩;refine .nm 1 rfl ?_;refine .b [0,1,2,3,8,9,10,11,12] rfl ?_;refine .seq ?_;obtain ⟨o4, hj2, h1⟩ := bnd_e h1
  refine .cutE (fun (e4 : Unit) => [(0, .slice A1 o4.1.length c1), (1, .int .i64 s1.2.1), (2, .int .i64 s1.2.2.1), (3, .int .i64 o3.2), (8, .bool s1.2.2.2.2.1), (9, .bool s1.2.2.2.2.2), (10, .int .i64 (IntKind.wrap .i64 (s1.2.2.1 - s1.2.1))), (11, .int .i64 o4.2.1), (12, .int .i64 o4.2.2)]) (fun e4 => .res (OwnL eu8 5 A1 c1 o4.1) :: R) ?_ ?_
  ·refine .ab [0,1,2,3,8,9,10,11,12,50] rfl ?_;refine .cb hj2 rfl (fun hj2 => ?_) (fun hj2 => ?_)
   ·refine .a 3 rfl ?_;obtain ⟨r5, hr5, hj2⟩ := bnd_e hj2;refine .call (c_slices_reverseRangeOrdered_uint8 hr5) ent91 rfl rfl rfl (fun _ w => w) ?_;rintro _ _ ⟨rfl, rfl⟩;refine .nm 1 rfl ?_;obtain ⟨l4, hl4, hj2⟩ := bnd_e hj2;refine .ss 0 (sl_chk hl4) ?_;refine .ss 51 (sl_chk hl4) ?_;refine .b [0,1,2,3,8,9,10,11] rfl ?_;refine .ab [0,1,2,3,8,9,10,11] rfl ?_;refine .region ?_;cases hj2
    refine .be rfl ?_;exact .hereE () (zb rfl) (fun _ w => w)
   cases hj2;refine .sk ?_;exact .hereE () (zb rfl) (fun _ w => w)
  rintro e4;refine .seq ?_;obtain ⟨o5, hj3, h1⟩ := bnd_e h1
  refine .cutI (fun (o6 : List Int) (e5 : Unit) => [(0, .slice A1 o6.length c1), (1, .int .i64 s1.2.1), (2, .int .i64 s1.2.2.1), (3, .int .i64 o3.2), (8, .bool s1.2.2.2.2.1), (9, .bool s1.2.2.2.2.2), (10, .int .i64 (IntKind.wrap .i64 (s1.2.2.1 - s1.2.1))), (11, .int .i64 o4.2.1)]) (fun o6 e5 => .res (OwnL eu8 5 A1 c1 o6) :: R) (fun o6 => o5 = .inr o6) ?_ ?_
  ·refine .seq ?_;obtain ⟨o7, hj4, hj3⟩ := bnd_e hj3;refine .cutE (fun (e6 : Unit) => [(0, .slice A1 o4.1.length c1), (1, .int .i64 s1.2.1), (2, .int .i64 s1.2.2.1), (3, .int .i64 o3.2), (8, .bool s1.2.2.2.2.1), (9, .bool s1.2.2.2.2.2), (10, .int .i64 (IntKind.wrap .i64 (s1.2.2.1 - s1.2.1))), (11, .int .i64 o4.2.1), (68, .bool o7)]) (fun e6 => .res (OwnL eu8 5 A1 c1 o4.1) :: R) ?_ ?_
   ·refine .region ?_;refine .n 2 rfl ?_;refine .gSplit (dj := 62) _ rfl (fun hb5 => ?_) (fun hb5 => ?_)
    ·replace hj4 := bif_t hb5 hj4;refine .n 3 rfl ?_;refine .gSplit (dj := 65) _ rfl (fun hb6 => ?_) (fun hb6 => ?_)
     ·replace hj4 := bif_t hb6 hj4;cases hj4;refine .be rfl ?_;exact .hereE () (zb rfl) (fun _ w => w)
     replace hj4 := bif_f hb6 hj4;cases hj4;refine .be rfl ?_;exact .hereE () (zb rfl) (fun _ w => w)
    replace hj4 := bif_f hb5 hj4;cases hj4;refine .be rfl ?_;exact .hereE () (zb rfl) (fun _ w => w)
   rintro e6;refine .cb hj3 rfl (fun hj3 => ?_) (fun hj3 => ?_)
   ·refine .a 3 rfl ?_;obtain ⟨r6, hr6, hj3⟩ := bnd_e hj3;refine .call (c_slices_partialInsertionSortOrdered_uint8 hr6) ent92 rfl rfl rfl (fun _ w => w) ?_;rintro _ _ ⟨rfl, rfl⟩;refine .nm 1 rfl ?_;obtain ⟨l5, hl5, hj3⟩ := bnd_e hj3;refine .ss 0 (sl_chk hl5) ?_;refine .ss 69 (sl_chk hl5) ?_;refine .b [0,1,2,3,8,9,10,11,72] rfl ?_;refine .cb hj3 rfl (fun hj3 => ?_) (fun hj3 => ?_)
    ·refine .ret ?_;repeat (first | refine .thenR ?_ | refine .blkR ?_)
     cases hj3;have h1 : some _ = some _ := h1;cases h1;have ho := hd1 _ rfl;subst ho;have h : some _ = some _ := h;cases h;exact .finR Try.results83 .nil rfl _ ⟨rfl, rfl⟩ (fun _ w => w)
    cases hj3;refine .sk ?_;exact .hereI r6.1 () rfl (zb rfl) (fun _ w => w)
   cases hj3;refine .sk ?_;exact .hereI o4.1 () rfl (zb rfl) (fun _ w => w)
  rintro o6 e5 ho;subst ho;have h1 := unRW h1;refine .seq ?_;refine .seq ?_;obtain ⟨o8, hj5, h1⟩ := bnd_e h1
  refine .cutE (fun (e7 : Unit) => [(0, .slice A1 o6.length c1), (1, .int .i64 s1.2.1), (2, .int .i64 s1.2.2.1), (3, .int .i64 o3.2), (8, .bool s1.2.2.2.2.1), (9, .bool s1.2.2.2.2.2), (10, .int .i64 (IntKind.wrap .i64 (s1.2.2.1 - s1.2.1))), (11, .int .i64 o4.2.1), (87, .bool o8)]) (fun e7 => .res (OwnL eu8 5 A1 c1 o6) :: R) ?_ ?_
  ·refine .regionF mixed (by kernel_rfl) ?_;refine .n 3 rfl ?_;refine .gSplit (dj := 75) _ rfl (fun hb9 => ?_) (fun hb9 => ?_)
   ·replace hj5 := bif_t hb9 hj5;refine .n 3 rfl ?_;refine .gOn (dj := 75) rfl rfl ?_;obtain ⟨x1, hx1, hj5⟩ := bnd_e hj5;refine .ixO hx1 rfl rfl rfl (.head _) rfl rfl rfl rfl rfl fun g1 hA => ?_;subst hA;refine .gOn (dj := 75) rfl rfl ?_;refine .ldO 0 hx1 rfl rfl (.head _) rfl rfl ?_;refine .n 2 rfl ?_;refine .gOn (dj := 75) rfl rfl ?_;obtain ⟨x2, hx2, hj5⟩ := bnd_e hj5
    refine .ixO hx2 rfl rfl rfl (.head _) rfl rfl rfl rfl rfl fun g2 hA => ?_;cases hA;refine .gOn (dj := 75) rfl rfl ?_;refine .ldO 0 hx2 rfl rfl (.head _) rfl rfl ?_;refine .gOn (dj := 75) rfl rfl ?_;obtain ⟨r7, hr7, hj5⟩ := bnd_e hj5;refine .callV (c_cmp_Less_uint8 hr7) ent93 rfl rfl rfl rfl trivial ?_;cases hj5;refine .beq rfl ?_;exact .hereE () (zb rfl) (fun _ w => w)
   replace hj5 := bif_f hb9 hj5;cases hj5;refine .beq rfl ?_;exact .hereE () (zb rfl) (fun _ w => w)
  rintro e7;refine .cb h1 rfl (fun h1 => ?_) (fun h1 => ?_)
  ·refine .a 4 rfl ?_;obtain ⟨r8, hr8, h1⟩ := bnd_e h1;refine .call (c_slices_partitionEqualOrdered_uint8 hr8) ent94 rfl rfl rfl (fun _ w => w) ?_;rintro _ _ ⟨rfl, rfl⟩;refine .nm 1 rfl ?_;obtain ⟨l6, hl6, h1⟩ := bnd_e h1;refine .ss 0 (sl_chk hl6) ?_;refine .ss 88 (sl_chk hl6) ?_;refine .b [0,2,3,8,9,13] rfl ?_;refine .ab [0,1,2,3,8,9] rfl ?_;refine .exit ?_
   repeat (first | refine .thenX ?_ | refine .blkMiss rfl ?_)
   refine .blkHit ?_;cases h1;refine .thenN ?_;exact .again _ () hm1 trivial (zb rfl) (fun _ w => w)
  refine .sk ?_;refine .pr [0,1,2,3,10,11] rfl ?_;refine .a 4 rfl ?_;obtain ⟨r9, hr9, h1⟩ := bnd_e h1;refine .call (c_slices_partitionOrdered_uint8 hr9) ent95 rfl rfl rfl (fun _ w => w) ?_;rintro _ _ ⟨rfl, rfl⟩;refine .nm 1 rfl ?_;obtain ⟨l7, hl7, h1⟩ := bnd_e h1;refine .ss 0 (sl_chk hl7) ?_;refine .ss 95 (sl_chk hl7) ?_;refine .b [0,1,2,3,10,14,15] rfl ?_;refine .ab [0,1,2,3,9,10,14] rfl ?_
  refine .ab [0,1,2,3,9,10,14,16,17] rfl ?_;refine .ab [0,1,2,3,9,14,16,17,18] rfl ?_;refine .ab [0,1,2,3,9,14,16,17,18,113] rfl ?_;refine .cb h1 rfl (fun h1 => ?_) (fun h1 => ?_)
  ·refine .ab [0,1,2,3,8,9,14] rfl ?_;refine .a 4 rfl ?_;obtain ⟨r10, hr10, h1⟩ := bnd_e h1;refine .call (c_rec hr10) ent83 rfl rfl rfl (fun _ w => w) ?_;rintro _ _ ⟨rfl, rfl⟩;refine .nm 1 rfl ?_;obtain ⟨l8, hl8, h1⟩ := bnd_e h1;refine .ss 0 (sl_chk hl8) ?_;refine .ss 117 (sl_chk hl8) ?_;refine .b [0,2,3,8,9,14] rfl ?_;refine .region ?_;refine .n 3 rfl ?_;refine .done ?_;refine .blkN ?_;cases h1
   refine .thenN ?_;exact .again _ () hm1 trivial (zb rfl) (fun _ w => w)
  refine .ab [0,1,2,3,8,9,14] rfl ?_;refine .a 5 rfl ?_;obtain ⟨r11, hr11, h1⟩ := bnd_e h1;refine .call (c_rec hr11) ent83 rfl rfl rfl (fun _ w => w) ?_;rintro _ _ ⟨rfl, rfl⟩;refine .nm 1 rfl ?_;obtain ⟨l9, hl9, h1⟩ := bnd_e h1;refine .ss 0 (sl_chk hl9) ?_;refine .ss 127 (sl_chk hl9) ?_;refine .b [0,1,3,8,9,14] rfl ?_;refine .region ?_;refine .n 2 rfl ?_;refine .done ?_;refine .blkN ?_;cases h1
  refine .thenN ?_;exact .again _ () hm1 trivial (zb rfl) (fun _ w => w)
 rintro o2 e2 ho;subst ho;have h := unR h;have h : none = some _ := h;cases h
noncomputable def m_slices_pdqsortOrdered_uint8_n : Nat → List Int → Int → Int → Int → Option (List Int)
  | 0 => fun _ _ _ _ => none
  | n_ + 1 => m_slices_pdqsortOrdered_uint8_step (m_slices_pdqsortOrdered_uint8_n n_)
noncomputable def m_slices_pdqsortOrdered_uint8 (data : (List Int)) (a_p1 : Int) (b_p2 : Int) (limit : Int) : Option (List Int) := m_slices_pdqsortOrdered_uint8_n (data.length + 1) data a_p1 b_p2 limit
theorem c_slices_pdqsortOrdered_uint8_n (n_ : Nat) : ∀ {data : (List Int)} {a_p1 : Int} {b_p2 : Int} {limit : Int} {A1 : Option Addr} {c1 : Nat} {r : (List Int)}, m_slices_pdqsortOrdered_uint8_n n_ data a_p1 b_p2 limit = some r →
    Fun Try.prog 83 [.slice A1 data.length c1, .int .i64 a_p1, .int .i64 b_p2, .int .i64 limit] [.res (OwnL eu8 5 A1 c1 data)] (fun v_ F_ => v_ = .tuple #[] ∧ F_ = [.res (OwnL eu8 5 A1 c1 r)]) := by
 induction n_ with
 | zero => intros; rename_i h; cases h
 | succ n_ ih => intros; rename_i h; exact c_slices_pdqsortOrdered_uint8_step (fun h => ih h) h
theorem c_slices_pdqsortOrdered_uint8 {data : (List Int)} {a_p1 : Int} {b_p2 : Int} {limit : Int} {A1 : Option Addr} {c1 : Nat} {r : (List Int)} (h : m_slices_pdqsortOrdered_uint8 data a_p1 b_p2 limit = some r) :
    Fun Try.prog 83 [.slice A1 data.length c1, .int .i64 a_p1, .int .i64 b_p2, .int .i64 limit] [.res (OwnL eu8 5 A1 c1 data)] (fun v_ F_ => v_ = .tuple #[] ∧ F_ = [.res (OwnL eu8 5 A1 c1 r)]) := c_slices_pdqsortOrdered_uint8_n _ h
noncomputable def m_slices_Sort__uint8_uint8 (x_p0 : (List Int)) : Option (List Int) :=
  bnd (m_math_bits_Len (IntKind.wrap .u64 (x_p0.length : Int))) fun r1 => bnd (m_slices_pdqsortOrdered_uint8 x_p0 0 (x_p0.length : Int) r1) fun r2 => bnd (chkLen x_p0.length r2) fun l1 => some r2
theorem c_slices_Sort__uint8_uint8 {x_p0 : (List Int)} {A1 : Option Addr} {c1 : Nat} {r : (List Int)} (h : m_slices_Sort__uint8_uint8 x_p0 = some r) :
    Fun Try.prog 76 [.slice A1 x_p0.length c1] [.res (OwnL eu8 5 A1 c1 x_p0)] (fun v_ F_ => v_ = .tuple #[] ∧ F_ = [.res (OwnL eu8 5 A1 c1 r)]) := by
 unfold m_slices_Sort__uint8_uint8 at h
 refine Fun.intro Try.func76 rfl rfl rfl fun w R => ?_;refine .ab [0,2] rfl ?_;refine .region ?_;refine .n 4 rfl ?_;obtain ⟨r1, hr1, h⟩ := bnd_e h;refine .callV (c_math_bits_Len hr1) ent84 rfl rfl rfl rfl trivial ?_;obtain ⟨r2, hr2, h⟩ := bnd_e h;refine .call (c_slices_pdqsortOrdered_uint8 hr2) ent83 rfl rfl rfl (fun _ w => w) ?_;rintro _ _ ⟨rfl, rfl⟩;refine .nm 1 rfl ?_
 obtain ⟨l1, hl1, h⟩ := bnd_e h;refine .ss 0 (sl_chk hl1) ?_;refine .ss 5 (sl_chk hl1) ?_;refine .done ?_;cases h;exact .finN' Try.results76 .nil rfl _ ⟨rfl, rfl⟩ (fun _ w => w)
end Go.Proofs.Ythdpagcklakahaa
end
section
namespace Go.Proofs.Ythdpagcklakahaa
open Go
set_option linter.unusedSimpArgs false
set_option linter.unusedVariables false
@[simp] theorem bnd_some {α β : Type} (a : α) (f : α → Option β) : bnd (some a) f = f a := rfl
@[simp] theorem bnd_none {α β : Type} (f : α → Option β) : bnd none f = none := rfl
@[simp] theorem retOr_inl {ρ σ : Type} (r : ρ) (f : σ → Option ρ) : retOr (.inl r) f = some r := rfl
@[simp] theorem retOr_inr {ρ σ : Type} (s : σ) (f : σ → Option ρ) : retOr (.inr s) f = f s := rfl
theorem wrap_i64 {x : Int} (h1 : -9223372036854775808 ≤ x) (h2 : x ≤ 9223372036854775807) : IntKind.wrap .i64 x = x := by
  unfold IntKind.wrap
  simp only [IntKind.bits, IntKind.signed]
  simp
  omega
theorem wrap_u64 {x : Int} (h1 : 0 ≤ x) (h2 : x ≤ 18446744073709551615) : IntKind.wrap .u64 x = x := by
  unfold IntKind.wrap
  simp only [IntKind.bits, IntKind.signed]
  simp
  omega
theorem wrap_u8 {x : Int} (h1 : 0 ≤ x) (h2 : x ≤ 255) : IntKind.wrap .u8 x = x := by
  unfold IntKind.wrap
  simp only [IntKind.bits, IntKind.signed]
  simp
  omega
theorem wrap_u8_mod (x : Int) : IntKind.wrap .u8 x = x % 256 := by unfold IntKind.wrap; simp [IntKind.bits, IntKind.signed]
theorem wrap_succ {i n : Nat} (h : i < n) (hn : n ≤ 140737488355328) : IntKind.wrap .i64 ((i : Int) + 1) = ((i + 1 : Nat) : Int) := by
  rw [wrap_i64 (by omega) (by omega)]
  omega
@[simp] theorem elt_nat {α : Type} (xs : List α) (i : Nat) : elt xs (i : Int) = xs[i]? := by simp [elt]
theorem elt_lt {α : Type} {xs : List α} {i : Nat} (h : i < xs.length) : elt xs (i : Int) = some xs[i] := by simp [h]
theorem app_eq {α : Type} {b : Nat} {xs ys : List α} (h : (xs.length + ys.length) * b ≤ 140737488355328) (h2 : xs.length + ys.length ≤ 9223372036854775807) : app b xs ys = some (xs ++ ys) := by
  simp [app, h, h2]
theorem mget_mset {α β : Type} [DecidableEq α] {K : KeyC α} (hK : ∀ a b, K.eq a b = true ↔ a = b) (m : List (α × β)) (k k' : α) (v : β) : mget K.eq (mset K.eq m k v) k' = if k' = k then some v else mget K.eq m k' := by
  have hf : ∀ a b, a ≠ b → K.eq a b = false := fun a b h => by
    cases hc : K.eq a b
    · rfl
    · exact absurd ((hK a b).1 hc) h
  have ht : ∀ a, K.eq a a = true := fun a => (hK a a).2 rfl
  induction m with
  | nil =>
    by_cases h : k' = k
    · subst h; simp [mset, mget, ht]
    · simp [mset, mget, hf _ _ h, h]
  | cons x r ih =>
    by_cases hx : k = x.1
    · subst hx
      by_cases h : k' = x.1
      · subst h; simp [mset, mget, ht]
      · simp [mset, mget, ht, hf _ _ h, h]
    · by_cases h : k' = x.1
      · subst h
        have : x.1 ≠ k := fun e => hx e.symm
        simp [mset, mget, hf _ _ hx, ht, this]
      · simp [mset, mget, hf _ _ hx, hf _ _ h, ih]
theorem loop_done {σ τ : Type} {m : σ → Option (Step σ τ)} {s : σ} {t : τ} (h : m s = some (.done t)) : loopM m s = some t :=
  loopM_some.2 ⟨1, by simp [iter, h]⟩
theorem loop_next {σ τ : Type} {m : σ → Option (Step σ τ)} {s s' : σ} {t : τ} (h : m s = some (.next s')) (k : loopM m s' = some t) : loopM m s = some t := by
  obtain ⟨n, hn⟩ := loopM_some.1 k
  exact loopM_some.2 ⟨n + 1, by simp [iter, h, hn]⟩
theorem loop_run {σ τ : Type} {m : σ → Option (Step σ τ)} (S : Nat → σ) (n : Nat) {t : τ} (hs : ∀ i, i < n → m (S i) = some (.next (S (i + 1)))) (hd : m (S n) = some (.done t)) : loopM m (S 0) = some t := by
  have : ∀ k i, i + k = n → loopM m (S i) = some t := by
    intro k
    induction k with
    | zero => intro i hi; obtain rfl : i = n := by omega
              exact loop_done hd
    | succ k ih => intro i hi; exact loop_next (hs i (by omega)) (ih (i + 1) (by omega))
  exact this n 0 (by omega)
theorem loop_find {σ τ : Type} {m : σ → Option (Step σ τ)} (S : Nat → σ) (n : Nat) (f : Nat → Option τ) {t : τ} (hs : ∀ i, i < n → m (S i) = some (match f i with | some u => .done u | none => .next (S (i + 1)))) (hd : m (S n) = some (.done t)) :
    loopM m (S 0) = some (((List.range n).findSome? f).getD t) := by
  have : ∀ k i, i + k = n → loopM m (S i) = some (((List.range' i k).findSome? f).getD t) := by
    intro k
    induction k with
    | zero => intro i hi; obtain rfl : i = n := by omega
              exact loop_done hd
    | succ k ih =>
      intro i hi
      have h1 := hs i (by omega)
      rw [List.range'_succ, List.findSome?_cons]
      cases hf : f i with
      | some u => rw [hf] at h1; simpa using loop_done h1
      | none => rw [hf] at h1; exact loop_next h1 (ih (i + 1) (by omega))
  simpa [List.range_eq_range'] using this n 0 (by omega)
theorem loop_any {σ τ : Type} {m : σ → Option (Step σ τ)} (S : Nat → σ) (n : Nat) (p : Nat → Bool) {u t : τ} (hs : ∀ i, i < n → m (S i) = some (bif p i then .done u else .next (S (i + 1)))) (hd : m (S n) = some (.done t)) :
    loopM m (S 0) = some (bif (List.range n).any p then u else t) := by
  rw [loop_find S n (fun i => bif p i then some u else none) (t := t) (fun i hi => ?_) hd]
  · congr 1
    generalize List.range n = l
    induction l with
    | nil => rfl
    | cons x r ih =>
      rw [List.findSome?_cons, List.any_cons]
      cases p x
      · simpa using ih
      · rfl
  · rw [hs i hi]
    cases p i <;> rfl
end Go.Proofs.Ythdpagcklakahaa
end
section
namespace Go.Proofs.Ythdpagcklakahaa
open Go
set_option linter.unusedSimpArgs false
set_option linter.unusedVariables false
theorem find_from {α τ : Type} (p : α → Bool) (g : Nat → α → τ) : ∀ (l : List α) (k : Nat) (f : Nat → Option τ), (∀ i (h : i < l.length), f (k + i) = if p l[i] then some (g (k + i) l[i]) else none) →
    (∃ i, ∃ h : i < l.length, p l[i] = true ∧ l.find? p = some l[i] ∧ (List.range' k l.length).findSome? f = some (g (k + i) l[i])) ∨ (l.find? p = none ∧ (∀ x ∈ l, p x = false) ∧ (List.range' k l.length).findSome? f = none)
  | [], k, f, _ => .inr ⟨rfl, by simp, rfl⟩
  | x :: r, k, f, hf => by
    have h0 := hf 0 (by simp)
    simp only [Nat.add_zero, List.getElem_cons_zero] at h0
    cases hp : p x
    · have ih := find_from p g r (k + 1) f (fun i h => by
        have := hf (i + 1) (by simpa using h)
        simpa [Nat.add_assoc, Nat.add_comm 1 i] using this)
      simp only [hp, Bool.false_eq_true, if_false] at h0
      rcases ih with ⟨i, h, h1, h2, h3⟩ | ⟨h1, h2, h3⟩
      · refine .inl ⟨i + 1, by simpa using h, by simpa using h1, by simp [List.find?_cons, hp, h2], ?_⟩
        simp only [List.length_cons, List.range'_succ, List.findSome?_cons, h0, h3, List.getElem_cons_succ]
        congr 2
        omega
      · exact .inr ⟨by simp [List.find?_cons, hp, h1], by simpa [hp] using h2, by simp [List.range'_succ, List.findSome?_cons, h0, h3]⟩
    · refine .inl ⟨0, by simp, by simpa using hp, by simp [List.find?_cons, hp], ?_⟩
      simp only [hp, if_true] at h0
      simp [List.range'_succ, List.findSome?_cons, h0]
theorem find_range {α τ : Type} (l : List α) (p : α → Bool) (g : Nat → α → τ) (f : Nat → Option τ) (hf : ∀ i (h : i < l.length), f i = if p l[i] then some (g i l[i]) else none) :
    (∃ i, ∃ h : i < l.length, p l[i] = true ∧ l.find? p = some l[i] ∧ (List.range l.length).findSome? f = some (g i l[i])) ∨ (l.find? p = none ∧ (∀ x ∈ l, p x = false) ∧ (List.range l.length).findSome? f = none) := by
  have := find_from p g l 0 f (by simpa using hf)
  simpa [List.range_eq_range'] using this
theorem take_succ_get {α : Type} {l : List α} {i : Nat} (h : i < l.length) : l.take (i + 1) = l.take i ++ [l[i]] := by
  rw [List.take_add_one, List.getElem?_eq_getElem h]
  rfl
theorem loop_inv {σ τ : Type} {m : σ → Option (Step σ τ)} (I : σ → Prop) (μ : σ → Nat) (Q : τ → Prop) (h : ∀ s, I s → (∃ s', m s = some (.next s') ∧ I s' ∧ μ s' < μ s) ∨ ∃ t, m s = some (.done t) ∧ Q t) : ∀ s, I s → ∃ t, loopM m s = some t ∧ Q t := by
  have : ∀ n s, μ s ≤ n → I s → ∃ t, loopM m s = some t ∧ Q t := by
    intro n
    induction n with
    | zero =>
      intro s hs hI
      rcases h s hI with ⟨s', _, _, hl⟩ | ⟨t, ht, hq⟩
      · omega
      · exact ⟨t, loop_done ht, hq⟩
    | succ n ih =>
      intro s hs hI
      rcases h s hI with ⟨s', hm, hI', hl⟩ | ⟨t, ht, hq⟩
      · obtain ⟨t, h1, h2⟩ := ih s' (by omega) hI'
        exact ⟨t, loop_next hm h1, h2⟩
      · exact ⟨t, loop_done ht, hq⟩
  exact fun s hI => this (μ s) s (Nat.le_refl _) hI
end Go.Proofs.Ythdpagcklakahaa
end
section
namespace Go.Proofs.Ythdpagcklakahaa
open Go
set_option linter.unusedSimpArgs false
set_option linter.unusedVariables false
theorem bnd_loop {σ τ ρ : Type} {m : σ → Option (Step σ τ)} {s0 : σ} {k : τ → Option ρ} {r : Option ρ} (S : Nat → σ) (n : Nat) (t : τ) (h0 : s0 = S 0) (hs : ∀ i, i < n → m (S i) = some (.next (S (i + 1)))) (hd : m (S n) = some (.done t)) (hk : k t = r) :
    bnd (loopM m s0) k = r := by
  subst h0
  rw [loop_run S n hs hd]
  exact hk
theorem bnd_loop_any {σ τ ρ : Type} {m : σ → Option (Step σ τ)} {s0 : σ} {k : τ → Option ρ} {r : Option ρ} (S : Nat → σ) (n : Nat) (p : Nat → Bool) (u t : τ) (h0 : s0 = S 0) (hs : ∀ i, i < n → m (S i) = some (bif p i then .done u else .next (S (i + 1)))) (hd : m (S n) = some (.done t))
    (hk : k (bif (List.range n).any p then u else t) = r) : bnd (loopM m s0) k = r := by
  subst h0
  rw [loop_any S n p hs hd]
  exact hk
theorem bnd_loop_inv {σ τ ρ : Type} {m : σ → Option (Step σ τ)} {s0 : σ} {k : τ → Option ρ} {R : ρ → Prop} (I : σ → Prop) (μ : σ → Nat) (Q : τ → Prop) (h0 : I s0) (h : ∀ s, I s → (∃ s', m s = some (.next s') ∧ I s' ∧ μ s' < μ s) ∨ ∃ t, m s = some (.done t) ∧ Q t)
    (hk : ∀ t, Q t → ∃ r, k t = some r ∧ R r) : ∃ r, bnd (loopM m s0) k = some r ∧ R r := by
  obtain ⟨t, h1, h2⟩ := loop_inv I μ Q h s0 h0
  rw [h1]
  exact hk t h2
theorem bnd_eq {α β : Type} {x : Option α} {f : α → Option β} {a : α} {r : Option β} (h : x = some a) (k : f a = r) : bnd x f = r := by rw [h]; exact k
theorem bnd_ex {α β : Type} {x : Option α} {f : α → Option β} {P : α → Prop} {R : β → Prop} (h : ∃ a, x = some a ∧ P a) (k : ∀ a, P a → ∃ r, f a = some r ∧ R r) : ∃ r, bnd x f = some r ∧ R r := by
  obtain ⟨a, h1, h2⟩ := h
  rw [h1]
  exact k a h2
def iz (l : List Nat) : List Int := l.map fun (n : Nat) => (n : Int)
def lt256 (l : List Nat) : Prop := ∀ x ∈ l, x < 256
def bs (s : ByteArray) : List Nat := s.data.toList.map (·.toNat)
def sb (l : List Nat) : ByteArray := ⟨(l.map UInt8.ofNat).toArray⟩
@[simp] theorem iz_len (l : List Nat) : (iz l).length = l.length := by simp [iz]
@[simp] theorem iz_nil : iz [] = [] := rfl
@[simp] theorem iz_cons (x : Nat) (l : List Nat) : iz (x :: l) = (x : Int) :: iz l := rfl
theorem iz_app (l m : List Nat) : iz l ++ iz m = iz (l ++ m) := by simp [iz]
@[simp] theorem bs_len (s : ByteArray) : (bs s).length = s.size := by simp [bs]
@[simp] theorem sb_size (l : List Nat) : (sb l).size = l.length := by
  show (l.map UInt8.ofNat).toArray.size = _
  simp
theorem lt256.app {l m : List Nat} (h : lt256 l) (k : lt256 m) : lt256 (l ++ m) := fun x hx => by
  rcases List.mem_append.1 hx with hx | hx
  · exact h x hx
  · exact k x hx
theorem lt256.nil : lt256 [] := fun x hx => by cases hx
theorem lt256.cons {x : Nat} {l : List Nat} (h : x < 256) (k : lt256 l) : lt256 (x :: l) := fun y hy => by
  rcases List.mem_cons.1 hy with rfl | hy
  · exact h
  · exact k y hy
theorem lt256.sub {l m : List Nat} (h : lt256 l) (k : ∀ x ∈ m, x ∈ l) : lt256 m := fun x hx => h x (k x hx)
theorem lt256.take {l : List Nat} (h : lt256 l) (n : Nat) : lt256 (l.take n) := h.sub fun _ hx => List.mem_of_mem_take hx
theorem lt256.drop {l : List Nat} (h : lt256 l) (n : Nat) : lt256 (l.drop n) := h.sub fun _ hx => List.mem_of_mem_drop hx
theorem lt256.get {l : List Nat} (h : lt256 l) {i : Nat} (hi : i < l.length) : l[i] < 256 := h _ (List.getElem_mem hi)
theorem app_iz {l m : List Nat} {b : Nat} (h : (l.length + m.length) * b ≤ 140737488355328) (h2 : l.length + m.length ≤ 9223372036854775807) : app b (iz l) (iz m) = some (iz (l ++ m)) := by
  rw [app_eq (by simpa using h) (by simpa using h2), iz_app]
theorem cnd_t {α : Type} {c : Bool} (h : c = true) (x y : α) : (bif c then x else y) = x := by rw [h]; rfl
theorem cnd_f {α : Type} {c : Bool} (h : c = false) (x y : α) : (bif c then x else y) = y := by rw [h]; rfl
end Go.Proofs.Ythdpagcklakahaa
end
section
namespace Go.Proofs.Ythdpagcklakahaa
open Go
set_option linter.unusedSimpArgs false
set_option linter.unusedVariables false
theorem ofNat_toNat {w a : Nat} (h : a < 2 ^ w) : (BitVec.ofInt w (a : Int)).toNat = a := by
  rw [BitVec.toNat_ofInt]
  have : ((a : Int) % ((2 ^ w : Nat) : Int)) = ((a % 2 ^ w : Nat) : Int) := by omega
  rw [this, Nat.mod_eq_of_lt h]
  rfl
theorem wrap_u8n {n : Nat} (h : n < 256) : IntKind.wrap .u8 (n : Int) = (n : Int) := wrap_u8 (by omega) (by omega)
theorem wrap_i64n {n : Nat} (h : n < 9223372036854775808) : IntKind.wrap .i64 (n : Int) = (n : Int) := wrap_i64 (by omega) (by omega)
theorem wrap_u64n {n : Nat} (h : n < 18446744073709551616) : IntKind.wrap .u64 (n : Int) = (n : Int) := wrap_u64 (by omega) (by omega)
theorem wrap_u8_modn (n : Nat) : IntKind.wrap .u8 (n : Int) = ((n % 256 : Nat) : Int) := by rw [wrap_u8_mod]; omega
theorem iOr_u8 {a b : Nat} (ha : a < 256) (hb : b < 256) : iOr .u8 (a : Int) (b : Int) = ((a ||| b : Nat) : Int) := by
  unfold iOr
  rw [BitVec.toNat_or, ofNat_toNat (by exact ha), ofNat_toNat (by exact hb), wrap_u8n (Nat.or_lt_two_pow (n := 8) ha hb)]
theorem iOr_i64 {a b : Nat} (ha : a < 4611686018427387904) (hb : b < 4611686018427387904) : iOr .i64 (a : Int) (b : Int) = ((a ||| b : Nat) : Int) := by
  unfold iOr
  have := Nat.or_lt_two_pow (x := a) (y := b) (n := 62) ha hb
  rw [BitVec.toNat_or, ofNat_toNat (by show a < 2 ^ 64; omega), ofNat_toNat (by show b < 2 ^ 64; omega), wrap_i64n (by omega)]
theorem iAnd_u8 {a b : Nat} (ha : a < 256) (hb : b < 256) : iAnd .u8 (a : Int) (b : Int) = ((a &&& b : Nat) : Int) := by
  unfold iAnd
  rw [BitVec.toNat_and, ofNat_toNat (by exact ha), ofNat_toNat (by exact hb), wrap_u8n (Nat.and_lt_two_pow (n := 8) a hb)]
theorem iShl_i64 {a s : Nat} (hs : s ≤ 64) (h : a * 2 ^ s < 9223372036854775808) : iShl .i64 (a : Int) (s : Int) = ((a * 2 ^ s : Nat) : Int) := by
  unfold iShl
  have : min (s : Int).toNat (IntKind.bits .i64) = s := by show min (s : Int).toNat 64 = s; omega
  rw [this]
  have e : ((a : Int) * 2 ^ s) = ((a * 2 ^ s : Nat) : Int) := by simp
  rw [e, wrap_i64n h]
theorem iShr_n {k : IntKind} {a s : Nat} (hs : s ≤ k.bits) : iShr k (a : Int) (s : Int) = ((a / 2 ^ s : Nat) : Int) := by
  unfold iShr
  have : min (s : Int).toNat k.bits = s := by omega
  rw [this, Int.fdiv_eq_ediv_of_nonneg _ (by exact Int.le_of_lt (Int.pow_pos (by omega)))]
  simp
theorem or_add {a b s : Nat} (h : a < 2 ^ s) : a ||| b * 2 ^ s = a + b * 2 ^ s := by
  rw [Nat.or_comm, Nat.add_comm, Nat.mul_comm b]
  exact (Nat.two_pow_add_eq_or_of_lt h b).symm
theorem tdiv_n (a b : Nat) : ((a : Nat) : Int).tdiv (b : Int) = ((a / b : Nat) : Int) := by
  rw [Int.tdiv_eq_ediv_of_nonneg (by omega)]
  exact (Int.natCast_ediv a b).symm
def rep (L N : Nat) : List Nat := (List.range L).map fun j => N / 256 ^ j % 256
@[simp] theorem rep_len (L N : Nat) : (rep L N).length = L := by simp [rep]
end Go.Proofs.Ythdpagcklakahaa
end
section
namespace Go.Proofs.Ythdpagcklakahaa
open Go
set_option linter.unusedSimpArgs false
set_option linter.unusedVariables false
abbrev lt8 : Int → Int → Bool := Go.Sort.ltInt
open Go.Sort (swp insInner insOuter)
theorem elt_arr {d : Array Int} {i : Nat} (h : i < d.size) : elt d.toList (i : Int) = some d[i]! := by
  rw [elt_lt (by simpa using h)]
  simp [h]
theorem setE_arr {d : Array Int} {i : Nat} (h : i < d.size) (v : Int) : setE d.toList (i : Int) v = some (d.setIfInBounds i v).toList := by
  unfold setE
  rw [if_pos (by simp; omega)]
  simp
theorem swp_size (d : Array Int) (i j : Nat) : (swp d i j).size = d.size := by simp [swp]
theorem swp_eq {d : Array Int} {i j : Nat} (hi : i < d.size) (hj : j < d.size) {β : Type} (k : List Int → Option β) : (bnd (setE d.toList (i : Int) d[j]!) fun l1 => bnd (elt l1 (j : Int)) fun _ => bnd (setE l1 (j : Int) d[i]!) k) = k (swp d i j).toList := by
  rw [setE_arr hi, bnd_some, elt_arr (by simpa using hj), bnd_some, setE_arr (by simpa using hj), bnd_some]
  rfl
theorem less_eq (x y : Int) : m_cmp_Less_uint8 x y = some (lt8 x y) := by
  unfold m_cmp_Less_uint8 m_cmp_isNaN_uint8
  rw [bnd_some, cnd_f (by simp), bnd_some]
  rfl
theorem wr {n : Nat} (h : n ≤ 4611686018427387904) : IntKind.wrap .i64 (n : Int) = (n : Int) := wrap_i64 (by omega) (by omega)
theorem wrS {n : Nat} (h : n ≤ 4611686018427387904) : IntKind.wrap .i64 ((n : Int) + 1) = ((n + 1 : Nat) : Int) := by rw [wrap_i64 (by omega) (by omega)]; rfl
theorem wrP {n : Nat} (h : n ≤ 4611686018427387904) : IntKind.wrap .i64 (((n + 1 : Nat) : Int) - 1) = (n : Int) := by rw [wrap_i64 (by omega) (by omega)]; omega
noncomputable def insStep (a_p1 : Int) : List Int × Int → Option (Step (List Int × Int) (List Int)) := (fun (s2 : List Int × Int) => bnd ((bif decide (s2.2 > a_p1) then (bnd (elt s2.1 s2.2) fun x1 => bnd (elt s2.1 (IntKind.wrap .i64 (s2.2 - 1))) fun x2 => bnd (m_cmp_Less_uint8 x1 x2) fun r1 => some r1) else (some false) : Option Bool)) fun o3 => bif o3 then (bnd (elt s2.1 (IntKind.wrap .i64 (s2.2 - 1))) fun x3 => bnd (elt s2.1 (IntKind.wrap .i64 (s2.2 - 1))) fun x4 => bnd (elt s2.1 s2.2) fun x5 => bnd (elt s2.1 s2.2) fun x6 => bnd (setE s2.1 s2.2 x4) fun l1 => bnd (elt l1 (IntKind.wrap .i64 (s2.2 - 1))) fun x7 => bnd (setE l1 (IntKind.wrap .i64 (s2.2 - 1)) x5) fun l2 => some (.next (l2, IntKind.wrap .i64 (s2.2 - 1)))) else (some (.done s2.1)))
theorem ins_inner (a : Nat) : ∀ (j : Nat) (d : Array Int), j < d.size → d.size ≤ 100000 → loopM (insStep (a : Int)) (d.toList, (j : Int)) = some (insInner lt8 a j d).toList
  | 0, d, h, hs => by
    refine loop_done ?_
    unfold insStep
    simp only
    rw [cnd_f (by simp), bnd_some]
    rfl
  | j + 1, d, h, hs => by
    have hst : insStep (a : Int) (d.toList, ((j + 1 : Nat) : Int)) = some (if (j + 1 > a && lt8 d[j + 1]! d[j]!) then .next ((swp d (j + 1) j).toList, (j : Int)) else .done d.toList) := by
      unfold insStep
      simp only
      rw [wrP (by omega)]
      by_cases ha : j + 1 > a
      · rw [cnd_t (by simp; omega), elt_arr h, bnd_some, elt_arr (show j < d.size by omega), bnd_some, less_eq, bnd_some, bnd_some]
        cases hl : lt8 d[j + 1]! d[j]!
        · rw [cond_false, if_neg (by simp)]
        · rw [cond_true, if_pos (by simp [ha]), bnd_some, bnd_some, bnd_some, bnd_some, swp_eq h (by omega)]
      · rw [cnd_f (by simp; omega), bnd_some, cond_false, if_neg (by simp; omega)]
    unfold insInner
    by_cases hc : (j + 1 > a && lt8 d[j + 1]! d[j]!) = true
    · rw [if_pos hc] at hst ⊢
      exact loop_next hst (ins_inner a j _ (by rw [swp_size]; omega) (by rw [swp_size]; omega))
    · rw [if_neg hc] at hst ⊢
      exact loop_done hst
theorem insInner_size (a : Nat) : ∀ (j : Nat) (d : Array Int), (insInner lt8 a j d).size = d.size
  | 0, d => rfl
  | j + 1, d => by
    unfold insInner
    split
    · rw [insInner_size a j, swp_size]
    · rfl
noncomputable def insOStep (a_p1 b_p2 : Int) : List Int × Int → Option (Step (List Int × Int) (List Int)) := (fun (s1 : List Int × Int) => bif decide (s1.2 < b_p2) then (bnd (loopM (τ := List Int) (fun (s2 : List Int × Int) => bnd ((bif decide (s2.2 > a_p1) then (bnd (elt s2.1 s2.2) fun x1 => bnd (elt s2.1 (IntKind.wrap .i64 (s2.2 - 1))) fun x2 => bnd (m_cmp_Less_uint8 x1 x2) fun r1 => some r1) else (some false) : Option Bool)) fun o3 => bif o3 then (bnd (elt s2.1 (IntKind.wrap .i64 (s2.2 - 1))) fun x3 => bnd (elt s2.1 (IntKind.wrap .i64 (s2.2 - 1))) fun x4 => bnd (elt s2.1 s2.2) fun x5 => bnd (elt s2.1 s2.2) fun x6 => bnd (setE s2.1 s2.2 x4) fun l1 => bnd (elt l1 (IntKind.wrap .i64 (s2.2 - 1))) fun x7 => bnd (setE l1 (IntKind.wrap .i64 (s2.2 - 1)) x5) fun l2 => some (.next (l2, IntKind.wrap .i64 (s2.2 - 1)))) else (some (.done s2.1))) (s1.1, s1.2)) fun o2 => some (.next (o2, IntKind.wrap .i64 (s1.2 + 1)))) else (some (.done s1.1)))
theorem ins_outer (a b : Nat) : ∀ (k i : Nat) (d : Array Int), b - i = k → b ≤ d.size → d.size ≤ 100000 → loopM (insOStep (a : Int) (b : Int)) (d.toList, (i : Int)) = some (insOuter lt8 a b i d).toList
  | 0, i, d, hk, hb, hs => by
    refine loop_done ?_
    unfold insOStep insOuter
    simp only
    rw [cnd_f (by simp; omega), if_neg (by omega)]
  | k + 1, i, d, hk, hb, hs => by
    have hst : insOStep (a : Int) (b : Int) (d.toList, (i : Int)) = some (.next ((insInner lt8 a i d).toList, ((i + 1 : Nat) : Int))) := by
      unfold insOStep
      simp only
      rw [cnd_t (by simp; omega)]
      have := ins_inner a i d (by omega) hs
      unfold insStep at this
      rw [this, bnd_some, wrS (by omega)]
    unfold insOuter
    rw [if_pos (by omega)]
    exact loop_next hst (ins_outer a b k (i + 1) _ (by omega) (by rw [insInner_size]; omega) (by rw [insInner_size]; omega))
theorem insertion_eq {d : Array Int} {a b : Nat} (hb : b ≤ d.size) (ha : a ≤ b) (hs : d.size ≤ 100000) : m_slices_insertionSortOrdered_uint8 d.toList (a : Int) (b : Int) = some (Go.Sort.insertionSort lt8 d a b).toList := by
  unfold m_slices_insertionSortOrdered_uint8
  rw [wrS (by omega)]
  have := ins_outer a b _ (a + 1) d rfl hb hs
  unfold insOStep at this
  rw [this]
  rfl
noncomputable def siftStep (hi_p2 first : Int) : List Int × Int → Option (Step (List Int × Int) ((List Int) ⊕ List Int)) := (fun (s1 : List Int × Int) => bif decide ((IntKind.wrap .i64 ((IntKind.wrap .i64 (2 * s1.2)) + 1)) ≥ hi_p2) then (some (.done (.inr s1.1))) else (bnd ((bnd ((bif decide ((IntKind.wrap .i64 ((IntKind.wrap .i64 ((IntKind.wrap .i64 (2 * s1.2)) + 1)) + 1)) < hi_p2) then (bnd (elt s1.1 (IntKind.wrap .i64 (first + (IntKind.wrap .i64 ((IntKind.wrap .i64 (2 * s1.2)) + 1))))) fun x1 => bnd (elt s1.1 (IntKind.wrap .i64 ((IntKind.wrap .i64 (first + (IntKind.wrap .i64 ((IntKind.wrap .i64 (2 * s1.2)) + 1)))) + 1))) fun x2 => bnd (m_cmp_Less_uint8 x1 x2) fun r1 => some r1) else (some false) : Option Bool)) fun o4 => bif o4 then (some (IntKind.wrap .i64 ((IntKind.wrap .i64 ((IntKind.wrap .i64 (2 * s1.2)) + 1)) + 1))) else (some (IntKind.wrap .i64 ((IntKind.wrap .i64 (2 * s1.2)) + 1))) : Option Int)) fun o3 => bnd (elt s1.1 (IntKind.wrap .i64 (first + s1.2))) fun x3 => bnd (elt s1.1 (IntKind.wrap .i64 (first + o3))) fun x4 => bnd (m_cmp_Less_uint8 x3 x4) fun r2 => bif !r2 then (some (.done (.inl s1.1))) else (bnd (elt s1.1 (IntKind.wrap .i64 (first + o3))) fun x5 => bnd (elt s1.1 (IntKind.wrap .i64 (first + s1.2))) fun x6 => bnd (elt s1.1 (IntKind.wrap .i64 (first + s1.2))) fun x7 => bnd (setE s1.1 (IntKind.wrap .i64 (first + s1.2)) x5) fun l1 => bnd (elt l1 (IntKind.wrap .i64 (first + o3))) fun x8 => bnd (setE l1 (IntKind.wrap .i64 (first + o3)) x6) fun l2 => some (.next (l2, o3)))))
theorem sift_eq (hi first : Nat) : ∀ (k root : Nat) (d : Array Int), hi - root ≤ k → first + hi ≤ d.size → d.size ≤ 100000 → root ≤ 100000 → ∃ o, loopM (siftStep (hi : Int) (first : Int)) (d.toList, (root : Int)) = some o ∧ (retOr o fun o2 => some o2) = some (Go.Sort.siftDown lt8 hi first root d).toList
  | k, root, d, hk, hb, hs, hr => by
    by_cases h1 : 2 * root + 1 ≥ hi
    · refine ⟨.inr d.toList, loop_done ?_, ?_⟩
      · unfold siftStep
        simp only
        rw [cnd_t (by rw [wrap_i64 (x := 2 * (root : Int)) (by omega) (by omega), wrap_i64 (by omega) (by omega)]; simp; omega)]
      · unfold Go.Sort.siftDown
        rw [dif_pos h1]
        rfl
    · cases k with
      | zero => omega
      | succ k =>
        have w1 : IntKind.wrap .i64 (IntKind.wrap .i64 (2 * (root : Int)) + 1) = ((2 * root + 1 : Nat) : Int) := by
          rw [wrap_i64 (x := 2 * (root : Int)) (by omega) (by omega), wrap_i64 (by omega) (by omega)]; omega
        have w2 : ∀ q : Nat, q ≤ 300000 → IntKind.wrap .i64 ((first : Int) + (q : Int)) = ((first + q : Nat) : Int) := fun q hq => by rw [wrap_i64 (by omega) (by omega)]; omega
        have hst : ∀ c : Nat, c = (if (2 * root + 1 + 1 < hi && lt8 d[first + (2 * root + 1)]! d[first + (2 * root + 1) + 1]!) = true then 2 * root + 2 else 2 * root + 1) → c < hi → siftStep (hi : Int) (first : Int) (d.toList, (root : Int)) = some (if !lt8 d[first + root]! d[first + c]! then .done (.inl d.toList) else .next ((swp d (first + root) (first + c)).toList, (c : Int))) := by
          intro c hc hch
          unfold siftStep
          simp only
          rw [w1, cnd_f (by simp; omega), wrS (by omega), w2 _ (by omega), wrS (by omega), w2 root (by omega)]
          have ho : (bif decide (((2 * root + 1 + 1 : Nat) : Int) < (hi : Int)) then (bnd (elt d.toList ((first + (2 * root + 1) : Nat) : Int)) fun x1 => bnd (elt d.toList ((first + (2 * root + 1) + 1 : Nat) : Int)) fun x2 => bnd (m_cmp_Less_uint8 x1 x2) fun r1 => some r1) else (some false) : Option Bool) = some (2 * root + 1 + 1 < hi && lt8 d[first + (2 * root + 1)]! d[first + (2 * root + 1) + 1]!) := by
            by_cases h2 : 2 * root + 1 + 1 < hi
            · rw [cnd_t (by simp; omega), elt_arr (by omega), bnd_some, elt_arr (by omega), bnd_some, less_eq, bnd_some]
              simp [h2]
            · rw [cnd_f (by simp; omega)]
              simp [h2]
          have ho2 : (bnd (bif decide (((2 * root + 1 + 1 : Nat) : Int) < (hi : Int)) then (bnd (elt d.toList ((first + (2 * root + 1) : Nat) : Int)) fun x1 => bnd (elt d.toList ((first + (2 * root + 1) + 1 : Nat) : Int)) fun x2 => bnd (m_cmp_Less_uint8 x1 x2) fun r1 => some r1) else (some false) : Option Bool) fun o4 => bif o4 then (some ((2 * root + 1 + 1 : Nat) : Int)) else (some ((2 * root + 1 : Nat) : Int))) = some (c : Int) := by
            rw [ho, bnd_some, hc]
            cases (decide (2 * root + 1 + 1 < hi) && lt8 d[first + (2 * root + 1)]! d[first + (2 * root + 1) + 1]!) <;> rfl
          rw [ho2, bnd_some, w2 c (by omega), elt_arr (by omega), bnd_some, elt_arr (by omega), bnd_some, less_eq, bnd_some]
          cases hl : lt8 d[first + root]! d[first + c]!
          · rfl
          · rw [cnd_f (by rfl), bnd_some, bnd_some, bnd_some, swp_eq (by omega) (by omega)]
            rfl
        have go : ∀ c : Nat, c = (if (2 * root + 1 + 1 < hi && lt8 d[first + (2 * root + 1)]! d[first + (2 * root + 1) + 1]!) = true then 2 * root + 2 else 2 * root + 1) → c < hi → root < c → ∃ o, loopM (siftStep (hi : Int) (first : Int)) (d.toList, (root : Int)) = some o ∧ (retOr o fun o2 => some o2) = some (if !lt8 d[first + root]! d[first + c]! then d else Go.Sort.siftDown lt8 hi first c (swp d (first + root) (first + c))).toList := by
          intro c hc hch hrc
          have h3 := hst c hc hch
          by_cases h4 : (!lt8 d[first + root]! d[first + c]!) = true
          · rw [if_pos h4] at h3 ⊢
            exact ⟨_, loop_done h3, rfl⟩
          · rw [if_neg h4] at h3 ⊢
            obtain ⟨o, h5, h6⟩ := sift_eq hi first k c (swp d (first + root) (first + c)) (by omega) (by rw [swp_size]; omega) (by rw [swp_size]; omega) (by omega)
            exact ⟨o, loop_next h3 h5, h6⟩
        unfold Go.Sort.siftDown
        rw [dif_neg h1]
        by_cases h2 : (decide (2 * root + 1 + 1 < hi) && lt8 d[first + (2 * root + 1)]! d[first + (2 * root + 1) + 1]!) = true
        · have h3 : 2 * root + 1 + 1 < hi := by simp at h2; exact h2.1
          rw [if_pos h2, dif_pos (show 2 * root + 2 < hi by omega)]
          obtain ⟨o, h5, h6⟩ := go (2 * root + 2) (by rw [if_pos h2]) (by omega) (by omega)
          refine ⟨o, h5, h6.trans ?_⟩
          congr 1
        · rw [if_neg h2]
          obtain ⟨o, h5, h6⟩ := go (2 * root + 1) (by rw [if_neg h2]) (by omega) (by omega)
          exact ⟨o, h5, h6⟩
end Go.Proofs.Ythdpagcklakahaa
end
section
namespace Go.Proofs.Ythdpagcklakahaa
open Go
open Go.Sort (swp)
set_option linter.unusedSimpArgs false
set_option linter.unusedVariables false
theorem sift_size (hi first : Nat) : ∀ (k root : Nat) (d : Array Int), hi - root ≤ k → (Go.Sort.siftDown lt8 hi first root d).size = d.size
  | k, root, d, hk => by
    unfold Go.Sort.siftDown
    split
    · rfl
    · cases k with
      | zero => omega
      | succ k =>
        split
        · split
          · rfl
          · split
            · rw [sift_size hi first k _ _ (by omega), swp_size]
            · rfl
        · split
          · rfl
          · rw [sift_size hi first k _ _ (by omega), swp_size]
theorem sift_m {hi first root : Nat} {d : Array Int} (hb : first + hi ≤ d.size) (hs : d.size ≤ 100000) (hr : root ≤ 100000) : m_slices_siftDownOrdered_uint8 d.toList (root : Int) (hi : Int) (first : Int) = some (Go.Sort.siftDown lt8 hi first root d).toList := by
  unfold m_slices_siftDownOrdered_uint8
  obtain ⟨o, h1, h2⟩ := sift_eq hi first _ root d (Nat.le_refl _) hb hs hr
  unfold siftStep at h1
  rw [h1]
  exact h2
theorem chk_eq {α : Type} {n : Nat} {l : List α} (h : l.length = n) : chkLen n l = some l := by
  unfold chkLen
  rw [if_pos h]
noncomputable def buildStep (a_p1 b_p2 : Int) : List Int × Int → Option (Step (List Int × Int) (List Int)) := (fun (s1 : List Int × Int) => bif decide (s1.2 ≥ 0) then (bnd (m_slices_siftDownOrdered_uint8 s1.1 s1.2 (IntKind.wrap .i64 (b_p2 - a_p1)) a_p1) fun r1 => bnd (chkLen s1.1.length r1) fun l1 => some (.next (r1, IntKind.wrap .i64 (s1.2 - 1)))) else (some (.done s1.1)))
theorem build_eq (a b : Nat) (hab : a ≤ b) : ∀ (k : Nat) (d : Array Int), b ≤ d.size → d.size ≤ 100000 → k ≤ 100000 → loopM (buildStep (a : Int) (b : Int)) (d.toList, (k : Int) - 1) = some (Go.Sort.heapBuild lt8 (b - a) a k d).toList
  | 0, d, hb, hs, hk => by
    refine loop_done ?_
    unfold buildStep
    simp only
    rw [cnd_f (by simp)]
    rfl
  | k + 1, d, hb, hs, hk => by
    have e : ((k + 1 : Nat) : Int) - 1 = (k : Int) := by omega
    rw [e]
    refine loop_next ?_ (build_eq a b hab k (Go.Sort.siftDown lt8 (b - a) a k d) (by rw [sift_size _ _ _ _ _ (Nat.le_refl _)]; exact hb) (by rw [sift_size _ _ _ _ _ (Nat.le_refl _)]; exact hs) (by omega))
    unfold buildStep
    simp only
    have w : IntKind.wrap .i64 ((b : Int) - (a : Int)) = ((b - a : Nat) : Int) := by rw [wrap_i64 (by omega) (by omega)]; omega
    rw [cnd_t (by simp), w, sift_m (by omega) hs (by omega), bnd_some, chk_eq (by simp [sift_size _ _ _ _ _ (Nat.le_refl _)]), bnd_some, wrap_i64 (by omega) (by omega)]
theorem build_size (hi first : Nat) : ∀ (k : Nat) (d : Array Int), (Go.Sort.heapBuild lt8 hi first k d).size = d.size
  | 0, d => rfl
  | k + 1, d => by
    unfold Go.Sort.heapBuild
    rw [build_size hi first k, sift_size _ _ _ _ _ (Nat.le_refl _)]
noncomputable def popStep (a_p1 : Int) : List Int × Int → Option (Step (List Int × Int) (List Int)) := (fun (s2 : List Int × Int) => bif decide (s2.2 ≥ 0) then (bnd (elt s2.1 (IntKind.wrap .i64 (a_p1 + s2.2))) fun x1 => bnd (elt s2.1 (IntKind.wrap .i64 (a_p1 + s2.2))) fun x2 => bnd (elt s2.1 a_p1) fun x3 => bnd (elt s2.1 a_p1) fun x4 => bnd (setE s2.1 a_p1 x2) fun l2 => bnd (elt l2 (IntKind.wrap .i64 (a_p1 + s2.2))) fun x5 => bnd (setE l2 (IntKind.wrap .i64 (a_p1 + s2.2)) x3) fun l3 => bnd (m_slices_siftDownOrdered_uint8 l3 0 s2.2 a_p1) fun r2 => bnd (chkLen l3.length r2) fun l4 => some (.next (r2, IntKind.wrap .i64 (s2.2 - 1)))) else (some (.done s2.1)))
theorem pop_eq (a : Nat) : ∀ (k : Nat) (d : Array Int), a + k ≤ d.size → d.size ≤ 100000 → loopM (popStep (a : Int)) (d.toList, (k : Int) - 1) = some (Go.Sort.heapPop lt8 a k d).toList
  | 0, d, hb, hs => by
    refine loop_done ?_
    unfold popStep
    simp only
    rw [cnd_f (by simp)]
    rfl
  | k + 1, d, hb, hs => by
    have e : ((k + 1 : Nat) : Int) - 1 = (k : Int) := by omega
    rw [e]
    have hsz : (Go.Sort.siftDown lt8 k a 0 (swp d a (a + k))).size = d.size := by rw [sift_size _ _ _ _ _ (Nat.le_refl _), swp_size]
    refine loop_next ?_ (pop_eq a k (Go.Sort.siftDown lt8 k a 0 (swp d a (a + k))) (by rw [hsz]; omega) (by rw [hsz]; exact hs))
    unfold popStep
    simp only
    have w : IntKind.wrap .i64 ((a : Int) + (k : Int)) = ((a + k : Nat) : Int) := by rw [wrap_i64 (by omega) (by omega)]; omega
    rw [cnd_t (by simp), w, elt_arr (by omega), bnd_some, bnd_some, elt_arr (show a < d.size by omega), bnd_some, bnd_some, swp_eq (by omega) (by omega)]
    have := sift_m (hi := k) (first := a) (root := 0) (d := swp d a (a + k)) (by rw [swp_size]; omega) (by rw [swp_size]; exact hs) (by omega)
    rw [show m_slices_siftDownOrdered_uint8 (swp d a (a + k)).toList 0 (k : Int) (a : Int) = _ from this, bnd_some, chk_eq (by simp [sift_size _ _ _ _ _ (Nat.le_refl _)]), bnd_some, wrap_i64 (by omega) (by omega)]
theorem heap_eq {d : Array Int} {a b : Nat} (hab : a < b) (hb : b ≤ d.size) (hs : d.size ≤ 100000) : m_slices_heapSortOrdered_uint8 d.toList (a : Int) (b : Int) = some (Go.Sort.heapSort lt8 d a b).toList := by
  unfold m_slices_heapSortOrdered_uint8
  have w : IntKind.wrap .i64 ((b : Int) - (a : Int)) = ((b - a : Nat) : Int) := by rw [wrap_i64 (by omega) (by omega)]; omega
  rw [w, wrap_i64 (x := ((b - a : Nat) : Int) - 1) (by omega) (by omega)]
  have e : (((b - a : Nat) : Int) - 1).tdiv 2 = (((b - a - 1) / 2 + 1 : Nat) : Int) - 1 := by
    have h1 : ((b - a : Nat) : Int) - 1 = ((b - a - 1 : Nat) : Int) := by omega
    rw [h1]
    have h2 : ((b - a - 1 : Nat) : Int).tdiv ((2 : Nat) : Int) = (((b - a - 1) / 2 : Nat) : Int) := tdiv_n _ _
    have h3 : ((b - a - 1 : Nat) : Int).tdiv 2 = (((b - a - 1) / 2 : Nat) : Int) := h2
    rw [h3]
    omega
  rw [e, wrap_i64 (x := (((b - a - 1) / 2 + 1 : Nat) : Int) - 1) (by omega) (by omega)]
  have h1 := build_eq a b (by omega) ((b - a - 1) / 2 + 1) d hb hs (by omega)
  unfold buildStep at h1
  rw [w] at h1
  rw [h1, bnd_some]
  have h2 := pop_eq a (b - a) (Go.Sort.heapBuild lt8 (b - a) a ((b - a - 1) / 2 + 1) d) (by rw [build_size]; omega) (by rw [build_size]; exact hs)
  unfold popStep at h2
  rw [h2]
  rfl
noncomputable def revStep : List Int × Int × Int → Option (Step (List Int × Int × Int) (List Int)) := (fun (s1 : List Int × Int × Int) => bif decide (s1.2.1 < s1.2.2) then (bnd (elt s1.1 s1.2.2) fun x1 => bnd (elt s1.1 s1.2.2) fun x2 => bnd (elt s1.1 s1.2.1) fun x3 => bnd (elt s1.1 s1.2.1) fun x4 => bnd (setE s1.1 s1.2.1 x2) fun l1 => bnd (elt l1 s1.2.2) fun x5 => bnd (setE l1 s1.2.2 x3) fun l2 => some (.next (l2, IntKind.wrap .i64 (s1.2.1 + 1), IntKind.wrap .i64 (s1.2.2 - 1)))) else (some (.done s1.1)))
theorem rev_loop : ∀ (k i j : Nat) (d : Array Int), j - i ≤ k → j < d.size → d.size ≤ 100000 → i ≤ 100000 → loopM revStep (d.toList, (i : Int), (j : Int)) = some (Go.Sort.reverseLoop i j d).toList
  | k, i, j, d, hk, hj, hs, hi => by
    unfold Go.Sort.reverseLoop
    by_cases h : i < j
    · rw [if_pos h]
      cases k with
      | zero => omega
      | succ k =>
        refine loop_next ?_ (rev_loop k (i + 1) (j - 1) (swp d i j) (by omega) (by rw [swp_size]; omega) (by rw [swp_size]; exact hs) (by omega))
        unfold revStep
        simp only
        rw [cnd_t (by simp; omega), elt_arr hj, bnd_some, bnd_some, elt_arr (show i < d.size by omega), bnd_some, bnd_some, swp_eq (by omega) (by omega), wrS (by omega), wrap_i64 (by omega) (by omega)]
        rw [show ((j : Int) - 1) = ((j - 1 : Nat) : Int) by omega]
    · rw [if_neg h]
      refine loop_done ?_
      unfold revStep
      simp only
      rw [cnd_f (by simp; omega)]
theorem reverse_eq {d : Array Int} {a b : Nat} (hab : a < b) (hb : b ≤ d.size) (hs : d.size ≤ 100000) : m_slices_reverseRangeOrdered_uint8 d.toList (a : Int) (b : Int) = some (Go.Sort.reverseRange d a b).toList := by
  unfold m_slices_reverseRangeOrdered_uint8
  rw [wrap_i64 (x := (b : Int) - 1) (by omega) (by omega), show ((b : Int) - 1) = ((b - 1 : Nat) : Int) by omega]
  have := rev_loop _ a (b - 1) d (Nat.le_refl _) (by omega) hs (by omega)
  unfold revStep at this
  rw [this]
  rfl
end Go.Proofs.Ythdpagcklakahaa
end
section
namespace Go.Proofs.Ythdpagcklakahaa
open Go
open Go.Sort (swp scanUp scanDown partLoop partEqLoop)
set_option linter.unusedSimpArgs false
set_option linter.unusedVariables false
theorem scan_up {m : Int → Option (Step Int Int)} {p : Int → Bool} {d : Array Int} {j : Nat} (hm : ∀ i : Nat, i ≤ 100001 → m (i : Int) = some (if (decide (i ≤ j) && p d[i]!) = true then .next ((i + 1 : Nat) : Int) else .done (i : Int))) (hj : j ≤ 100000) : ∀ (k i : Nat), j + 1 - i ≤ k → i ≤ 100001 → loopM m (i : Int) = some ((scanUp p d j i : Nat) : Int)
  | k, i, hk, hi => by
    have h1 := hm i hi
    unfold scanUp
    by_cases h : (decide (i ≤ j) && p d[i]!) = true
    · have h2 : i ≤ j := by simp at h; exact h.1
      rw [if_pos h] at h1 ⊢
      cases k with
      | zero => omega
      | succ k => exact loop_next h1 (scan_up hm hj k (i + 1) (by omega) (by omega))
    · rw [if_neg h] at h1 ⊢
      exact loop_done h1
theorem scan_down {m : Int → Option (Step Int Int)} {p : Int → Bool} {d : Array Int} {i J : Nat} (hi : 1 ≤ i) (hm : ∀ j : Nat, j ≤ J → m (j : Int) = some (if (decide (i ≤ j) && p d[j]!) = true then .next ((j : Int) - 1) else .done (j : Int))) : ∀ (j : Nat), j ≤ J → loopM m (j : Int) = some ((scanDown p d i j : Nat) : Int)
  | 0, hj => by
    have h1 := hm 0 hj
    rw [if_neg (by simp; omega)] at h1
    exact loop_done h1
  | j + 1, hj => by
    have h1 := hm (j + 1) hj
    unfold scanDown
    by_cases h : (decide (i ≤ j + 1) && p d[j + 1]!) = true
    · rw [if_pos h] at h1 ⊢
      rw [show (((j + 1 : Nat) : Int) - 1) = (j : Int) by omega] at h1
      exact loop_next h1 (scan_down hi hm j (by omega))
    · rw [if_neg h] at h1 ⊢
      exact loop_done h1
theorem scanUp_le (p : Int → Bool) (d : Array Int) (j : Nat) : ∀ (k i : Nat), j + 1 - i ≤ k → i ≤ scanUp p d j i ∧ (scanUp p d j i ≤ j + 1 ∨ scanUp p d j i = i)
  | k, i, hk => by
    unfold scanUp
    by_cases h : (decide (i ≤ j) && p d[i]!) = true
    · have h2 : i ≤ j := by simp at h; exact h.1
      rw [if_pos h]
      cases k with
      | zero => omega
      | succ k =>
        have := scanUp_le p d j k (i + 1) (by omega)
        omega
    · rw [if_neg h]
      omega
noncomputable def puStep (l : List Int) (a_p1 j : Int) : Int → Option (Step Int Int) := (fun (s4 : Int) => bnd ((bif decide (s4 ≤ j) then (bnd (elt l s4) fun x18 => bnd (elt l a_p1) fun x19 => bnd (m_cmp_Less_uint8 x18 x19) fun r3 => some r3) else (some false) : Option Bool)) fun o7 => bif o7 then (some (.next (IntKind.wrap .i64 (s4 + 1)))) else (some (.done s4)))
noncomputable def pdStep (l : List Int) (a_p1 o6 : Int) : Int → Option (Step Int Int) := (fun (s5 : Int) => bnd ((bif decide (o6 ≤ s5) then (bnd (elt l s5) fun x20 => bnd (elt l a_p1) fun x21 => bnd (m_cmp_Less_uint8 x20 x21) fun r4 => some (!r4)) else (some false) : Option Bool)) fun o9 => bif o9 then (some (.next (IntKind.wrap .i64 (s5 - 1)))) else (some (.done s5)))
theorem pu_eq {d : Array Int} {a j : Nat} (ha : a < d.size) (hj : j < d.size) (hs : d.size ≤ 100000) (i : Nat) (hi : i ≤ 100001) : loopM (puStep d.toList (a : Int) (j : Int)) (i : Int) = some ((scanUp (fun x => lt8 x d[a]!) d j i : Nat) : Int) := by
  refine scan_up (fun i hi => ?_) (by omega) _ i (Nat.le_refl _) hi
  unfold puStep
  by_cases h : i ≤ j
  · rw [cnd_t (by simp; omega), elt_arr (by omega), bnd_some, elt_arr ha, bnd_some, less_eq, bnd_some, bnd_some, wrS (by omega)]
    simp only [h, decide_true, Bool.true_and]
    cases lt8 d[i]! d[a]! <;> rfl
  · rw [cnd_f (by simp; omega), bnd_some, cond_false, if_neg (by simp [h])]
theorem pd_eq {d : Array Int} {a i : Nat} (ha : a < d.size) (hs : d.size ≤ 100000) (hi : 1 ≤ i) (j : Nat) (hj : j < d.size) : loopM (pdStep d.toList (a : Int) (i : Int)) (j : Int) = some ((scanDown (fun x => !lt8 x d[a]!) d i j : Nat) : Int) := by
  refine scan_down hi (J := j) (fun q hq => ?_) j (Nat.le_refl _)
  unfold pdStep
  by_cases h : i ≤ q
  · rw [cnd_t (by simp; omega), elt_arr (by omega), bnd_some, elt_arr ha, bnd_some, less_eq, bnd_some, bnd_some, wrap_i64 (by omega) (by omega)]
    simp only [h, decide_true, Bool.true_and]
    cases lt8 d[q]! d[a]! <;> rfl
  · rw [cnd_f (by simp; omega), bnd_some, cond_false, if_neg (by simp [h])]
noncomputable def ptStep (a_p1 : Int) : List Int × Int × Int → Option (Step (List Int × Int × Int) (List Int × Int)) := (fun (s3 : List Int × Int × Int) => bnd (loopM (τ := Int) (fun (s4 : Int) => bnd ((bif decide (s4 ≤ s3.2.2) then (bnd (elt s3.1 s4) fun x18 => bnd (elt s3.1 a_p1) fun x19 => bnd (m_cmp_Less_uint8 x18 x19) fun r3 => some r3) else (some false) : Option Bool)) fun o7 => bif o7 then (some (.next (IntKind.wrap .i64 (s4 + 1)))) else (some (.done s4))) s3.2.1) fun o6 => bnd (loopM (τ := Int) (fun (s5 : Int) => bnd ((bif decide (o6 ≤ s5) then (bnd (elt s3.1 s5) fun x20 => bnd (elt s3.1 a_p1) fun x21 => bnd (m_cmp_Less_uint8 x20 x21) fun r4 => some (!r4)) else (some false) : Option Bool)) fun o9 => bif o9 then (some (.next (IntKind.wrap .i64 (s5 - 1)))) else (some (.done s5))) s3.2.2) fun o8 => bif decide (o6 > o8) then (some (.done (s3.1, o8))) else (bnd (elt s3.1 o8) fun x22 => bnd (elt s3.1 o6) fun x23 => bnd (elt s3.1 o6) fun x24 => bnd (setE s3.1 o6 x22) fun l7 => bnd (elt l7 o8) fun x25 => bnd (setE l7 o8 x23) fun l8 => some (.next (l8, IntKind.wrap .i64 (o6 + 1), IntKind.wrap .i64 (o8 - 1)))))
theorem pt_loop (a : Nat) : ∀ (k i j : Nat) (d : Array Int), j + 1 - i ≤ k → a < d.size → j < d.size → d.size ≤ 100000 → 1 ≤ i → i ≤ 100001 → loopM (ptStep (a : Int)) (d.toList, (i : Int), (j : Int)) = some ((partLoop lt8 a i j d).2.toList, ((partLoop lt8 a i j d).1 : Int))
  | k, i, j, d, hk, ha, hj, hs, hi1, hi => by
    have h1 := pu_eq ha hj hs i hi
    have h2 := scanUp_le (fun x => lt8 x d[a]!) d j _ i (Nat.le_refl _)
    have h3 := pd_eq (i := scanUp (fun x => lt8 x d[a]!) d j i) ha hs (by omega) j hj
    have h4 := Go.Sort.scanDown_le (fun x => !lt8 x d[a]!) d (scanUp (fun x => lt8 x d[a]!) d j i) j
    rw [Go.Sort.partLoop_eq]
    revert h1 h2 h3 h4
    generalize scanUp (fun x => lt8 x d[a]!) d j i = i2
    generalize scanDown (fun x => !lt8 x d[a]!) d i2 j = j2
    intro h1 h2 h3 h4
    unfold puStep at h1
    unfold pdStep at h3
    by_cases hgt : i2 > j2
    · rw [if_pos hgt]
      refine loop_done ?_
      unfold ptStep
      simp only
      rw [h1, bnd_some, h3, bnd_some, cnd_t (by simp; omega)]
    · rw [if_neg hgt]
      cases k with
      | zero => omega
      | succ k =>
        refine loop_next ?_ (pt_loop a k (i2 + 1) (j2 - 1) (swp d i2 j2) (by omega) (by rw [swp_size]; exact ha) (by rw [swp_size]; omega) (by rw [swp_size]; exact hs) (by omega) (by omega))
        unfold ptStep
        simp only
        rw [h1, bnd_some, h3, bnd_some, cnd_f (by simp; omega), elt_arr (show j2 < d.size by omega), bnd_some, elt_arr (show i2 < d.size by omega), bnd_some, bnd_some, swp_eq (by omega) (by omega), wrS (by omega), wrap_i64 (by omega) (by omega), show ((j2 : Int) - 1) = ((j2 - 1 : Nat) : Int) by omega]
theorem ptLoop_size (a : Nat) : ∀ (k i j : Nat) (d : Array Int), j + 1 - i ≤ k → (partLoop lt8 a i j d).2.size = d.size ∧ (partLoop lt8 a i j d).1 ≤ j
  | k, i, j, d, hk => by
    have h2 := scanUp_le (fun x => lt8 x d[a]!) d j _ i (Nat.le_refl _)
    have h4 := Go.Sort.scanDown_le (fun x => !lt8 x d[a]!) d (scanUp (fun x => lt8 x d[a]!) d j i) j
    rw [Go.Sort.partLoop_eq]
    split
    · exact ⟨rfl, h4⟩
    · cases k with
      | zero => omega
      | succ k =>
        have := ptLoop_size a k (scanUp (fun x => lt8 x d[a]!) d j i + 1) (scanDown (fun x => !lt8 x d[a]!) d (scanUp (fun x => lt8 x d[a]!) d j i) j - 1) (swp d (scanUp (fun x => lt8 x d[a]!) d j i) (scanDown (fun x => !lt8 x d[a]!) d (scanUp (fun x => lt8 x d[a]!) d j i) j)) (by omega)
        rw [swp_size] at this
        omega
theorem partition_eq {d : Array Int} {a b pivot : Nat} (hab : a < b) (hb : b ≤ d.size) (hp : pivot < d.size) (hs : d.size ≤ 100000) : m_slices_partitionOrdered_uint8 d.toList (a : Int) (b : Int) (pivot : Int) = some ((Go.Sort.partition lt8 d a b pivot).2.2.toList, ((Go.Sort.partition lt8 d a b pivot).1 : Int), (Go.Sort.partition lt8 d a b pivot).2.1) := by
  unfold m_slices_partitionOrdered_uint8 Go.Sort.partition
  rw [elt_arr hp, bnd_some, bnd_some, elt_arr (show a < d.size by omega), bnd_some, bnd_some, swp_eq (by omega) hp, wrap_i64 (x := (b : Int) - 1) (by omega) (by omega), show ((b : Int) - 1) = ((b - 1 : Nat) : Int) by omega, wrS (by omega)]
  simp only
  have hs1 : (swp d a pivot).size = d.size := swp_size _ _ _
  revert hs1
  generalize swp d a pivot = e
  intro hs1
  have h1 := pu_eq (d := e) (a := a) (j := b - 1) (by omega) (by omega) (by omega) (a + 1) (by omega)
  have h2 := scanUp_le (fun x => lt8 x e[a]!) e (b - 1) _ (a + 1) (Nat.le_refl _)
  have h3 := pd_eq (d := e) (a := a) (i := scanUp (fun x => lt8 x e[a]!) e (b - 1) (a + 1)) (by omega) (by omega) (by omega) (b - 1) (by omega)
  have h4 := Go.Sort.scanDown_le (fun x => !lt8 x e[a]!) e (scanUp (fun x => lt8 x e[a]!) e (b - 1) (a + 1)) (b - 1)
  revert h1 h2 h3 h4
  generalize scanUp (fun x => lt8 x e[a]!) e (b - 1) (a + 1) = i2
  generalize scanDown (fun x => !lt8 x e[a]!) e i2 (b - 1) = j2
  intro h1 h2 h3 h4
  unfold puStep at h1
  unfold pdStep at h3
  rw [h1, bnd_some, h3, bnd_some]
  by_cases hgt : i2 > j2
  · rw [cnd_t (by simp; omega), if_pos hgt, elt_arr (show a < e.size by omega), bnd_some, elt_arr (show j2 < e.size by omega), bnd_some, bnd_some, swp_eq (by omega) (by omega)]
  · rw [cnd_f (by simp; omega), if_neg hgt, elt_arr (show j2 < e.size by omega), bnd_some, elt_arr (show i2 < e.size by omega), bnd_some, bnd_some, swp_eq (by omega) (by omega), wrS (by omega), wrap_i64 (x := (j2 : Int) - 1) (by omega) (by omega), show ((j2 : Int) - 1) = ((j2 - 1 : Nat) : Int) by omega]
    have h5 := pt_loop a _ (i2 + 1) (j2 - 1) (swp e i2 j2) (Nat.le_refl _) (by rw [swp_size]; omega) (by rw [swp_size]; omega) (by rw [swp_size]; omega) (by omega) (by omega)
    have h6 := ptLoop_size a _ (i2 + 1) (j2 - 1) (swp e i2 j2) (Nat.le_refl _)
    rw [swp_size] at h6
    unfold ptStep at h5
    rw [h5, bnd_some]
    simp only
    rw [elt_arr (show a < _ by rw [h6.1]; omega), bnd_some, elt_arr (show _ < _ by rw [h6.1]; omega), bnd_some, bnd_some, swp_eq (by rw [h6.1]; omega) (by rw [h6.1]; omega)]
noncomputable def qdStep (l : List Int) (a_p1 o2 : Int) : Int → Option (Step Int Int) := (fun (s3 : Int) => bnd ((bif decide (o2 ≤ s3) then (bnd (elt l a_p1) fun x8 => bnd (elt l s3) fun x9 => bnd (m_cmp_Less_uint8 x8 x9) fun r2 => some r2) else (some false) : Option Bool)) fun o5 => bif o5 then (some (.next (IntKind.wrap .i64 (s3 - 1)))) else (some (.done s3)))
noncomputable def quStep (l : List Int) (a_p1 j : Int) : Int → Option (Step Int Int) := (fun (s2 : Int) => bnd ((bif decide (s2 ≤ j) then (bnd (elt l a_p1) fun x6 => bnd (elt l s2) fun x7 => bnd (m_cmp_Less_uint8 x6 x7) fun r1 => some (!r1)) else (some false) : Option Bool)) fun o3 => bif o3 then (some (.next (IntKind.wrap .i64 (s2 + 1)))) else (some (.done s2)))
theorem qu_eq {d : Array Int} {a j : Nat} (ha : a < d.size) (hj : j < d.size) (hs : d.size ≤ 100000) (i : Nat) (hi : i ≤ 100001) : loopM (quStep d.toList (a : Int) (j : Int)) (i : Int) = some ((scanUp (fun x => !lt8 d[a]! x) d j i : Nat) : Int) := by
  refine scan_up (fun i hi => ?_) (by omega) _ i (Nat.le_refl _) hi
  unfold quStep
  by_cases h : i ≤ j
  · rw [cnd_t (by simp; omega), elt_arr ha, bnd_some, elt_arr (by omega), bnd_some, less_eq, bnd_some, bnd_some, wrS (by omega)]
    simp only [h, decide_true, Bool.true_and]
    cases lt8 d[a]! d[i]! <;> rfl
  · rw [cnd_f (by simp; omega), bnd_some, cond_false, if_neg (by simp [h])]
theorem qd_eq {d : Array Int} {a i : Nat} (ha : a < d.size) (hs : d.size ≤ 100000) (hi : 1 ≤ i) (j : Nat) (hj : j < d.size) : loopM (qdStep d.toList (a : Int) (i : Int)) (j : Int) = some ((scanDown (fun x => lt8 d[a]! x) d i j : Nat) : Int) := by
  refine scan_down hi (J := j) (fun q hq => ?_) j (Nat.le_refl _)
  unfold qdStep
  by_cases h : i ≤ q
  · rw [cnd_t (by simp; omega), elt_arr ha, bnd_some, elt_arr (by omega), bnd_some, less_eq, bnd_some, bnd_some, wrap_i64 (by omega) (by omega)]
    simp only [h, decide_true, Bool.true_and]
    cases lt8 d[a]! d[q]! <;> rfl
  · rw [cnd_f (by simp; omega), bnd_some, cond_false, if_neg (by simp [h])]
noncomputable def peStep (a_p1 : Int) : List Int × Int × Int → Option (Step (List Int × Int × Int) (List Int × Int)) := (fun (s1 : List Int × Int × Int) => bnd (loopM (τ := Int) (fun (s2 : Int) => bnd ((bif decide (s2 ≤ s1.2.2) then (bnd (elt s1.1 a_p1) fun x6 => bnd (elt s1.1 s2) fun x7 => bnd (m_cmp_Less_uint8 x6 x7) fun r1 => some (!r1)) else (some false) : Option Bool)) fun o3 => bif o3 then (some (.next (IntKind.wrap .i64 (s2 + 1)))) else (some (.done s2))) s1.2.1) fun o2 => bnd (loopM (τ := Int) (fun (s3 : Int) => bnd ((bif decide (o2 ≤ s3) then (bnd (elt s1.1 a_p1) fun x8 => bnd (elt s1.1 s3) fun x9 => bnd (m_cmp_Less_uint8 x8 x9) fun r2 => some r2) else (some false) : Option Bool)) fun o5 => bif o5 then (some (.next (IntKind.wrap .i64 (s3 - 1)))) else (some (.done s3))) s1.2.2) fun o4 => bif decide (o2 > o4) then (some (.done (s1.1, o2))) else (bnd (elt s1.1 o4) fun x10 => bnd (elt s1.1 o2) fun x11 => bnd (elt s1.1 o2) fun x12 => bnd (setE s1.1 o2 x10) fun l3 => bnd (elt l3 o4) fun x13 => bnd (setE l3 o4 x11) fun l4 => some (.next (l4, IntKind.wrap .i64 (o2 + 1), IntKind.wrap .i64 (o4 - 1)))))
theorem pe_loop (a : Nat) : ∀ (k i j : Nat) (d : Array Int), j + 1 - i ≤ k → a < d.size → j < d.size → d.size ≤ 100000 → 1 ≤ i → i ≤ 100001 → loopM (peStep (a : Int)) (d.toList, (i : Int), (j : Int)) = some ((partEqLoop lt8 a i j d).2.toList, ((partEqLoop lt8 a i j d).1 : Int))
  | k, i, j, d, hk, ha, hj, hs, hi1, hi => by
    have h1 := qu_eq ha hj hs i hi
    have h2 := scanUp_le (fun x => !lt8 d[a]! x) d j _ i (Nat.le_refl _)
    have h3 := qd_eq (i := scanUp (fun x => !lt8 d[a]! x) d j i) ha hs (by omega) j hj
    have h4 := Go.Sort.scanDown_le (fun x => lt8 d[a]! x) d (scanUp (fun x => !lt8 d[a]! x) d j i) j
    rw [Go.Sort.partEqLoop_eq]
    revert h1 h2 h3 h4
    generalize scanUp (fun x => !lt8 d[a]! x) d j i = i2
    generalize scanDown (fun x => lt8 d[a]! x) d i2 j = j2
    intro h1 h2 h3 h4
    unfold quStep at h1
    unfold qdStep at h3
    by_cases hgt : i2 > j2
    · rw [if_pos hgt]
      refine loop_done ?_
      unfold peStep
      simp only
      rw [h1, bnd_some, h3, bnd_some, cnd_t (by simp; omega)]
    · rw [if_neg hgt]
      cases k with
      | zero => omega
      | succ k =>
        refine loop_next ?_ (pe_loop a k (i2 + 1) (j2 - 1) (swp d i2 j2) (by omega) (by rw [swp_size]; exact ha) (by rw [swp_size]; omega) (by rw [swp_size]; exact hs) (by omega) (by omega))
        unfold peStep
        simp only
        rw [h1, bnd_some, h3, bnd_some, cnd_f (by simp; omega), elt_arr (show j2 < d.size by omega), bnd_some, elt_arr (show i2 < d.size by omega), bnd_some, bnd_some, swp_eq (by omega) (by omega), wrS (by omega), wrap_i64 (by omega) (by omega), show ((j2 : Int) - 1) = ((j2 - 1 : Nat) : Int) by omega]
theorem partitionEqual_eq {d : Array Int} {a b pivot : Nat} (hab : a < b) (hb : b ≤ d.size) (hp : pivot < d.size) (hs : d.size ≤ 100000) : m_slices_partitionEqualOrdered_uint8 d.toList (a : Int) (b : Int) (pivot : Int) = some ((Go.Sort.partitionEqual lt8 d a b pivot).2.toList, ((Go.Sort.partitionEqual lt8 d a b pivot).1 : Int)) := by
  unfold m_slices_partitionEqualOrdered_uint8
  rw [elt_arr hp, bnd_some, bnd_some, elt_arr (show a < d.size by omega), bnd_some, bnd_some, swp_eq (by omega) hp, wrap_i64 (x := (b : Int) - 1) (by omega) (by omega), show ((b : Int) - 1) = ((b - 1 : Nat) : Int) by omega, wrS (by omega)]
  have h5 := pe_loop a _ (a + 1) (b - 1) (swp d a pivot) (Nat.le_refl _) (by rw [swp_size]; omega) (by rw [swp_size]; omega) (by rw [swp_size]; omega) (by omega) (by omega)
  unfold peStep at h5
  rw [h5]
  rfl
end Go.Proofs.Ythdpagcklakahaa
end
section
namespace Go.Proofs.Ythdpagcklakahaa
open Go
open Go.Sort (swp scanSorted shiftDown shiftUp partialIns order2 median medianAdjacent choosePivot Hint bitsLen xorNext breakStep breakPatterns)
set_option linter.unusedSimpArgs false
set_option linter.unusedVariables false
noncomputable def ssStep (l : List Int) (b_p2 : Int) : Int → Option (Step Int Int) := (fun (s2 : Int) => bnd ((bif decide (s2 < b_p2) then (bnd (elt l s2) fun x1 => bnd (elt l (IntKind.wrap .i64 (s2 - 1))) fun x2 => bnd (m_cmp_Less_uint8 x1 x2) fun r1 => some (!r1)) else (some false) : Option Bool)) fun o4 => bif o4 then (some (.next (IntKind.wrap .i64 (s2 + 1)))) else (some (.done s2)))
theorem ss_eq {d : Array Int} {b : Nat} (hb : b ≤ d.size) (hs : d.size ≤ 100000) : ∀ (k i : Nat), b - i ≤ k → 1 ≤ i → loopM (ssStep d.toList (b : Int)) (i : Int) = some ((scanSorted lt8 d b i : Nat) : Int)
  | k, i, hk, hi => by
    have hst : ssStep d.toList (b : Int) (i : Int) = some (if (decide (i < b) && !lt8 d[i]! d[i - 1]!) = true then .next ((i + 1 : Nat) : Int) else .done (i : Int)) := by
      unfold ssStep
      by_cases h : i < b
      · rw [cnd_t (by simp; omega), elt_arr (by omega), bnd_some, wrap_i64 (by omega) (by omega), show ((i : Int) - 1) = ((i - 1 : Nat) : Int) by omega, elt_arr (by omega), bnd_some, less_eq, bnd_some, bnd_some, wrS (by omega)]
        simp only [h, decide_true, Bool.true_and]
        cases lt8 d[i]! d[i - 1]! <;> rfl
      · rw [cnd_f (by simp; omega), bnd_some, cond_false, if_neg (by simp [h])]
    unfold scanSorted
    by_cases h : (decide (i < b) && !lt8 d[i]! d[i - 1]!) = true
    · have h2 : i < b := by simp at h; exact h.1
      rw [if_pos h] at hst ⊢
      cases k with
      | zero => omega
      | succ k => exact loop_next hst (ss_eq hb hs k (i + 1) (by omega) (by omega))
    · rw [if_neg h] at hst ⊢
      exact loop_done hst
theorem ss_le (d : Array Int) (b : Nat) : ∀ (k i : Nat), b - i ≤ k → i ≤ b → i ≤ scanSorted lt8 d b i ∧ scanSorted lt8 d b i ≤ b
  | k, i, hk, hi => by
    unfold scanSorted
    by_cases h : (decide (i < b) && !lt8 d[i]! d[i - 1]!) = true
    · have h2 : i < b := by simp at h; exact h.1
      rw [if_pos h]
      cases k with
      | zero => omega
      | succ k =>
        have := ss_le d b k (i + 1) (by omega) (by omega)
        omega
    · rw [if_neg h]
      omega
noncomputable def sdStep : List Int × Int → Option (Step (List Int × Int) (List Int)) := (fun (s3 : List Int × Int) => bif decide (s3.2 ≥ 1) then (bnd (elt s3.1 s3.2) fun x8 => bnd (elt s3.1 (IntKind.wrap .i64 (s3.2 - 1))) fun x9 => bnd (m_cmp_Less_uint8 x8 x9) fun r2 => bif !r2 then (some (.done s3.1)) else (bnd (elt s3.1 (IntKind.wrap .i64 (s3.2 - 1))) fun x10 => bnd (elt s3.1 s3.2) fun x11 => bnd (elt s3.1 s3.2) fun x12 => bnd (setE s3.1 s3.2 x10) fun l3 => bnd (elt l3 (IntKind.wrap .i64 (s3.2 - 1))) fun x13 => bnd (setE l3 (IntKind.wrap .i64 (s3.2 - 1)) x11) fun l4 => some (.next (l4, IntKind.wrap .i64 (s3.2 - 1))))) else (some (.done s3.1)))
theorem sd_eq : ∀ (j : Nat) (d : Array Int), j < d.size → d.size ≤ 100000 → loopM sdStep (d.toList, (j : Int)) = some (shiftDown lt8 j d).toList
  | 0, d, h, hs => by
    refine loop_done ?_
    unfold sdStep
    simp only
    rw [cnd_f (by simp)]
    rfl
  | j + 1, d, h, hs => by
    have hst : sdStep (d.toList, ((j + 1 : Nat) : Int)) = some (if (!lt8 d[j + 1]! d[j]!) = true then .done d.toList else .next ((swp d (j + 1) j).toList, (j : Int))) := by
      unfold sdStep
      simp only
      rw [cnd_t (by simp; omega), wrP (by omega), elt_arr h, bnd_some, elt_arr (show j < d.size by omega), bnd_some, less_eq, bnd_some]
      cases lt8 d[j + 1]! d[j]!
      · rfl
      · rw [cnd_f (by rfl), bnd_some, bnd_some, bnd_some, swp_eq h (by omega)]
        rfl
    unfold shiftDown
    by_cases hc : (!lt8 d[j + 1]! d[j]!) = true
    · rw [if_pos hc] at hst ⊢
      exact loop_done hst
    · rw [if_neg hc] at hst ⊢
      exact loop_next hst (sd_eq j _ (by rw [swp_size]; omega) (by rw [swp_size]; omega))
theorem sd_size : ∀ (j : Nat) (d : Array Int), (shiftDown lt8 j d).size = d.size
  | 0, d => rfl
  | j + 1, d => by
    unfold shiftDown
    split
    · rfl
    · rw [sd_size j, swp_size]
noncomputable def suStep (b_p2 : Int) : List Int × Int → Option (Step (List Int × Int) (List Int)) := (fun (s4 : List Int × Int) => bif decide (s4.2 < b_p2) then (bnd (elt s4.1 s4.2) fun x14 => bnd (elt s4.1 (IntKind.wrap .i64 (s4.2 - 1))) fun x15 => bnd (m_cmp_Less_uint8 x14 x15) fun r3 => bif !r3 then (some (.done s4.1)) else (bnd (elt s4.1 (IntKind.wrap .i64 (s4.2 - 1))) fun x16 => bnd (elt s4.1 s4.2) fun x17 => bnd (elt s4.1 s4.2) fun x18 => bnd (setE s4.1 s4.2 x16) fun l5 => bnd (elt l5 (IntKind.wrap .i64 (s4.2 - 1))) fun x19 => bnd (setE l5 (IntKind.wrap .i64 (s4.2 - 1)) x17) fun l6 => some (.next (l6, IntKind.wrap .i64 (s4.2 + 1))))) else (some (.done s4.1)))
theorem su_eq (b : Nat) : ∀ (k j : Nat) (d : Array Int), b - j ≤ k → 1 ≤ j → b ≤ d.size → d.size ≤ 100000 → loopM (suStep (b : Int)) (d.toList, (j : Int)) = some (shiftUp lt8 b j d).toList
  | k, j, d, hk, hj, hb, hs => by
    unfold shiftUp
    by_cases h : j < b
    · rw [if_pos h]
      have hst : suStep (b : Int) (d.toList, (j : Int)) = some (if (!lt8 d[j]! d[j - 1]!) = true then .done d.toList else .next ((swp d j (j - 1)).toList, ((j + 1 : Nat) : Int))) := by
        unfold suStep
        simp only
        rw [cnd_t (by simp; omega), wrap_i64 (x := (j : Int) - 1) (by omega) (by omega), show ((j : Int) - 1) = ((j - 1 : Nat) : Int) by omega, elt_arr (by omega), bnd_some, elt_arr (by omega), bnd_some, less_eq, bnd_some]
        cases lt8 d[j]! d[j - 1]!
        · rfl
        · rw [cnd_f (by rfl), bnd_some, bnd_some, bnd_some, swp_eq (by omega) (by omega), wrS (by omega)]
          rfl
      by_cases hc : (!lt8 d[j]! d[j - 1]!) = true
      · rw [if_pos hc] at hst ⊢
        exact loop_done hst
      · rw [if_neg hc] at hst ⊢
        cases k with
        | zero => omega
        | succ k => exact loop_next hst (su_eq b k (j + 1) _ (by omega) (by omega) (by rw [swp_size]; omega) (by rw [swp_size]; omega))
    · rw [if_neg h]
      refine loop_done ?_
      unfold suStep
      simp only
      rw [cnd_f (by simp; omega)]
theorem su_size (b : Nat) : ∀ (k j : Nat) (d : Array Int), b - j ≤ k → (shiftUp lt8 b j d).size = d.size
  | k, j, d, hk => by
    unfold shiftUp
    split
    · split
      · rfl
      · cases k with
        | zero => omega
        | succ k => rw [su_size b k _ _ (by omega), swp_size]
    · rfl
noncomputable def piStep (a_p1 b_p2 : Int) : List Int × Int × Int → Option (Step (List Int × Int × Int) (((List Int) × Bool) ⊕ List Int)) := (fun (s1 : List Int × Int × Int) => bif decide (s1.2.2 < 5) then (bnd (loopM (τ := Int) (fun (s2 : Int) => bnd ((bif decide (s2 < b_p2) then (bnd (elt s1.1 s2) fun x1 => bnd (elt s1.1 (IntKind.wrap .i64 (s2 - 1))) fun x2 => bnd (m_cmp_Less_uint8 x1 x2) fun r1 => some (!r1)) else (some false) : Option Bool)) fun o4 => bif o4 then (some (.next (IntKind.wrap .i64 (s2 + 1)))) else (some (.done s2))) s1.2.1) fun o3 => bif (o3 == b_p2) then (some (.done (.inl (s1.1, true)))) else (bif decide ((IntKind.wrap .i64 (b_p2 - a_p1)) < 50) then (some (.done (.inl (s1.1, false)))) else (bnd (elt s1.1 (IntKind.wrap .i64 (o3 - 1))) fun x3 => bnd (elt s1.1 (IntKind.wrap .i64 (o3 - 1))) fun x4 => bnd (elt s1.1 o3) fun x5 => bnd (elt s1.1 o3) fun x6 => bnd (setE s1.1 o3 x4) fun l1 => bnd (elt l1 (IntKind.wrap .i64 (o3 - 1))) fun x7 => bnd (setE l1 (IntKind.wrap .i64 (o3 - 1)) x5) fun l2 => bnd ((bif decide ((IntKind.wrap .i64 (o3 - a_p1)) ≥ 2) then (bnd (loopM (τ := List Int) (fun (s3 : List Int × Int) => bif decide (s3.2 ≥ 1) then (bnd (elt s3.1 s3.2) fun x8 => bnd (elt s3.1 (IntKind.wrap .i64 (s3.2 - 1))) fun x9 => bnd (m_cmp_Less_uint8 x8 x9) fun r2 => bif !r2 then (some (.done s3.1)) else (bnd (elt s3.1 (IntKind.wrap .i64 (s3.2 - 1))) fun x10 => bnd (elt s3.1 s3.2) fun x11 => bnd (elt s3.1 s3.2) fun x12 => bnd (setE s3.1 s3.2 x10) fun l3 => bnd (elt l3 (IntKind.wrap .i64 (s3.2 - 1))) fun x13 => bnd (setE l3 (IntKind.wrap .i64 (s3.2 - 1)) x11) fun l4 => some (.next (l4, IntKind.wrap .i64 (s3.2 - 1))))) else (some (.done s3.1))) (l2, IntKind.wrap .i64 (o3 - 1))) fun o6 => some o6) else (some l2) : Option (List Int))) fun o5 => bif decide ((IntKind.wrap .i64 (b_p2 - o3)) ≥ 2) then (bnd (loopM (τ := List Int) (fun (s4 : List Int × Int) => bif decide (s4.2 < b_p2) then (bnd (elt s4.1 s4.2) fun x14 => bnd (elt s4.1 (IntKind.wrap .i64 (s4.2 - 1))) fun x15 => bnd (m_cmp_Less_uint8 x14 x15) fun r3 => bif !r3 then (some (.done s4.1)) else (bnd (elt s4.1 (IntKind.wrap .i64 (s4.2 - 1))) fun x16 => bnd (elt s4.1 s4.2) fun x17 => bnd (elt s4.1 s4.2) fun x18 => bnd (setE s4.1 s4.2 x16) fun l5 => bnd (elt l5 (IntKind.wrap .i64 (s4.2 - 1))) fun x19 => bnd (setE l5 (IntKind.wrap .i64 (s4.2 - 1)) x17) fun l6 => some (.next (l6, IntKind.wrap .i64 (s4.2 + 1))))) else (some (.done s4.1))) (o5, IntKind.wrap .i64 (o3 + 1))) fun o7 => some (.next (o7, o3, IntKind.wrap .i64 (s1.2.2 + 1)))) else (some (.next (o5, o3, IntKind.wrap .i64 (s1.2.2 + 1))))))) else (some (.done (.inr s1.1))))
theorem pi_loop (a b : Nat) (hab : a < b) : ∀ (s i : Nat) (d : Array Int), s ≤ 5 → a + 1 ≤ i → i ≤ b → b ≤ d.size → d.size ≤ 100000 → ∃ o, loopM (piStep (a : Int) (b : Int)) (d.toList, (i : Int), ((5 - s : Nat) : Int)) = some o ∧ (retOr o fun o2 => some (o2, false)) = some ((partialIns lt8 a b s i d).1.toList, (partialIns lt8 a b s i d).2)
  | 0, i, d, h5, h1, h2, hb, hs => by
    refine ⟨.inr d.toList, loop_done ?_, rfl⟩
    unfold piStep
    simp only
    rw [cnd_f (by simp)]
  | s + 1, i, d, h5, h1, h2, hb, hs => by
    have e1 := ss_eq hb hs _ i (Nat.le_refl _) (by omega)
    have e2 := ss_le d b _ i (Nat.le_refl _) h2
    have eP : partialIns lt8 a b (s + 1) i d = (if scanSorted lt8 d b i = b then (d, true) else if b - a < 50 then (d, false) else
      partialIns lt8 a b s (scanSorted lt8 d b i) (if b - scanSorted lt8 d b i ≥ 2 then shiftUp lt8 b (scanSorted lt8 d b i + 1) (if scanSorted lt8 d b i - a ≥ 2 then shiftDown lt8 (scanSorted lt8 d b i - 1) (swp d (scanSorted lt8 d b i) (scanSorted lt8 d b i - 1)) else swp d (scanSorted lt8 d b i) (scanSorted lt8 d b i - 1)) else (if scanSorted lt8 d b i - a ≥ 2 then shiftDown lt8 (scanSorted lt8 d b i - 1) (swp d (scanSorted lt8 d b i) (scanSorted lt8 d b i - 1)) else swp d (scanSorted lt8 d b i) (scanSorted lt8 d b i - 1)))) := rfl
    rw [eP]
    clear eP
    revert e1 e2
    generalize scanSorted lt8 d b i = q
    intro e1 e2
    unfold ssStep at e1
    have w : IntKind.wrap .i64 ((b : Int) - (a : Int)) = ((b - a : Nat) : Int) := by rw [wrap_i64 (by omega) (by omega)]; omega
    by_cases h3 : q = b
    · refine ⟨.inl (d.toList, true), loop_done ?_, by rw [if_pos h3]; rfl⟩
      unfold piStep
      simp only
      rw [cnd_t (by simp; omega), e1, bnd_some, cnd_t (by simp; omega)]
    · rw [if_neg h3]
      by_cases h4 : b - a < 50
      · refine ⟨.inl (d.toList, false), loop_done ?_, by rw [if_pos h4]; rfl⟩
        unfold piStep
        simp only
        rw [cnd_t (by simp; omega), e1, bnd_some, cnd_f (by simp; omega), w, cnd_t (by simp; omega)]
      · rw [if_neg h4]
        have hz : (swp d q (q - 1)).size = d.size := swp_size _ _ _
        have hD : ∃ f, f = (if q - a ≥ 2 then shiftDown lt8 (q - 1) (swp d q (q - 1)) else swp d q (q - 1)) ∧ f.size = d.size := by
          refine ⟨_, rfl, ?_⟩
          split
          · rw [sd_size, hz]
          · exact hz
        obtain ⟨f, hf, hfz⟩ := hD
        have hG : ∃ g, g = (if b - q ≥ 2 then shiftUp lt8 b (q + 1) f else f) ∧ g.size = d.size := by
          refine ⟨_, rfl, ?_⟩
          split
          · rw [su_size b _ _ _ (Nat.le_refl _), hfz]
          · exact hfz
        obtain ⟨g, hg, hgz⟩ := hG
        rw [← hf, ← hg]
        obtain ⟨o, o1, o2⟩ := pi_loop a b hab s q g (by omega) (by omega) (by omega) (by omega) (by omega)
        refine ⟨o, loop_next ?_ o1, o2⟩
        unfold piStep
        simp only
        rw [cnd_t (by simp; omega), e1, bnd_some, cnd_f (by simp; omega), w, cnd_f (by simp; omega), wrap_i64 (x := (q : Int) - 1) (by omega) (by omega), show ((q : Int) - 1) = ((q - 1 : Nat) : Int) by omega, elt_arr (show q - 1 < d.size by omega), bnd_some, bnd_some, elt_arr (show q < d.size by omega), bnd_some, bnd_some, swp_eq (by omega) (by omega), wrap_i64 (x := (q : Int) - (a : Int)) (by omega) (by omega), wrap_i64 (x := (b : Int) - (q : Int)) (by omega) (by omega), wrS (by omega)]
        have e3 : (bif decide ((q : Int) - (a : Int) ≥ 2) then (bnd (loopM (τ := List Int) sdStep ((swp d q (q - 1)).toList, ((q - 1 : Nat) : Int))) fun o6 => some o6) else (some (swp d q (q - 1)).toList) : Option (List Int)) = some f.toList := by
          by_cases h6 : q - a ≥ 2
          · rw [cnd_t (by simp; omega), sd_eq _ _ (by omega) (by omega), hf, if_pos h6]
            rfl
          · rw [cnd_f (by simp; omega), hf, if_neg h6]
        unfold sdStep at e3
        rw [e3, bnd_some]
        have e4 : IntKind.wrap .i64 (((5 - (s + 1) : Nat) : Int) + 1) = ((5 - s : Nat) : Int) := by rw [wrap_i64 (by omega) (by omega)]; omega
        rw [e4]
        by_cases h7 : b - q ≥ 2
        · have e5 := su_eq b _ (q + 1) f (Nat.le_refl _) (by omega) (by omega) (by omega)
          unfold suStep at e5
          rw [cnd_t (by simp; omega), e5, bnd_some, hg, if_pos h7]
        · rw [cnd_f (by simp; omega), hg, if_neg h7]
theorem partial_eq {d : Array Int} {a b : Nat} (hab : a < b) (hb : b ≤ d.size) (hs : d.size ≤ 100000) : m_slices_partialInsertionSortOrdered_uint8 d.toList (a : Int) (b : Int) = some ((Go.Sort.partialInsertionSort lt8 d a b).1.toList, (Go.Sort.partialInsertionSort lt8 d a b).2) := by
  unfold m_slices_partialInsertionSortOrdered_uint8
  rw [wrS (by omega)]
  obtain ⟨o, h1, h2⟩ := pi_loop a b hab 5 (a + 1) d (by omega) (by omega) (by omega) hb hs
  unfold piStep at h1
  show bnd (loopM _ (d.toList, ((a + 1 : Nat) : Int), ((5 - 5 : Nat) : Int))) _ = _
  rw [h1]
  exact h2
theorem order2_eq {d : Array Int} {a b s : Nat} (ha : a < d.size) (hb : b < d.size) (hs : s ≤ 1000) : m_slices_order2Ordered_uint8 d.toList (a : Int) (b : Int) (s : Int) = some (((order2 lt8 d a b s).2.2 : Int), ((order2 lt8 d a b s).1 : Int), ((order2 lt8 d a b s).2.1 : Int)) := by
  unfold m_slices_order2Ordered_uint8 order2
  rw [elt_arr hb, bnd_some, elt_arr ha, bnd_some, less_eq, bnd_some, wrS (by omega)]
  cases lt8 d[b]! d[a]! <;> rfl
theorem order2_in {d : Array Int} {a b s : Nat} : ((order2 lt8 d a b s).1 = a ∨ (order2 lt8 d a b s).1 = b) ∧ ((order2 lt8 d a b s).2.1 = a ∨ (order2 lt8 d a b s).2.1 = b) ∧ (order2 lt8 d a b s).2.2 ≤ s + 1 := by
  unfold order2
  split
  · exact ⟨.inr rfl, .inl rfl, Nat.le_refl _⟩
  · exact ⟨.inl rfl, .inr rfl, Nat.le_succ _⟩
theorem median_eq {d : Array Int} {a b c s : Nat} (ha : a < d.size) (hb : b < d.size) (hc : c < d.size) (hs : s ≤ 900) : m_slices_medianOrdered_uint8 d.toList (a : Int) (b : Int) (c : Int) (s : Int) = some (((median lt8 d a b c s).2 : Int), ((median lt8 d a b c s).1 : Int)) ∧ ((median lt8 d a b c s).1 = a ∨ (median lt8 d a b c s).1 = b ∨ (median lt8 d a b c s).1 = c) ∧ (median lt8 d a b c s).2 ≤ s + 3 := by
  have h1 := order2_in (d := d) (a := a) (b := b) (s := s)
  have e1 := order2_eq (d := d) (a := a) (b := b) (s := s) ha hb (by omega)
  unfold m_slices_medianOrdered_uint8 median
  rw [e1, bnd_some]
  simp only
  revert h1
  generalize order2 lt8 d a b s = r1
  intro h1
  have h2 := order2_in (d := d) (a := r1.2.1) (b := c) (s := r1.2.2)
  have e2 := order2_eq (d := d) (a := r1.2.1) (b := c) (s := r1.2.2) (by omega) hc (by omega)
  rw [e2, bnd_some]
  simp only
  revert h2
  generalize order2 lt8 d r1.2.1 c r1.2.2 = r2
  intro h2
  have h3 := order2_in (d := d) (a := r1.1) (b := r2.1) (s := r2.2.2)
  have e3 := order2_eq (d := d) (a := r1.1) (b := r2.1) (s := r2.2.2) (by omega) (by omega) (by omega)
  rw [e3, bnd_some]
  exact ⟨rfl, by omega, by omega⟩
theorem adjacent_eq {d : Array Int} {a s : Nat} (h1 : 1 ≤ a) (ha : a + 1 < d.size) (hd : d.size ≤ 100000) (hs : s ≤ 900) : m_slices_medianAdjacentOrdered_uint8 d.toList (a : Int) (s : Int) = some (((medianAdjacent lt8 d a s).2 : Int), ((medianAdjacent lt8 d a s).1 : Int)) ∧ ((medianAdjacent lt8 d a s).1 ≤ a + 1) ∧ (medianAdjacent lt8 d a s).2 ≤ s + 3 := by
  unfold m_slices_medianAdjacentOrdered_uint8 medianAdjacent
  obtain ⟨e1, e2, e3⟩ := median_eq (d := d) (a := a - 1) (b := a) (c := a + 1) (s := s) (by omega) (by omega) ha hs
  rw [wrS (by omega), wrap_i64 (by omega) (by omega), show ((a : Int) - 1) = ((a - 1 : Nat) : Int) by omega, e1, bnd_some]
  exact ⟨rfl, by omega, e3⟩
def hintI : Hint → Int
  | .unknown => 0
  | .increasing => 1
  | .decreasing => 2
theorem pivot_eq {d : Array Int} {a b : Nat} (hab : a + 12 < b) (hb : b ≤ d.size) (hs : d.size ≤ 100000) : m_slices_choosePivotOrdered_uint8 d.toList (a : Int) (b : Int) = some (((choosePivot lt8 d a b).1 : Int), hintI (choosePivot lt8 d a b).2) := by
  unfold m_slices_choosePivotOrdered_uint8
  have w : IntKind.wrap .i64 ((b : Int) - (a : Int)) = ((b - a : Nat) : Int) := by rw [wrap_i64 (by omega) (by omega)]; omega
  have wd : IntKind.wrap .i64 (((b - a : Nat) : Int).tdiv 4) = (((b - a) / 4 : Nat) : Int) := by
    have : ((b - a : Nat) : Int).tdiv ((4 : Nat) : Int) = (((b - a) / 4 : Nat) : Int) := tdiv_n _ _
    rw [show ((b - a : Nat) : Int).tdiv 4 = (((b - a) / 4 : Nat) : Int) from this, wrap_i64 (by omega) (by omega)]
  have wi : ∀ q : Nat, q ≤ 3 → IntKind.wrap .i64 ((a : Int) + IntKind.wrap .i64 ((((b - a) / 4 : Nat) : Int) * (q : Int))) = ((a + (b - a) / 4 * q : Nat) : Int) := fun q hq => by
    have h4 : (b - a) / 4 * q ≤ (b - a) / 4 * 3 := Nat.mul_le_mul (Nat.le_refl _) hq
    have e : (((b - a) / 4 : Nat) : Int) * (q : Int) = (((b - a) / 4 * q : Nat) : Int) := by simp
    rw [e, wrap_i64 (x := (((b - a) / 4 * q : Nat) : Int)) (by omega) (by omega), wrap_i64 (by omega) (by omega)]
    omega
  have w1 := wi 1 (by omega)
  have w2 := wi 2 (by omega)
  have w3 := wi 3 (by omega)
  rw [w, wd, show IntKind.wrap .i64 ((a : Int) + IntKind.wrap .i64 ((((b - a) / 4 : Nat) : Int) * 1)) = _ from w1, show IntKind.wrap .i64 ((a : Int) + IntKind.wrap .i64 ((((b - a) / 4 : Nat) : Int) * 2)) = _ from w2, show IntKind.wrap .i64 ((a : Int) + IntKind.wrap .i64 ((((b - a) / 4 : Nat) : Int) * 3)) = _ from w3, cnd_t (by simp; omega)]
  have fin : ∀ r : Nat × Nat, (bif ((r.2 : Int) == 0) then (some ((r.1 : Int), (1 : Int))) else (bif ((r.2 : Int) == 12) then (some ((r.1 : Int), 2)) else (some ((r.1 : Int), 0)))) = some ((r.1 : Int), hintI (if r.2 = 0 then Hint.increasing else if r.2 = 12 then Hint.decreasing else Hint.unknown)) := fun r => by
    by_cases h0 : r.2 = 0
    · rw [cnd_t (by simp [h0]), if_pos h0]; rfl
    · rw [cnd_f (by simp; omega), if_neg h0]
      by_cases h12 : r.2 = 12
      · rw [cnd_t (by simp [h12]), if_pos h12]; rfl
      · rw [cnd_f (by simp; omega), if_neg h12]; rfl
  have hq : (b - a) / 4 * 1 ≤ (b - a) / 4 * 3 := Nat.mul_le_mul (Nat.le_refl _) (by omega)
  have hq2 : (b - a) / 4 * 2 ≤ (b - a) / 4 * 3 := Nat.mul_le_mul (Nat.le_refl _) (by omega)
  have hq3 : (b - a) / 4 * 3 ≤ b - a - 3 := by omega
  have hq4 : 1 ≤ (b - a) / 4 * 1 := by omega
  unfold choosePivot
  simp only
  rw [if_pos (show b - a ≥ 8 by omega)]
  by_cases h50 : b - a ≥ 50
  · rw [cnd_t (by simp; omega), if_pos h50]
    obtain ⟨a1, a2, a3⟩ := adjacent_eq (d := d) (a := a + (b - a) / 4 * 1) (s := 0) (by omega) (by omega) hs (by omega)
    rw [show m_slices_medianAdjacentOrdered_uint8 d.toList ((a + (b - a) / 4 * 1 : Nat) : Int) 0 = _ from a1, bnd_some]
    simp only
    revert a2 a3
    generalize medianAdjacent lt8 d (a + (b - a) / 4 * 1) 0 = ri
    intro a2 a3
    obtain ⟨b1, b2, b3⟩ := adjacent_eq (d := d) (a := a + (b - a) / 4 * 2) (s := ri.2) (by omega) (by omega) hs (by omega)
    rw [b1, bnd_some]
    simp only
    revert b2 b3
    generalize medianAdjacent lt8 d (a + (b - a) / 4 * 2) ri.2 = rj
    intro b2 b3
    obtain ⟨c1, c2, c3⟩ := adjacent_eq (d := d) (a := a + (b - a) / 4 * 3) (s := rj.2) (by omega) (by omega) hs (by omega)
    rw [c1, bnd_some]
    simp only
    revert c2 c3
    generalize medianAdjacent lt8 d (a + (b - a) / 4 * 3) rj.2 = rk
    intro c2 c3
    obtain ⟨d1, _, _⟩ := median_eq (d := d) (a := ri.1) (b := rj.1) (c := rk.1) (s := rk.2) (by omega) (by omega) (by omega) (by omega)
    rw [d1, bnd_some, bnd_some]
    exact fin _
  · rw [cnd_f (by simp; omega), if_neg h50]
    obtain ⟨d1, _, _⟩ := median_eq (d := d) (a := a + (b - a) / 4 * 1) (b := a + (b - a) / 4 * 2) (c := a + (b - a) / 4 * 3) (s := 0) (by omega) (by omega) (by omega) (by omega)
    rw [show m_slices_medianOrdered_uint8 d.toList ((a + (b - a) / 4 * 1 : Nat) : Int) ((a + (b - a) / 4 * 2 : Nat) : Int) ((a + (b - a) / 4 * 3 : Nat) : Int) 0 = _ from d1, bnd_some, bnd_some]
    exact fin _
end Go.Proofs.Ythdpagcklakahaa
end
section
namespace Go.Proofs.Ythdpagcklakahaa
open Go
open Go.Sort (swp bitsLen xorNext breakStep breakPatterns)
set_option linter.unusedSimpArgs false
set_option linter.unusedVariables false
theorem iXor_u64 {a b : Nat} (ha : a < 18446744073709551616) (hb : b < 18446744073709551616) : iXor .u64 (a : Int) (b : Int) = ((a ^^^ b : Nat) : Int) := by
  unfold iXor
  rw [BitVec.toNat_xor, ofNat_toNat (by exact ha), ofNat_toNat (by exact hb), wrap_u64n (Nat.xor_lt_two_pow (n := 64) ha hb)]
theorem wrap_u64m (n : Nat) : IntKind.wrap .u64 (n : Int) = ((n % 18446744073709551616 : Nat) : Int) := by
  show (n : Int) % 2 ^ 64 = _
  omega
theorem iShl_u64 {a s : Nat} (hs : s ≤ 64) : iShl .u64 (a : Int) (s : Int) = ((a * 2 ^ s % 18446744073709551616 : Nat) : Int) := by
  unfold iShl
  have : min (s : Int).toNat (IntKind.bits .u64) = s := by show min (s : Int).toNat 64 = s; omega
  rw [this]
  have e : ((a : Int) * 2 ^ s) = ((a * 2 ^ s : Nat) : Int) := by simp
  rw [e, wrap_u64m]
theorem next_eq (u : UInt64) : m_slices_xorshift_Next (u.toNat : Int) = some (((xorNext u).toNat : Int), ((xorNext u).toNat : Int)) := by
  have hb : ∀ v : UInt64, v.toNat < 18446744073709551616 := fun v => v.toNat_lt
  have sh1 : ∀ v : UInt64, iShl .u64 (v.toNat : Int) 13 = ((v <<< 13).toNat : Int) := fun v => by
    rw [show iShl .u64 (v.toNat : Int) 13 = _ from iShl_u64 (a := v.toNat) (s := 13) (by omega), UInt64.toNat_shiftLeft, Nat.shiftLeft_eq]
    rfl
  have sh3 : ∀ v : UInt64, iShl .u64 (v.toNat : Int) 17 = ((v <<< 17).toNat : Int) := fun v => by
    rw [show iShl .u64 (v.toNat : Int) 17 = _ from iShl_u64 (a := v.toNat) (s := 17) (by omega), UInt64.toNat_shiftLeft, Nat.shiftLeft_eq]
    rfl
  have sh2 : ∀ v : UInt64, iShr .u64 (v.toNat : Int) 7 = ((v >>> 7).toNat : Int) := fun v => by
    rw [show iShr .u64 (v.toNat : Int) 7 = _ from iShr_n (k := .u64) (a := v.toNat) (s := 7) (by show 7 ≤ 64; omega), UInt64.toNat_shiftRight, Nat.shiftRight_eq_div_pow]
    rfl
  have xr : ∀ v w : UInt64, iXor .u64 (v.toNat : Int) (w.toNat : Int) = ((v ^^^ w).toNat : Int) := fun v w => by
    rw [iXor_u64 (hb v) (hb w), UInt64.toNat_xor]
  unfold m_slices_xorshift_Next xorNext
  rw [sh1, xr, sh2, xr, sh3, xr]
theorem len_eq : ∀ n : Fin 1001, m_math_bits_Len ((n.val : Nat) : Int) = some ((bitsLen n.val : Nat) : Int) := by
  decide +kernel
theorem iAnd_u64 {a b : Nat} (ha : a < 18446744073709551616) (hb : b < 18446744073709551616) : iAnd .u64 (a : Int) (b : Int) = ((a &&& b : Nat) : Int) := by
  unfold iAnd
  rw [BitVec.toNat_and, ofNat_toNat (by exact ha), ofNat_toNat (by exact hb), wrap_u64n (Nat.and_lt_two_pow (n := 64) a hb)]
theorem pow_eq {n : Nat} (h0 : 0 < n) (h : n ≤ 1000) : m_slices_nextPowerOfTwo (n : Int) = some ((1 <<< bitsLen n : Nat) : Int) ∧ 1 <<< bitsLen n ≤ 2 * n ∧ 1 ≤ 1 <<< bitsLen n := by
  have h1 := Go.Sort.two_pow_bitsLen_le h0
  have h2 : 0 < 2 ^ bitsLen n := Nat.two_pow_pos _
  have h3 : bitsLen n ≤ 64 := by
    rw [Go.Sort.bitsLen_le_iff]
    exact Nat.lt_of_le_of_lt h (by decide)
  refine ⟨?_, by rw [Nat.one_shiftLeft]; exact h1, by rw [Nat.one_shiftLeft]; exact h2⟩
  unfold m_slices_nextPowerOfTwo
  rw [wrap_u64n (by omega), len_eq ⟨n, by omega⟩, bnd_some]
  unfold shlM
  rw [if_neg (by simp), bnd_some]
  have e : iShl .u64 ((1 : Nat) : Int) ((bitsLen n : Nat) : Int) = _ := iShl_u64 (a := 1) h3
  rw [show iShl .u64 1 ((bitsLen n : Nat) : Int) = _ from e, Nat.one_mul, Nat.one_shiftLeft, Nat.mod_eq_of_lt (by omega)]
noncomputable def bpStep (a_p1 b_p2 r1 : Int) : List Int × Int × Int → Option (Step (List Int × Int × Int) (List Int × Int)) := (fun (s1 : List Int × Int × Int) => bif decide (s1.2.1 ≤ (IntKind.wrap .i64 ((IntKind.wrap .i64 (a_p1 + (IntKind.wrap .i64 ((IntKind.wrap .i64 ((IntKind.wrap .i64 (b_p2 - a_p1)).tdiv 4)) * 2)))) + 1))) then (bnd (m_slices_xorshift_Next s1.2.2) fun r2 => bnd ((bif decide ((IntKind.wrap .i64 (iAnd .u64 r2.2 (IntKind.wrap .u64 (r1 - 1)))) ≥ (IntKind.wrap .i64 (b_p2 - a_p1))) then (some (IntKind.wrap .i64 ((IntKind.wrap .i64 (iAnd .u64 r2.2 (IntKind.wrap .u64 (r1 - 1)))) - (IntKind.wrap .i64 (b_p2 - a_p1))))) else (some (IntKind.wrap .i64 (iAnd .u64 r2.2 (IntKind.wrap .u64 (r1 - 1))))) : Option Int)) fun o2 => bnd (elt s1.1 (IntKind.wrap .i64 (a_p1 + o2))) fun x1 => bnd (elt s1.1 (IntKind.wrap .i64 (a_p1 + o2))) fun x2 => bnd (elt s1.1 s1.2.1) fun x3 => bnd (elt s1.1 s1.2.1) fun x4 => bnd (setE s1.1 s1.2.1 x2) fun l1 => bnd (elt l1 (IntKind.wrap .i64 (a_p1 + o2))) fun x5 => bnd (setE l1 (IntKind.wrap .i64 (a_p1 + o2)) x3) fun l2 => some (.next (l2, IntKind.wrap .i64 (s1.2.1 + 1), r2.1))) else (some (.done (s1.1, s1.2.2))))
theorem bp_step {d : Array Int} {a b idx : Nat} {u : UInt64} (hab : a < b) (hb : b ≤ d.size) (hs : d.size ≤ 1000) (hi : idx ≤ a + (b - a) / 4 * 2 + 1) (hi2 : idx < b) : bpStep (a : Int) (b : Int) ((1 <<< bitsLen (b - a) : Nat) : Int) (d.toList, (idx : Int), (u.toNat : Int)) = some (.next ((breakStep a (b - a) (1 <<< bitsLen (b - a)) (u, d) idx).2.toList, ((idx + 1 : Nat) : Int), ((xorNext u).toNat : Int))) := by
  have w : IntKind.wrap .i64 ((b : Int) - (a : Int)) = ((b - a : Nat) : Int) := by rw [wrap_i64 (by omega) (by omega)]; omega
  have wd : IntKind.wrap .i64 (((b - a : Nat) : Int).tdiv 4) = (((b - a) / 4 : Nat) : Int) := by
    have : ((b - a : Nat) : Int).tdiv ((4 : Nat) : Int) = (((b - a) / 4 : Nat) : Int) := tdiv_n _ _
    rw [show ((b - a : Nat) : Int).tdiv 4 = (((b - a) / 4 : Nat) : Int) from this, wrap_i64 (by omega) (by omega)]
  obtain ⟨_, p1, p2⟩ := pow_eq (n := b - a) (by omega) (by omega)
  have hm : (xorNext u).toNat &&& (1 <<< bitsLen (b - a) - 1) ≤ 1 <<< bitsLen (b - a) - 1 := Nat.and_le_right
  unfold bpStep breakStep
  simp only
  revert p1 p2 hm
  generalize 1 <<< bitsLen (b - a) = mo
  intro p1 p2 hm
  rw [w, wd, wrap_i64 (x := (((b - a) / 4 : Nat) : Int) * 2) (by omega) (by omega), wrap_i64 (x := (a : Int) + (((b - a) / 4 : Nat) : Int) * 2) (by omega) (by omega), wrap_i64 (x := (a : Int) + (((b - a) / 4 : Nat) : Int) * 2 + 1) (by omega) (by omega), cnd_t (by simp; omega), next_eq, bnd_some]
  simp only
  have w2 : IntKind.wrap .u64 ((mo : Int) - 1) = ((mo - 1 : Nat) : Int) := by rw [wrap_u64 (by omega) (by omega)]; omega
  rw [w2, iAnd_u64 ((xorNext u).toNat_lt) (by omega), wr (by omega)]
  revert hm
  generalize (xorNext u).toNat &&& (mo - 1) = q
  intro hm
  have hq : (bif decide ((q : Int) ≥ ((b - a : Nat) : Int)) then (some (IntKind.wrap .i64 ((q : Int) - ((b - a : Nat) : Int)))) else (some (q : Int)) : Option Int) = some (((if q ≥ b - a then q - (b - a) else q : Nat)) : Int) := by
    by_cases h : q ≥ b - a
    · rw [cnd_t (by simp; omega), if_pos h, wrap_i64 (by omega) (by omega)]
      congr 1
      omega
    · rw [cnd_f (by simp; omega), if_neg h]
  rw [hq, bnd_some]
  have hr : (if q ≥ b - a then q - (b - a) else q) < b - a := by split <;> omega
  revert hr
  generalize (if q ≥ b - a then q - (b - a) else q) = o
  intro hr
  have w3 : IntKind.wrap .i64 ((a : Int) + (o : Int)) = ((a + o : Nat) : Int) := by rw [wrap_i64 (by omega) (by omega)]; omega
  rw [w3, elt_arr (show a + o < d.size by omega), bnd_some, bnd_some, elt_arr (show idx < d.size by omega), bnd_some, bnd_some, swp_eq (by omega) (by omega), wrS (by omega)]
theorem bp_size {d : Array Int} (a l m : Nat) (u : UInt64) (idx : Nat) : (breakStep a l m (u, d) idx).2.size = d.size ∧ (breakStep a l m (u, d) idx).1 = xorNext u := by
  unfold breakStep
  exact ⟨swp_size _ _ _, rfl⟩
theorem break_eq {d : Array Int} {a b : Nat} (hab : a + 12 < b) (hb : b ≤ d.size) (hs : d.size ≤ 1000) : m_slices_breakPatternsOrdered_uint8 d.toList (a : Int) (b : Int) = some (breakPatterns d a b).toList := by
  have w : IntKind.wrap .i64 ((b : Int) - (a : Int)) = ((b - a : Nat) : Int) := by rw [wrap_i64 (by omega) (by omega)]; omega
  have wd : IntKind.wrap .i64 (((b - a : Nat) : Int).tdiv 4) = (((b - a) / 4 : Nat) : Int) := by
    have : ((b - a : Nat) : Int).tdiv ((4 : Nat) : Int) = (((b - a) / 4 : Nat) : Int) := tdiv_n _ _
    rw [show ((b - a : Nat) : Int).tdiv 4 = (((b - a) / 4 : Nat) : Int) from this, wrap_i64 (by omega) (by omega)]
  obtain ⟨p0, _, _⟩ := pow_eq (n := b - a) (by omega) (by omega)
  unfold m_slices_breakPatternsOrdered_uint8 breakPatterns
  simp only
  rw [if_pos (show b - a ≥ 8 by omega)]
  have hl : IntKind.wrap .u64 ((b - a : Nat) : Int) = ((UInt64.ofNat (b - a)).toNat : Int) := by
    rw [wrap_u64n (by omega), UInt64.toNat_ofNat_of_lt' (by show b - a < 18446744073709551616; omega)]
  have hlp : ∀ (f : Array Int × UInt64), True := fun _ => trivial
  generalize hu : UInt64.ofNat (b - a) = u0 at hl
  generalize hi0 : a + (b - a) / 4 * 2 - 1 = i0
  generalize hd1 : breakStep a (b - a) (1 <<< bitsLen (b - a)) (u0, d) i0 = s1
  have z1 := bp_size (d := d) a (b - a) (1 <<< bitsLen (b - a)) u0 i0
  rw [hd1] at z1
  obtain ⟨u1, d1⟩ := s1
  generalize hd2 : breakStep a (b - a) (1 <<< bitsLen (b - a)) (u1, d1) (i0 + 1) = s2
  have z2 := bp_size (d := d1) a (b - a) (1 <<< bitsLen (b - a)) u1 (i0 + 1)
  rw [hd2] at z2
  obtain ⟨u2, d2⟩ := s2
  generalize hd3 : breakStep a (b - a) (1 <<< bitsLen (b - a)) (u2, d2) (i0 + 2) = s3
  have z3 := bp_size (d := d2) a (b - a) (1 <<< bitsLen (b - a)) u2 (i0 + 2)
  rw [hd3] at z3
  obtain ⟨u3, d3⟩ := s3
  simp only at z1 z2 z3
  have q1 := bp_step (d := d) (a := a) (b := b) (idx := i0) (u := u0) (by omega) hb hs (by omega) (by omega)
  rw [hd1] at q1
  have q2 := bp_step (d := d1) (a := a) (b := b) (idx := i0 + 1) (u := u1) (by omega) (by omega) (by omega) (by omega) (by omega)
  rw [hd2] at q2
  have q3 := bp_step (d := d2) (a := a) (b := b) (idx := i0 + 2) (u := u2) (by omega) (by omega) (by omega) (by omega) (by omega)
  rw [hd3] at q3
  have q4 : bpStep (a : Int) (b : Int) ((1 <<< bitsLen (b - a) : Nat) : Int) (d3.toList, ((i0 + 3 : Nat) : Int), (u3.toNat : Int)) = some (.done (d3.toList, (u3.toNat : Int))) := by
    unfold bpStep
    simp only
    rw [w, wd, wrap_i64 (x := (((b - a) / 4 : Nat) : Int) * 2) (by omega) (by omega), wrap_i64 (x := (a : Int) + (((b - a) / 4 : Nat) : Int) * 2) (by omega) (by omega), wrap_i64 (x := (a : Int) + (((b - a) / 4 : Nat) : Int) * 2 + 1) (by omega) (by omega), cnd_f (by simp; omega)]
  have hloop : loopM (bpStep (a : Int) (b : Int) ((1 <<< bitsLen (b - a) : Nat) : Int)) (d.toList, (i0 : Int), (u0.toNat : Int)) = some (d3.toList, (u3.toNat : Int)) := by
    refine loop_next q1 ?_
    simp only
    rw [← z1.2]
    refine loop_next q2 ?_
    rw [← z2.2]
    refine loop_next q3 ?_
    rw [← z3.2]
    exact loop_done q4
  unfold bpStep at hloop
  rw [w, wd] at hloop
  rw [w, wd, cnd_t (by simp; omega), p0, bnd_some, wrap_i64 (x := (((b - a) / 4 : Nat) : Int) * 2) (by omega) (by omega), wrap_i64 (x := (a : Int) + (((b - a) / 4 : Nat) : Int) * 2) (by omega) (by omega), wrap_i64 (x := (a : Int) + (((b - a) / 4 : Nat) : Int) * 2 - 1) (by omega) (by omega), hl, show ((a : Int) + (((b - a) / 4 : Nat) : Int) * 2 - 1) = (i0 : Int) by omega]
  rw [wrap_i64 (x := (((b - a) / 4 : Nat) : Int) * 2) (by omega) (by omega), wrap_i64 (x := (a : Int) + (((b - a) / 4 : Nat) : Int) * 2) (by omega) (by omega)] at hloop
  rw [hloop]
  rfl
end Go.Proofs.Ythdpagcklakahaa
end
section
namespace Go.Proofs.Ythdpagcklakahaa
open Go
open Go.Sort (swp bitsLen Hint SWO PermIn SortedIn Below)
set_option linter.unusedSimpArgs false
set_option linter.unusedVariables false
def Sorts (a b : Nat) (d R : Array Int) : Prop := PermIn a b d R ∧ SortedIn lt8 a b R
def GoodRec (K : Nat) (rec : List Int → Int → Int → Int → Option (List Int)) : Prop := ∀ (e : Array Int) (a b : Nat) (limit : Int), b - a < K → a ≤ b → b ≤ e.size → e.size ≤ 1000 → Below lt8 a b e → ∃ R, rec e.toList (a : Int) (b : Int) limit = some R.toList ∧ Sorts a b e R
noncomputable def pqStep (rec : List Int → Int → Int → Int → Option (List Int)) : List Int × Int × Int × Int × Bool × Bool → Option (Step (List Int × Int × Int × Int × Bool × Bool) ((List Int) ⊕ Unit)) := (fun (s1 : List Int × Int × Int × Int × Bool × Bool) => bif decide ((IntKind.wrap .i64 (s1.2.2.1 - s1.2.1)) ≤ 12) then (bnd (m_slices_insertionSortOrdered_uint8 s1.1 s1.2.1 s1.2.2.1) fun r1 => bnd (chkLen s1.1.length r1) fun l1 => some (.done (.inl r1))) else (bif (s1.2.2.2.1 == 0) then (bnd (m_slices_heapSortOrdered_uint8 s1.1 s1.2.1 s1.2.2.1) fun r2 => bnd (chkLen s1.1.length r2) fun l2 => some (.done (.inl r2))) else (bnd ((bif !s1.2.2.2.2.1 then (bnd (m_slices_breakPatternsOrdered_uint8 s1.1 s1.2.1 s1.2.2.1) fun r3 => bnd (chkLen s1.1.length r3) fun l3 => some (r3, IntKind.wrap .i64 (s1.2.2.2.1 - 1))) else (some (s1.1, s1.2.2.2.1)) : Option (List Int × Int))) fun o3 => bnd (m_slices_choosePivotOrdered_uint8 o3.1 s1.2.1 s1.2.2.1) fun r4 => bnd ((bif (r4.2 == 2) then (bnd (m_slices_reverseRangeOrdered_uint8 o3.1 s1.2.1 s1.2.2.1) fun r5 => bnd (chkLen o3.1.length r5) fun l4 => some (r5, IntKind.wrap .i64 ((IntKind.wrap .i64 (s1.2.2.1 - 1)) - (IntKind.wrap .i64 (r4.1 - s1.2.1))), 1)) else (some (o3.1, r4.1, r4.2)) : Option (List Int × Int × Int))) fun o4 => bnd ((bnd ((bif s1.2.2.2.2.1 then (bif s1.2.2.2.2.2 then (some (o4.2.2 == 1)) else (some false)) else (some false) : Option Bool)) fun o7 => bif o7 then (bnd (m_slices_partialInsertionSortOrdered_uint8 o4.1 s1.2.1 s1.2.2.1) fun r6 => bnd (chkLen o4.1.length r6.1) fun l5 => bif r6.2 then (some (.inl r6.1)) else (some (.inr r6.1))) else (some (.inr o4.1)) : Option ((List Int) ⊕ List Int))) fun o5 => retOrW (fun r_ => (.done (.inl r_))) o5 fun o6 => bnd ((bif decide (s1.2.1 > 0) then (bnd (elt o6 (IntKind.wrap .i64 (s1.2.1 - 1))) fun x1 => bnd (elt o6 o4.2.1) fun x2 => bnd (m_cmp_Less_uint8 x1 x2) fun r7 => some (!r7)) else (some false) : Option Bool)) fun o8 => bif o8 then (bnd (m_slices_partitionEqualOrdered_uint8 o6 s1.2.1 s1.2.2.1 o4.2.1) fun r8 => bnd (chkLen o6.length r8.1) fun l6 => some (.next (r8.1, r8.2, s1.2.2.1, o3.2, s1.2.2.2.2.1, s1.2.2.2.2.2))) else (bnd (m_slices_partitionOrdered_uint8 o6 s1.2.1 s1.2.2.1 o4.2.1) fun r9 => bnd (chkLen o6.length r9.1) fun l7 => bif decide ((IntKind.wrap .i64 (r9.2.1 - s1.2.1)) < (IntKind.wrap .i64 (s1.2.2.1 - r9.2.1))) then (bnd (rec r9.1 s1.2.1 r9.2.1 o3.2) fun r10 => bnd (chkLen r9.1.length r10) fun l8 => some (.next (r10, IntKind.wrap .i64 (r9.2.1 + 1), s1.2.2.1, o3.2, decide ((IntKind.wrap .i64 (r9.2.1 - s1.2.1)) ≥ (IntKind.wrap .i64 ((IntKind.wrap .i64 (s1.2.2.1 - s1.2.1)).tdiv 8))), r9.2.2))) else (bnd (rec r9.1 (IntKind.wrap .i64 (r9.2.1 + 1)) s1.2.2.1 o3.2) fun r11 => bnd (chkLen r9.1.length r11) fun l9 => some (.next (r11, s1.2.1, r9.2.1, o3.2, decide ((IntKind.wrap .i64 (s1.2.2.1 - r9.2.1)) ≥ (IntKind.wrap .i64 ((IntKind.wrap .i64 (s1.2.2.1 - s1.2.1)).tdiv 8))), r9.2.2)))))))
theorem swo8 : SWO lt8 := Go.Sort.swo_ltInt
theorem pq_loop {K : Nat} {rec : List Int → Int → Int → Int → Option (List Int)} (hrec : GoodRec K rec) : ∀ (k a b : Nat) (d : Array Int) (limit : Int) (wb wp : Bool), b - a ≤ k → b - a ≤ K → a ≤ b → b ≤ d.size → d.size ≤ 1000 → Below lt8 a b d → ∃ R, loopM (pqStep rec) (d.toList, (a : Int), (b : Int), limit, wb, wp) = some (.inl R.toList) ∧ Sorts a b d R
  | k, a, b, d, limit, wb, wp, hk, hK, hab, hb, hs, hB => by
    have w : IntKind.wrap .i64 ((b : Int) - (a : Int)) = ((b - a : Nat) : Int) := by rw [wrap_i64 (by omega) (by omega)]; omega
    by_cases h12 : b - a ≤ 12
    · have hi := insertion_eq (d := d) (a := a) (b := b) hb hab (by omega)
      have hp := Go.Sort.insertionSort_holds swo8 d a b hab hb
      refine ⟨_, loop_done ?_, hp⟩
      unfold pqStep
      simp only
      rw [w, cnd_t (by simp; omega), hi, bnd_some, chk_eq (by simp; exact hp.1.1), bnd_some]
    · by_cases hl0 : limit = 0
      · have hi := heap_eq (d := d) (a := a) (b := b) (by omega) hb (by omega)
        have hp := Go.Sort.heapSort_holds swo8 d a b hab hb
        refine ⟨_, loop_done ?_, hp⟩
        unfold pqStep
        simp only
        rw [w, cnd_f (by simp; omega), cnd_t (by simp [hl0]), hi, bnd_some, chk_eq (by simp; exact hp.1.1), bnd_some]
      · cases k with
        | zero => omega
        | succ k =>
          have s1 : ∃ (D1 : Array Int) (L1 : Int), (bif !wb then (bnd (m_slices_breakPatternsOrdered_uint8 d.toList (a : Int) (b : Int)) fun r3 => bnd (chkLen d.toList.length r3) fun l3 => some (r3, IntKind.wrap .i64 (limit - 1))) else (some (d.toList, limit)) : Option (List Int × Int)) = some (D1.toList, L1) ∧ PermIn a b d D1 := by
            cases wb with
            | false =>
              have hp := Go.Sort.breakPatterns_holds d a b hab hb
              refine ⟨_, IntKind.wrap .i64 (limit - 1), ?_, hp⟩
              rw [cnd_t (by rfl), break_eq (by omega) hb hs, bnd_some, chk_eq (by simp; exact hp.1), bnd_some]
            | true => exact ⟨d, limit, rfl, Go.Sort.permIn_refl _ _ _⟩
          obtain ⟨D1, L1, e1, p1⟩ := s1
          have z1 := p1.1
          have e2 := pivot_eq (d := D1) (a := a) (b := b) (by omega) (by omega) (by omega)
          have hc := Go.Sort.choosePivot_holds lt8 D1 a b (by omega)
          have s3 : ∃ (D2 : Array Int) (pv : Nat) (h : Int), (bif (hintI (Go.Sort.choosePivot lt8 D1 a b).2 == 2) then (bnd (m_slices_reverseRangeOrdered_uint8 D1.toList (a : Int) (b : Int)) fun r5 => bnd (chkLen D1.toList.length r5) fun l4 => some (r5, IntKind.wrap .i64 ((IntKind.wrap .i64 ((b : Int) - 1)) - (IntKind.wrap .i64 (((Go.Sort.choosePivot lt8 D1 a b).1 : Int) - (a : Int)))), 1)) else (some (D1.toList, ((Go.Sort.choosePivot lt8 D1 a b).1 : Int), hintI (Go.Sort.choosePivot lt8 D1 a b).2)) : Option (List Int × Int × Int)) = some (D2.toList, (pv : Int), h) ∧ a ≤ pv ∧ pv < b ∧ PermIn a b D1 D2 := by
            revert hc
            generalize Go.Sort.choosePivot lt8 D1 a b = c
            intro hc
            by_cases h2 : (hintI c.2 == 2) = true
            · have hp := Go.Sort.reverseRange_holds D1 a b hab (by omega)
              refine ⟨_, (b - 1) - (c.1 - a), 1, ?_, by omega, by omega, hp⟩
              rw [cnd_t h2, reverse_eq (by omega) (by omega) (by omega), bnd_some, chk_eq (by simp; exact hp.1), bnd_some, wrap_i64 (x := (b : Int) - 1) (by omega) (by omega), wrap_i64 (x := (c.1 : Int) - (a : Int)) (by omega) (by omega), wrap_i64 (by omega) (by omega)]
              congr 3
              omega
            · exact ⟨D1, c.1, hintI c.2, by rw [cnd_f (by simpa using h2)], hc.1, hc.2, Go.Sort.permIn_refl _ _ _⟩
          obtain ⟨D2, pv, h, e3, v1, v2, p2⟩ := s3
          have z2 := p2.1
          have B2 : Below lt8 a b D2 := (hB.perm hb p1).perm (by omega) p2
          have s4 : ∃ o : (List Int) ⊕ List Int, (bnd ((bif wb then (bif wp then (some (h == 1)) else (some false)) else (some false) : Option Bool)) fun o7 => bif o7 then (bnd (m_slices_partialInsertionSortOrdered_uint8 D2.toList (a : Int) (b : Int)) fun r6 => bnd (chkLen D2.toList.length r6.1) fun l5 => bif r6.2 then (some (.inl r6.1)) else (some (.inr r6.1))) else (some (.inr D2.toList)) : Option ((List Int) ⊕ List Int)) = some o ∧ ((∃ R, o = .inl R.toList ∧ Sorts a b D2 R) ∨ ∃ D3, o = .inr D3.toList ∧ PermIn a b D2 D3) := by
            have hg : ∃ g : Bool, (bif wb then (bif wp then (some (h == 1)) else (some false)) else (some false) : Option Bool) = some g := by
              cases wb <;> cases wp <;> exact ⟨_, rfl⟩
            obtain ⟨g, hg⟩ := hg
            rw [hg, bnd_some]
            cases g with
            | false => exact ⟨_, rfl, .inr ⟨D2, rfl, Go.Sort.permIn_refl _ _ _⟩⟩
            | true =>
              have hp := Go.Sort.partialInsertionSort_holds swo8 D2 a b (by omega) (by omega) B2
              rw [cond_true, partial_eq (by omega) (by omega) (by omega), bnd_some, chk_eq (by simp; exact hp.1.1), bnd_some]
              cases hr : (Go.Sort.partialInsertionSort lt8 D2 a b).2 with
              | false => exact ⟨_, by rw [cond_false], .inr ⟨_, rfl, hp.1⟩⟩
              | true => exact ⟨_, by rw [cond_true], .inl ⟨_, rfl, hp.1, hp.2 hr⟩⟩
          obtain ⟨o, e4, h4⟩ := s4
          have p12 := Go.Sort.permIn_trans _ _ _ _ _ p1 p2
          rcases h4 with ⟨R, rfl, hR⟩ | ⟨D3, rfl, p3⟩
          · refine ⟨R, loop_done ?_, Go.Sort.permIn_trans _ _ _ _ _ p12 hR.1, hR.2⟩
            unfold pqStep
            simp only
            rw [w, cnd_f (by simp; omega), cnd_f (by simpa using hl0), e1, bnd_some]
            simp only
            rw [e2, bnd_some]
            simp only
            rw [e3, bnd_some]
            simp only
            rw [e4, bnd_some]
            rfl
          · have p13 := Go.Sort.permIn_trans _ _ _ _ _ p12 p3
            have z3 := p3.1
            have B3 : Below lt8 a b D3 := B2.perm (by omega) p3
            have e5 : (bif decide ((a : Int) > 0) then (bnd (elt D3.toList (IntKind.wrap .i64 ((a : Int) - 1))) fun x1 => bnd (elt D3.toList (pv : Int)) fun x2 => bnd (m_cmp_Less_uint8 x1 x2) fun r7 => some (!r7)) else (some false) : Option Bool) = some (decide (a > 0) && !lt8 D3[a - 1]! D3[pv]!) := by
              by_cases h0 : a > 0
              · rw [cnd_t (by simp; omega), wrap_i64 (by omega) (by omega), show ((a : Int) - 1) = ((a - 1 : Nat) : Int) by omega, elt_arr (by omega), bnd_some, elt_arr (by omega), bnd_some, less_eq, bnd_some]
                simp [h0]
              · rw [cnd_f (by simp; omega)]
                simp [h0]
            have hcont : ∀ (s' : List Int × Int × Int × Int × Bool × Bool), (bif (decide (a > 0) && !lt8 D3[a - 1]! D3[pv]!) then (bnd (m_slices_partitionEqualOrdered_uint8 D3.toList (a : Int) (b : Int) (pv : Int)) fun r8 => bnd (chkLen D3.toList.length r8.1) fun l6 => some (.next (r8.1, r8.2, (b : Int), L1, wb, wp))) else (bnd (m_slices_partitionOrdered_uint8 D3.toList (a : Int) (b : Int) (pv : Int)) fun r9 => bnd (chkLen D3.toList.length r9.1) fun l7 => bif decide ((IntKind.wrap .i64 (r9.2.1 - (a : Int))) < (IntKind.wrap .i64 ((b : Int) - r9.2.1))) then (bnd (rec r9.1 (a : Int) r9.2.1 L1) fun r10 => bnd (chkLen r9.1.length r10) fun l8 => some (.next (r10, IntKind.wrap .i64 (r9.2.1 + 1), (b : Int), L1, decide ((IntKind.wrap .i64 (r9.2.1 - (a : Int))) ≥ (IntKind.wrap .i64 (((b - a : Nat) : Int).tdiv 8))), r9.2.2))) else (bnd (rec r9.1 (IntKind.wrap .i64 (r9.2.1 + 1)) (b : Int) L1) fun r11 => bnd (chkLen r9.1.length r11) fun l9 => some (.next (r11, (a : Int), r9.2.1, L1, decide ((IntKind.wrap .i64 ((b : Int) - r9.2.1)) ≥ (IntKind.wrap .i64 (((b - a : Nat) : Int).tdiv 8))), r9.2.2)))) : Option (Step (List Int × Int × Int × Int × Bool × Bool) ((List Int) ⊕ Unit))) = some (.next s') → pqStep rec (d.toList, (a : Int), (b : Int), limit, wb, wp) = some (.next s') := by
              intro s' hs'
              unfold pqStep
              simp only
              rw [w, cnd_f (by simp; omega), cnd_f (by simpa using hl0), e1, bnd_some]
              simp only
              rw [e2, bnd_some]
              simp only
              rw [e3, bnd_some]
              simp only
              rw [e4, bnd_some]
              show bnd _ _ = _
              rw [e5, bnd_some]
              exact hs'
            cases hcond : (decide (a > 0) && !lt8 D3[a - 1]! D3[pv]!) with
            | true =>
              rw [hcond] at hcont
              have hc2 : a > 0 ∧ lt8 D3[a - 1]! D3[pv]! = false := by simpa using hcond
              obtain ⟨g1, g2, g3, g4, g5⟩ := Go.Sort.round_eq swo8 (Go.Sort.partitionEqual_holds lt8) hc2.1 v1 v2 (by omega) B3 hc2.2 (mid := (Go.Sort.partitionEqual lt8 D3 a b pv).1) (d4 := (Go.Sort.partitionEqual lt8 D3 a b pv).2) rfl
              obtain ⟨R, h5, h6⟩ := pq_loop hrec k _ b _ L1 wb wp (by omega) (by omega) g2 (by omega) (by omega) g4
              have h7 := g5 R h6.1 h6.2
              refine ⟨R, loop_next (hcont _ ?_) h5, Go.Sort.permIn_trans _ _ _ _ _ p13 h7.1, h7.2⟩
              rw [cond_true, partitionEqual_eq (by omega) (by omega) (by omega) (by omega), bnd_some, chk_eq (by simp; exact g3), bnd_some]
            | false =>
              rw [hcond] at hcont
              have eP := partition_eq (d := D3) (a := a) (b := b) (pivot := pv) (by omega) (by omega) (by omega) (by omega)
              obtain ⟨g1, g2, g3, g4, g5, g6, g7⟩ := Go.Sort.round_part swo8 (Go.Sort.partition_holds lt8) v1 v2 (by omega) B3 (mid := (Go.Sort.partition lt8 D3 a b pv).1) (ap := (Go.Sort.partition lt8 D3 a b pv).2.1) (d4 := (Go.Sort.partition lt8 D3 a b pv).2.2) rfl
              revert eP g1 g2 g3 g4 g5 g6 g7
              generalize Go.Sort.partition lt8 D3 a b pv = q
              intro eP g1 g2 g3 g4 g5 g6 g7
              have wl : IntKind.wrap .i64 ((q.1 : Int) - (a : Int)) = ((q.1 - a : Nat) : Int) := by rw [wrap_i64 (by omega) (by omega)]; omega
              have wr2 : IntKind.wrap .i64 ((b : Int) - (q.1 : Int)) = ((b - q.1 : Nat) : Int) := by rw [wrap_i64 (by omega) (by omega)]; omega
              by_cases hlr : q.1 - a < b - q.1
              · obtain ⟨L, l1, l2⟩ := hrec q.2.2 a q.1 L1 (by omega) g1 (by omega) (by omega) g4
                obtain ⟨m1, m2⟩ := g6 L l2.1 l2.2
                have zL := l2.1.1
                obtain ⟨R, h5, h6⟩ := pq_loop hrec k (q.1 + 1) b L L1 (decide (((q.1 - a : Nat) : Int) ≥ IntKind.wrap .i64 (((b - a : Nat) : Int).tdiv 8))) q.2.1 (by omega) (by omega) (by omega) (by omega) (by omega) m1
                have h7 := m2 R h6.1 h6.2
                refine ⟨R, loop_next (hcont _ ?_) h5, Go.Sort.permIn_trans _ _ _ _ _ p13 h7.1, h7.2⟩
                rw [cond_false, eP, bnd_some, chk_eq (by simp; exact g3), bnd_some]
                simp only
                rw [wl, wr2, cnd_t (by simp; omega), l1, bnd_some, chk_eq (by simp; omega), bnd_some, wrS (by omega)]
              · obtain ⟨L, l1, l2⟩ := hrec q.2.2 (q.1 + 1) b L1 (by omega) (by omega) (by omega) (by omega) g5
                obtain ⟨m1, m2⟩ := g7 L l2.1 l2.2
                have zL := l2.1.1
                obtain ⟨R, h5, h6⟩ := pq_loop hrec k a q.1 L L1 (decide (((b - q.1 : Nat) : Int) ≥ IntKind.wrap .i64 (((b - a : Nat) : Int).tdiv 8))) q.2.1 (by omega) (by omega) (by omega) (by omega) (by omega) m1
                have h7 := m2 R h6.1 h6.2
                refine ⟨R, loop_next (hcont _ ?_) h5, Go.Sort.permIn_trans _ _ _ _ _ p13 h7.1, h7.2⟩
                rw [cond_false, eP, bnd_some, chk_eq (by simp; exact g3), bnd_some]
                simp only
                rw [wl, wr2, cnd_f (by simp; omega), wrS (by omega), l1, bnd_some, chk_eq (by simp; omega), bnd_some]
theorem pq_good : ∀ (n : Nat), GoodRec n (m_slices_pdqsortOrdered_uint8_n n)
  | 0 => fun e a b limit h => by omega
  | n + 1 => fun e a b limit h hab hb hs hB => by
    obtain ⟨R, h1, h2⟩ := pq_loop (pq_good n) _ a b e limit true true (Nat.le_refl _) (by omega) hab hb hs hB
    refine ⟨R, ?_, h2⟩
    show m_slices_pdqsortOrdered_uint8_step (m_slices_pdqsortOrdered_uint8_n n) _ _ _ _ = _
    unfold m_slices_pdqsortOrdered_uint8_step
    unfold pqStep at h1
    rw [h1]
    rfl
theorem sort8 {l : List Int} (h : l.length ≤ 1000) : m_slices_Sort__uint8_uint8 l = some (l.mergeSort fun x y => decide (x ≤ y)) := by
  unfold m_slices_Sort__uint8_uint8
  rw [wrap_u64n (by omega), len_eq ⟨l.length, by omega⟩, bnd_some]
  obtain ⟨R, h1, h2⟩ := pq_good (l.length + 1) l.toArray 0 l.length ((bitsLen l.length : Nat) : Int) (by omega) (by omega) (by simp) (by simpa using h) (.inl rfl)
  have h3 : m_slices_pdqsortOrdered_uint8 l 0 (l.length : Int) ((bitsLen l.length : Nat) : Int) = some R.toList := h1
  have hz : R.size = l.length := by have := h2.1.1; simpa using this
  rw [h3, bnd_some, chk_eq (by simpa using hz), bnd_some]
  have h4 := Go.Sort.sorted_unique_holds (lt := lt8) swo8 (fun x y h1 h2 => by
    simp only [Go.Sort.ltInt, decide_eq_false_iff_not] at h1 h2
    omega) l.toArray R (by simpa using h2.1) (by simpa using h2.2)
  rw [h4]
  congr 1
  have e : (fun x y : Int => !lt8 y x) = fun x y => decide (x ≤ y) := by
    funext x y
    simp only [Go.Sort.ltInt]
    by_cases h : x ≤ y
    · simp [h]
    · simp [h]; omega
  rw [e]
end Go.Proofs.Ythdpagcklakahaa
end
section
namespace Go.Proofs.Ythdpagcklakahaa
open Go
set_option linter.unusedSectionVars false
set_option linter.unusedVariables false
set_option maxRecDepth 10000
def m_mapKeys (m : Option (List (Int × List Int))) : Option Unit := some ()
theorem c_mapKeys {A : Option Nat} {m : Option (List (Int × List Int))} {r : Unit} (h : m_mapKeys m = some r) :
    Fun Try.prog 65 [.map A] [.res (MapV (kint .u8) (cod eu8) A m)]
      (fun v F' => ∃ g, v = .func (.func 77) #[] #[.pointer (some ⟨g, 0, none⟩)] ∧ F' = [.res (Box g 71 [.map A]), .res (MapV (kint .u8) (cod eu8) A m)]) := by
  refine Fun.intro Try.func65 rfl rfl rfl fun w R => ?_
  refine St.seq ?_
  refine St.region ?_
  refine St.box rfl rfl fun g => ?_
  refine St.p rfl rfl ?_
  refine St.done ?_
  refine St.thenN ?_
  refine St.seq ?_
  refine St.region ?_
  iterate 2 refine St.p rfl rfl ?_
  refine St.done ?_
  refine St.thenN ?_
  refine St.ret ?_
  exact St.finR Try.results65 (.tmp rfl .nil) rfl [.res (Box g 71 [.map A]), .res (MapV (kint .u8) (cod eu8) A m)] ⟨g, rfl, rfl⟩ (fun _ w => w)
def m_sortedKeys (m : Option (List (Int × List Int))) : Option (List Int) :=
  if (m.getD []).length ≤ 1000 then some (((m.getD []).map (·.1)).mergeSort fun x y => decide (x ≤ y)) else none
theorem perm_sort {l l' : List Int} (h : l.Perm l') : (l.mergeSort fun x y => decide (x ≤ y)) = l'.mergeSort fun x y => decide (x ≤ y) := by
  have ht : ∀ (a b c : Int), decide (a ≤ b) = true → decide (b ≤ c) = true → decide (a ≤ c) = true := fun a b c h1 h2 => by simp at *; omega
  have hT : ∀ (a b : Int), (decide (a ≤ b) || decide (b ≤ a)) = true := fun a b => by simp; omega
  refine List.Perm.eq_of_pairwise (le := fun x y => decide (x ≤ y) = true) (fun a b _ _ h1 h2 => by simp at h1 h2; omega) (List.pairwise_mergeSort ht hT _) (List.pairwise_mergeSort ht hT _) ?_
  exact (List.mergeSort_perm _ _).trans (h.trans (List.mergeSort_perm _ _).symm)
theorem perm_keys {l l' : List Int} (h : (l.map (kint .u8).v).Perm (l'.map (kint .u8).v)) : l.Perm l' := by
  have e : ∀ l : List Int, (l.map (kint .u8).v).filterMap (fun v => match v with | .int _ x => some x | _ => none) = l := fun l => by
    induction l with
    | nil => rfl
    | cons x r ih => rw [List.map_cons, List.filterMap_cons]; show x :: _ = _; rw [ih]
  have := h.filterMap (fun v => match v with | .int _ x => some x | _ => none)
  rw [e, e] at this
  exact this
theorem entAppendSeq : Ent Try.prog 82 := ⟨_, Try.func82, by kernel_rfl, by kernel_rfl⟩
theorem entCollect : Ent Try.prog 75 := ⟨_, Try.func75, by kernel_rfl, by kernel_rfl⟩
theorem entSort8 : Ent Try.prog 76 := ⟨_, Try.func76, by kernel_rfl, by kernel_rfl⟩
theorem c_collect {g : Nat} {A : Option Nat} {m : Option (List (Int × List Int))} (hm : (keysOf m).length ≤ 1000) :
    Fun Try.prog 75 [.func (.func 77) #[] #[.pointer (some ⟨g, 0, none⟩)]] [.res (Box g 71 [.map A]), .res (MapV (kint .u8) (cod eu8) A m)]
      (fun v F' => ∃ B c ss, (ss.map (kint .u8).v).Perm ((keysOf m).map (kint .u8).v) ∧ v = .slice B ss.length c ∧ F' = [.res (Box g 71 [.map A]), .res (MapV (kint .u8) (cod eu8) A m), .res (OwnL eu8 5 B c ss)]) := by
  refine Fun.intro Try.func75 rfl rfl rfl fun w R => ?_
  refine St.seq ?_
  refine St.region ?_
  refine St.p rfl rfl ?_
  refine St.done ?_
  refine St.thenN ?_
  refine St.seq ?_
  refine St.region ?_
  refine St.p rfl rfl ?_
  refine St.call (c_appendSeq hm) entAppendSeq rfl rfl rfl (fun _ w => w) ?_
  rintro _ _ ⟨B, c, ss, hp, rfl, rfl⟩
  refine St.p rfl rfl ?_
  refine St.done ?_
  refine St.thenN ?_
  refine St.ret ?_
  exact St.finR Try.results75 (.tmp rfl .nil) rfl [.res (Box g 71 [.map A]), .res (MapV (kint .u8) (cod eu8) A m), .res (OwnL eu8 5 B c ss)] ⟨B, c, ss, hp, rfl, rfl⟩ (fun _ w => w)
theorem c_sortedKeys {g : Nat} {A : Option Nat} {m : Option (List (Int × List Int))} {r : List Int} (h : m_sortedKeys m = some r) :
    Fun Try.prog 64 [.func (.func 77) #[] #[.pointer (some ⟨g, 0, none⟩)]] [.res (Box g 71 [.map A]), .res (MapV (kint .u8) (cod eu8) A m)]
      (fun v F' => ∃ B c, v = .slice B r.length c ∧ F' = [.res (Box g 71 [.map A]), .res (MapV (kint .u8) (cod eu8) A m), .res (OwnL eu8 5 B c r)]) := by
  unfold m_sortedKeys at h
  split at h
  · rename_i hl
    injection h with h
    have hm : (keysOf m).length ≤ 1000 := by simpa [keysOf] using hl
    refine Fun.intro Try.func64 rfl rfl rfl fun w R => ?_
    refine St.seq ?_
    refine St.region ?_
    refine St.p rfl rfl ?_
    refine St.done ?_
    refine St.thenN ?_
    refine St.seq ?_
    refine St.region ?_
    refine St.p rfl rfl ?_
    refine St.call (c_collect hm) entCollect rfl rfl rfl (fun _ w => w) ?_
    rintro _ _ ⟨B, c, ss, hp, rfl, rfl⟩
    refine St.p rfl rfl ?_
    refine St.done ?_
    refine St.thenN ?_
    have hpk := perm_keys hp
    have hlen : ss.length ≤ 1000 := by rw [hpk.length_eq]; exact hm
    have hr : ss.mergeSort (fun x y => decide (x ≤ y)) = r := by rw [perm_sort hpk]; exact h
    have hs8 := sort8 hlen
    rw [hr] at hs8
    have hrl : ss.length = r.length := by rw [← hr]; exact ((List.mergeSort_perm _ _).length_eq).symm
    refine St.seq ?_
    refine St.region ?_
    refine St.p rfl rfl ?_
    refine St.call (R := .res (Box g 71 [.map A]) :: .res (MapV (kint .u8) (cod eu8) A m) :: R) (c_slices_Sort__uint8_uint8 hs8) entSort8 rfl rfl rfl (fun _ w => w.front (.s (.s .z))) ?_
    rintro _ _ ⟨rfl, rfl⟩
    refine St.done ?_
    refine St.thenN ?_
    refine St.seq ?_
    refine St.region ?_
    iterate 2 refine St.p rfl rfl ?_
    refine St.done ?_
    refine St.thenN ?_
    refine St.ret ?_
    exact St.finR Try.results64 (.tmp rfl .nil) rfl [.res (Box g 71 [.map A]), .res (MapV (kint .u8) (cod eu8) A m), .res (OwnL eu8 5 B c r)] ⟨B, c, by rw [hrl], rfl⟩ (fun _ w => (w.front (.s (.s .z))).front (.s (.s .z)))
  · cases h
end Go.Proofs.Ythdpagcklakahaa
end
section
namespace Go.Proofs.Ythdpagcklakahaa
open Go
set_option linter.unusedVariables false
set_option maxRecDepth 4000
structure T_Device where
  size : Int
  bytes : (List Int)
  wear : (List Int)
  steps : Int
  left : Int
  torn : Int
  down : Bool
abbrev bx_T_Device (x : T_Device) (A1 : Option Addr) (c1 : Nat) (A2 : Option Addr) (c2 : Nat) : List Value := [.int .i64 x.size, .slice A1 x.bytes.length c1, .slice A2 x.wear.length c2, .int .i64 x.steps, .int .i64 x.left, .int .u8 x.torn, .bool x.down]
structure T_settings_Store where
  d : Bool
  first : Int
  active : Int
  generation : Int
  all : (Option (List (Int × (List Int))))
  tail : Int
  clean : Bool
  ended : Bool
structure T_sector where
  generation : Int
  all : (Option (List (Int × (List Int))))
  tail : Int
  clean : Bool
structure T_Setting where
  Key : Int
  Value : (List Int)
  Delete : Bool
def l_T_Setting : List (LC T_Setting) := [.v (fun x => .int .u8 x.Key) (fun _ => rfl), .s (cod eu8) (fun x => x.Value), .v (fun x => .bool x.Delete) (fun _ => rfl)]
abbrev bx_T_sector (x : T_sector) (M1 : Option Nat) : List Value := [.int .i64 x.generation, .map M1, .int .i64 x.tail, .bool x.clean]
abbrev bx_T_settings_Store (x : T_settings_Store) (g1 : Nat) (M2 : Option Nat) : List Value := [.pointer (optA x.d g1), .int .i64 x.first, .int .i64 x.active, .int .i64 x.generation, .map M2, .int .i64 x.tail, .bool x.clean, .bool x.ended]
structure T_Dice where
  L : (List Int)
  At : Int
structure Arr8 (α : Type) where
  e0 : α
  e1 : α
  e2 : α
  e3 : α
  e4 : α
  e5 : α
  e6 : α
  e7 : α
def Arr8.set {α : Type} (a : Arr8 α) (q : Int) (y : α) : Option (Arr8 α) := match setE [a.e0, a.e1, a.e2, a.e3, a.e4, a.e5, a.e6, a.e7] q y with | some [x0, x1, x2, x3, x4, x5, x6, x7] => some ⟨x0, x1, x2, x3, x4, x5, x6, x7⟩ | _ => none
def l_sl_i64 : List (LC (List Int)) := [.s (cod ei64) (fun x => x)]
def l_i64 : List (LC Int) := [.v (fun x => .int .i64 x) (fun _ => rfl)]
def l_u8 : List (LC Int) := [.v (fun x => .int .u8 x) (fun _ => rfl)]
structure T_ref06_Store where
  F_ : Bool
  First : Int
  Active : Int
  Gen : Int
  Keys : (List T_Setting)
  Tail : Int
  Ended : Bool
theorem ent9 : Ent Try.prog 9 := ⟨_, Try.func9, by kernel_rfl, by kernel_rfl⟩
noncomputable def m_made_Light (l_p0 : (List Int)) : Option Bool :=
  some (decide ((l_p0.length : Int) ≤ 600))
theorem c_made_Light {l_p0 : (List Int)} {A1 : Option Addr} {c1 : Nat} {r : Bool} (h : m_made_Light l_p0 = some r) :
    Fun Try.prog 9 [.slice A1 l_p0.length c1] [.ro (SlL ei64 A1 c1 l_p0)] (Val (.bool r)) := by
 unfold m_made_Light at h
 refine Fun.intro Try.func9 rfl rfl rfl fun w R => ?_;refine .ab [0] rfl ?_;refine .abf [2] [] 1 rfl rfl ?_;cases h;exact .rt rfl Try.results9 (.tmp rfl .nil) rfl ⟨rfl, rfl⟩ (fun _ w => w)
theorem ent86 : Ent Try.prog 86 := ⟨_, Try.func86, by kernel_rfl, by kernel_rfl⟩
noncomputable def m_math_bits_Mul64 (x_p0 : Int) (y_p1 : Int) : Option (Int × Int) :=
  some (IntKind.wrap .u64 ((IntKind.wrap .u64 ((IntKind.wrap .u64 ((iShr .u64 x_p0 32) * (iShr .u64 y_p1 32))) + (iShr .u64 (IntKind.wrap .u64 ((IntKind.wrap .u64 ((iShr .u64 x_p0 32) * (iAnd .u64 y_p1 4294967295))) + (iShr .u64 (IntKind.wrap .u64 ((iAnd .u64 x_p0 4294967295) * (iAnd .u64 y_p1 4294967295))) 32))) 32))) + (iShr .u64 (IntKind.wrap .u64 ((iAnd .u64 (IntKind.wrap .u64 ((IntKind.wrap .u64 ((iShr .u64 x_p0 32) * (iAnd .u64 y_p1 4294967295))) + (iShr .u64 (IntKind.wrap .u64 ((iAnd .u64 x_p0 4294967295) * (iAnd .u64 y_p1 4294967295))) 32))) 4294967295) + (IntKind.wrap .u64 ((iAnd .u64 x_p0 4294967295) * (iShr .u64 y_p1 32))))) 32)), IntKind.wrap .u64 (x_p0 * y_p1))
theorem c_math_bits_Mul64 {x_p0 : Int} {y_p1 : Int} {r : (Int × Int)} (h : m_math_bits_Mul64 x_p0 y_p1 = some r) :
    Fun Try.prog 86 [.int .u64 x_p0, .int .u64 y_p1] [] (Val (.tuple #[.int .u64 r.1, .int .u64 r.2])) := by
 unfold m_math_bits_Mul64 at h
 refine Fun.intro Try.func86 rfl rfl rfl fun w R => ?_;refine .ab [0,1] rfl ?_;refine .ab [0,1,6] rfl ?_;refine .ab [0,1,6,7] rfl ?_;refine .ab [0,1,6,7,8] rfl ?_;refine .ab [0,1,6,7,8,9] rfl ?_;refine .ab [0,1,6,7,8,9,10] rfl ?_;refine .ab [0,1,6,7,9,11] rfl ?_;refine .ab [0,1,6,7,9,11,12] rfl ?_;refine .ab [0,1,6,7,9,12,13] rfl ?_;refine .ab [0,1,7,9,12,13] rfl ?_;refine .ab [0,1,4] rfl ?_
 refine .ab [4,5] rfl ?_;cases h;exact .rt rfl Try.results86 (.tmp rfl (.tmp rfl .nil)) rfl ⟨rfl, rfl⟩ (fun _ w => w)
theorem ent79 : Ent Try.prog 79 := ⟨_, Try.func79, by kernel_rfl, by kernel_rfl⟩
noncomputable def m_math_bits_Mul (x_p0 : Int) (y_p1 : Int) : Option (Int × Int) :=
  bnd (m_math_bits_Mul64 x_p0 y_p1) fun r1 => some (r1.1, r1.2)
theorem c_math_bits_Mul {x_p0 : Int} {y_p1 : Int} {r : (Int × Int)} (h : m_math_bits_Mul x_p0 y_p1 = some r) :
    Fun Try.prog 79 [.int .u64 x_p0, .int .u64 y_p1] [] (Val (.tuple #[.int .u64 r.1, .int .u64 r.2])) := by
 unfold m_math_bits_Mul at h
 refine Fun.intro Try.func79 rfl rfl rfl fun w R => ?_;refine .ab [0,1] rfl ?_;refine .seq ?_;refine .condF rfl ?_;refine .sk ?_;refine .a 2 rfl ?_;obtain ⟨r1, hr1, h⟩ := bnd_e h;refine .callV (c_math_bits_Mul64 hr1) ent86 rfl rfl rfl rfl trivial ?_;refine .b [8,9] rfl ?_;refine .ab [4,5] rfl ?_;cases h;exact .rt rfl Try.results79 (.tmp rfl (.tmp rfl .nil)) rfl ⟨rfl, rfl⟩ (fun _ w => w)
theorem ent69 : Ent Try.prog 69 := ⟨_, Try.func69, by kernel_rfl, by kernel_rfl⟩
noncomputable def m_slices_Repeat__byte_byte (x_p0 : (List Int)) (count : Int) : Option (List Int) :=
  bif decide (count < 0) then (none) else (bnd (m_math_bits_Mul (IntKind.wrap .u64 (x_p0.length : Int)) (IntKind.wrap .u64 count)) fun r1 => bnd ((bif decide (r1.1 > 0) then (some true) else (some (decide (r1.2 > 9223372036854775807))) : Option Bool)) fun o1 => bif o1 then (none) else (bnd (mkS 1 0 (IntKind.wrap .i64 r1.2) (IntKind.wrap .i64 r1.2)) fun l1 => bnd (copyM l1 0 l1.length x_p0) fun l2 => bnd (loopM (τ := List Int) (fun (s1 : Int × List Int) => bif decide (s1.1 < (s1.2.length : Int)) then (bnd (partM s1.2.length s1.1 (s1.2.length : Int)) fun n1 => bnd (partM s1.2.length 0 s1.1) fun n2 => bnd (sub s1.2 ((Int.toNat 0 : Nat) : Int) (((Int.toNat 0) + n2 : Nat) : Int)) fun l3 => bnd (copyM s1.2 (Int.toNat s1.1) n1 l3) fun l4 => some (.next (IntKind.wrap .i64 (s1.1 + ((min l3.length n1 : Nat) : Int)), l4))) else (some (.done s1.2))) (((min x_p0.length l1.length : Nat) : Int), l2)) fun o2 => some o2))
theorem c_slices_Repeat__byte_byte {x_p0 : (List Int)} {count : Int} {A1 : Option Addr} {c1 : Nat} {r : (List Int)} (h : m_slices_Repeat__byte_byte x_p0 count = some r) :
    Fun Try.prog 69 [.slice A1 x_p0.length c1, .int .i64 count] [.ro (SlL eu8 A1 c1 x_p0)] (fun v_ F_ => ∃ (A2 : Option Addr) (c2 : Nat), v_ = .slice A2 r.length c2 ∧ F_ = [.res (OwnL eu8 5 A2 c2 r)]) := by
 unfold m_slices_Repeat__byte_byte at h
 refine Fun.intro Try.func69 rfl rfl rfl fun w R => ?_;refine .ab [0,1] rfl ?_;refine .seq ?_;refine .ab [0,1,10] rfl ?_;refine .cb h rfl (fun h => ?_) (fun h => ?_)
 ·refine .region ?_;cases h
 refine .sk ?_;refine .pr [0,1] rfl ?_;refine .a 5 rfl ?_;obtain ⟨r1, hr1, h⟩ := bnd_e h;refine .callV (c_math_bits_Mul hr1) ent79 rfl rfl rfl rfl trivial ?_;refine .b [0,5,6] rfl ?_;refine .seq ?_;refine .seq ?_;obtain ⟨o1, hj1, h⟩ := bnd_e h;refine .cutE (fun (e1 : Unit) => [(0, .slice A1 x_p0.length c1), (6, .int .u64 r1.2), (26, .bool o1)]) (fun e1 => .ro (SlL eu8 A1 c1 x_p0) :: R) ?_ ?_
 ·refine .region ?_;refine .n 3 rfl ?_;refine .gSplit (dj := 23) _ rfl (fun hb2 => ?_) (fun hb2 => ?_)
  ·replace hj1 := bif_t hb2 hj1;cases hj1;refine .be rfl ?_;exact .hereE () (zb rfl) (fun _ w => w)
  replace hj1 := bif_f hb2 hj1;cases hj1;refine .be rfl ?_;exact .hereE () (zb rfl) (fun _ w => w)
 rintro e1;refine .cb h rfl (fun h => ?_) (fun h => ?_)
 ·refine .region ?_;cases h
 refine .sk ?_;refine .pr [0,6] rfl ?_;refine .a 2 rfl ?_;obtain ⟨l1, hl1, h⟩ := bnd_e h;refine .mkL (E := eu8) 0 hl1 rfl rfl rfl rfl rfl rfl rfl rfl rfl rfl fun g1 => ?_;refine .b [0,7] rfl ?_;refine .a 2 rfl ?_;obtain ⟨l2, hl2, h⟩ := bnd_e h;refine .copyW (E := eu8) hl2 rfl rfl rfl rfl rfl .z (csrc_sl (.tail _ (.head _))) rfl rfl rfl rfl ?_;refine .ss 7 (copyM_sl hl2) ?_
 refine .ss 31 (copyM_sl hl2) ?_;refine .bf [7,8] [0] 1 rfl rfl ?_;refine .seq ?_;obtain ⟨o2, hl1, h⟩ := bnd_e h;refine .cutE (fun (e3 : Option Addr × Nat) => [(7, .slice e3.1 o2.length e3.2)]) (fun e3 => .res (OwnL eu8 5 e3.1 e3.2 o2) :: R) ?_ ?_
 ·refine .block ?_;refine .loop hl1 (fun (s1 : Int × List Int) (e2 : Option Addr × Nat) => [(7, .slice e2.1 s1.2.length e2.2), (8, .int .i64 s1.1)]) (fun s1 e2 => .res (OwnL eu8 5 e2.1 e2.2 s1.2) :: R) (fun _ _ => True) ((some ⟨g1, 0, none⟩), (Int.toNat (IntKind.wrap .i64 r1.2))) trivial (zb rfl) (fun _ w => w) ?_;rintro s1 ⟨A2, c2⟩ - hit1;obtain ⟨st1, hm1, hd1⟩ := iter_e hit1;have h1 := hm1
  refine .seq ?_;refine .ab [7,8,37] rfl ?_;refine .cb h1 rfl (fun h1 => ?_) (fun h1 => ?_)
  ·refine .sk ?_;refine .pr [7,8] rfl ?_;refine .block ?_;obtain ⟨n1, hn1, h1⟩ := bnd_e h1;obtain ⟨n2, hn2, h1⟩ := bnd_e h1;obtain ⟨l3, hl3, h1⟩ := bnd_e h1;obtain ⟨l4, hl4, h1⟩ := bnd_e h1
   refine .regionX (iL [(.fl, 0), (.fl, 1), (.fl, 2), (.fl, 4), (.fl, 5)] (.alt (iL [(.ef, 3)] (iL [(.ef, 6)] (iL [(.ef, 7), (.fl, 8), (.fl, 9)] .nil))) (iL [(.ef, 6)] (iL [(.ef, 3)] (iL [(.ef, 7), (.fl, 8), (.fl, 9)] .nil))))) (R) mixed (by kernel_rfl) (zl [] 1 rfl) ?_
   refine .share (Y := ?Ynd1_0) (fun (e : Unit) => [(7, .slice A2 s1.2.length c2), (8, .int .i64 s1.1), (38, .int .i64 s1.1), (39, .slice A2 s1.2.length c2), (40, .int .i64 s1.1), (41, .slice (partA A2 c2 (Int.toNat s1.1) 1) n1 (c2 - (Int.toNat s1.1))), (42, .slice A2 s1.2.length c2), (43, .int .i64 s1.1), (44, .slice (partA A2 c2 (Int.toNat 0) 1) n2 (c2 - (Int.toNat 0)))]) (fun e => .res (OwnL eu8 5 A2 c2 s1.2) :: R) (fun hnd1_0 => ?mnd1_0) ?tnd1_0
   case mnd1_0 =>
    refine .xn 5 rfl ?_;refine .xalt ?_ ?_
    ·refine .xef ?_;refine .part (E := eu8) hn1 rfl rfl (.head _) rfl rfl rfl rfl rfl rfl rfl ?_;refine .xk (zl [] 1 rfl) ?_;refine .xef ?_;refine .part (E := eu8) hn2 rfl rfl (.head _) rfl rfl rfl rfl rfl rfl rfl ?_;refine .xk (zl [] 1 rfl) ?_;refine hnd1_0 _ _ () ?_ ?_
     ·exact ⟨rfl, rfl, rfl, rfl, rfl, rfl, rfl, rfl, rfl, trivial⟩
     exact fun _ w => w
    refine .xef ?_;refine .part (E := eu8) hn2 rfl rfl (.head _) rfl rfl rfl rfl rfl rfl rfl ?_;refine .xk (zl [] 1 rfl) ?_;refine .xef ?_;refine .part (E := eu8) hn1 rfl rfl (.head _) rfl rfl rfl rfl rfl rfl rfl ?_;refine .xk (zl [] 1 rfl) ?_;refine hnd1_0 _ _ () ?_ ?_
    ·exact ⟨rfl, rfl, rfl, rfl, rfl, rfl, rfl, rfl, rfl, trivial⟩
    exact fun _ w => w
   case tnd1_0 =>
    rintro ⟨⟩;refine .nm 1 rfl ?_;refine .xef ?_;refine .copyP (E := eu8) partOk0 hl4 rfl rfl rfl (part_n hl3) .z (csrc_part (E := eu8) partOk0 hl3 (.head _)) rfl rfl rfl rfl ?_;refine .ss 7 (copyM_sl hl4) ?_;refine .ss 39 (copyM_sl hl4) ?_;refine .ss 42 (copyM_sl hl4) ?_;refine .xk (zl [] 1 rfl) ?_;refine .xn 2 rfl ?_;refine .xdone ?_;refine .blkN ?_;cases h1;refine .thenN ?_
    exact .again _ (A2, c2) hm1 trivial (zb rfl) (fun _ w => w)
  refine .exit ?_;repeat (first | refine .thenX ?_ | refine .blkMiss rfl ?_)
  refine .blkHit ?_;cases h1;have ho := hd1 _ rfl;subst ho;refine .thenN ?_;exact .hereE (A2, c2) (zb rfl) (fun _ w => w)
 rintro ⟨A3, c3⟩;refine .ab [4] rfl ?_;cases h;exact .rt rfl Try.results69 (.tmp rfl .nil) rfl ⟨A3, c3, rfl, rfl⟩ (fun _ w => w)
theorem ent52 : Ent Try.prog 52 := ⟨_, Try.func52, by kernel_rfl, by kernel_rfl⟩
noncomputable def m_flash_New (sectors : Int) (size : Int) : Option ((Option T_Device) × Int) :=
  bnd ((bif decide (sectors < 1) then (some true) else (bif decide (sectors > 16) then (some true) else (bif decide (size < 64) then (some true) else (some (decide (size > 1024))))) : Option Bool)) fun o1 => bif o1 then (some (none, 2)) else (bnd (m_slices_Repeat__byte_byte ([255]) (IntKind.wrap .i64 (sectors * size))) fun r1 => bnd (mkS 8 0 sectors sectors) fun l1 => some ((some (⟨size, r1, l1, 0, 0, 0, false⟩ : T_Device)), 0))
theorem c_flash_New {sectors : Int} {size : Int} {r : ((Option T_Device) × Int)} (h : m_flash_New sectors size = some r) :
    Fun Try.prog 52 [.int .i64 sectors, .int .i64 size] [] (optP r.1 (fun v_ F_ => v_ = .tuple #[.pointer none, .int .i64 r.2] ∧ F_ = []) (fun q_ v_ F_ => ∃ (g1 : Nat) (A1 : Option Addr) (c1 : Nat) (A2 : Option Addr) (c2 : Nat), v_ = .tuple #[.pointer (some ⟨g1, 0, none⟩), .int .i64 r.2] ∧ F_ = [.res (Box g1 80 (bx_T_Device q_ A1 c1 A2 c2)), .res (OwnL eu8 5 A1 c1 q_.bytes), .res (OwnL ei64 3 A2 c2 q_.wear)])) := by
 unfold m_flash_New at h
 refine Fun.intro Try.func52 rfl rfl rfl fun w R => ?_;refine .ab [0,1] rfl ?_;refine .seq ?_;refine .seq ?_;obtain ⟨o1, hj1, h⟩ := bnd_e h;refine .cutE (fun (e1 : Unit) => [(0, .int .i64 sectors), (1, .int .i64 size), (19, .bool o1)]) (fun e1 => R) ?_ ?_
 ·refine .region ?_;refine .n 3 rfl ?_;refine .gSplit (dj := 8) _ rfl (fun hb1 => ?_) (fun hb1 => ?_)
  ·replace hj1 := bif_t hb1 hj1;cases hj1;refine .be rfl ?_;exact .hereE () (zb rfl) (fun _ w => w)
  replace hj1 := bif_f hb1 hj1;refine .n 4 rfl ?_;refine .gSplit (dj := 12) _ rfl (fun hb2 => ?_) (fun hb2 => ?_)
  ·replace hj1 := bif_t hb2 hj1;cases hj1;refine .be rfl ?_;exact .hereE () (zb rfl) (fun _ w => w)
  replace hj1 := bif_f hb2 hj1;refine .n 4 rfl ?_;refine .gSplit (dj := 16) _ rfl (fun hb3 => ?_) (fun hb3 => ?_)
  ·replace hj1 := bif_t hb3 hj1;cases hj1;refine .be rfl ?_;exact .hereE () (zb rfl) (fun _ w => w)
  replace hj1 := bif_f hb3 hj1;cases hj1;refine .be rfl ?_;exact .hereE () (zb rfl) (fun _ w => w)
 rintro e1;refine .cb h rfl (fun h => ?_) (fun h => ?_)
 ·refine .ab [4,5] rfl ?_;cases h;exact .rt rfl Try.results52 (.tmp rfl (.tmp rfl .nil)) rfl (optP_mkn ⟨rfl, rfl⟩) (fun _ w => w)
 refine .sk ?_;refine .pr [0,1] rfl ?_;refine .seq ?_;obtain ⟨r1, hr1, h⟩ := bnd_e h;obtain ⟨l1, hl1, h⟩ := bnd_e h
 refine .regionX (iL [(.fl, 0), (.fl, 2), (.fl, 3), (.fl, 4), (.fl, 6)] (.alt (iL [(.ef, 1)] (.alt (iL [(.ef, 5)] (iL [(.ef, 7), (.fl, 8)] (iL [(.ef, 9), (.fl, 10), (.fl, 11)] .nil))) (iL [(.ef, 7)] (iL [(.ef, 5), (.fl, 8)] (iL [(.ef, 9), (.fl, 10), (.fl, 11)] .nil))))) (iL [(.ef, 7)] (iL [(.ef, 1)] (iL [(.ef, 5), (.fl, 8)] (iL [(.ef, 9), (.fl, 10), (.fl, 11)] .nil)))))) (R) mixed (by kernel_rfl) (fun _ w => w) ?_
 refine .share (Y := ?Ynd1_0) (fun (e : Nat × Option Addr × Nat × Nat) => [(0, .int .i64 sectors), (1, .int .i64 size), (20, .int .i64 size), (21, .slice (some ⟨e.1, 0, none⟩) ([255]).length ([255] : List Int).length), (22, .int .i64 sectors), (23, .int .i64 size), (24, .int .i64 (IntKind.wrap .i64 (sectors * size))), (25, .slice e.2.1 r1.length e.2.2.1), (26, .int .i64 sectors), (27, .slice (some ⟨e.2.2.2, 0, none⟩) l1.length (Int.toNat sectors)), (28, .agg #[.int .i64 size, .slice e.2.1 r1.length e.2.2.1, .slice (some ⟨e.2.2.2, 0, none⟩) l1.length (Int.toNat sectors), .int .i64 0, .int .i64 0, .int .u8 0, .bool false])]) (fun e => .res (OwnL ei64 3 (some ⟨e.2.2.2, 0, none⟩) (Int.toNat sectors) l1) :: .res (OwnL eu8 5 e.2.1 e.2.2.1 r1) :: .ro (SlL eu8 (some ⟨e.1, 0, none⟩) ([255] : List Int).length ([255])) :: R) (fun hnd1_0 => ?mnd1_0) ?tnd1_0
 case mnd1_0 =>
  refine .share (Y := ?Ynd1_1) (fun (e : Nat × Nat) => [(0, .int .i64 sectors), (1, .int .i64 size), (20, .int .i64 size), (21, .slice (some ⟨e.1, 0, none⟩) 1 1), (22, .int .i64 sectors), (23, .int .i64 size), (24, .int .i64 (IntKind.wrap .i64 (sectors * size))), (26, .int .i64 sectors), (27, .slice (some ⟨e.2, 0, none⟩) l1.length (Int.toNat sectors))]) (fun e => .res (OwnL ei64 3 (some ⟨e.2, 0, none⟩) (Int.toNat sectors) l1) :: .res (Box e.1 5 [.int .u8 255]) :: R) (fun hnd1_1 => ?mnd1_1) ?tnd1_1
  case mnd1_1 =>
   refine .xn 5 rfl ?_;refine .xalt ?_ ?_
   ·refine .xef ?_;refine .buildSlice rfl rfl rfl rfl rfl rfl rfl rfl fun g1 => ?_;refine .xk (zl [] 1 rfl) ?_;refine .xalt ?_ ?_
    ·refine .xef ?_;refine .asrt (fun _ w => w.litL (E := eu8) (e := 5) [255] rfl rfl) ?_;refine .asrt (fun _ w => w.meltL) ?_;refine .call (c_slices_Repeat__byte_byte hr1) ent69 rfl rfl rfl (zd [0] [] 0 rfl) ?_;rintro _ _ ⟨A1, c1, rfl, rfl⟩;refine .nm 2 rfl ?_;refine .xk (zl [] 2 rfl) ?_;refine .xef ?_;refine .mkL (E := ei64) 0 hl1 rfl rfl rfl rfl rfl rfl rfl rfl rfl rfl fun g2 => ?_
     refine .xk (zl [] 3 rfl) ?_;refine .xfl (fun _ h => h) (Rd.p rfl) rfl ?_;refine hnd1_0 _ _ (g1, A1, c1, g2) ?_ ?_
     ·exact ⟨rfl, rfl, rfl, rfl, rfl, rfl, rfl, rfl, rfl, rfl, rfl, trivial⟩
     exact fun _ w => w
    refine .xef ?_;refine .mkL (E := ei64) 0 hl1 rfl rfl rfl rfl rfl rfl rfl rfl rfl rfl fun g2 => ?_;refine .xk (zl [] 2 rfl) ?_;refine hnd1_1 _ _ (g1, g2) ?_ ?_
    ·exact ⟨rfl, rfl, rfl, rfl, rfl, rfl, rfl, rfl, rfl, trivial⟩
    exact fun _ w => w
   refine .xef ?_;refine .mkL (E := ei64) 0 hl1 rfl rfl rfl rfl rfl rfl rfl rfl rfl rfl fun g2 => ?_;refine .xk (zl [] 1 rfl) ?_;refine .xef ?_;refine .buildSlice rfl rfl rfl rfl rfl rfl rfl rfl fun g1 => ?_;refine .xk (zl [] 2 rfl) ?_;refine hnd1_1 _ _ (g1, g2) ?_ ?_
   ·exact ⟨rfl, rfl, rfl, rfl, rfl, rfl, rfl, rfl, rfl, trivial⟩
   exact fun _ w => (w.sl [1] 0 rfl)
  case tnd1_1 =>
   rintro ⟨g1, g2⟩;refine .nm 2 rfl ?_;refine .xef ?_;refine .asrt (fun _ w => (w.sl [1] 0 rfl).litL (E := eu8) (e := 5) [255] rfl rfl) ?_;refine .asrt (fun _ w => w.meltL) ?_;refine .call (c_slices_Repeat__byte_byte hr1) ent69 rfl rfl rfl (zd [0] [] 0 rfl) ?_;rintro _ _ ⟨A1, c1, rfl, rfl⟩;refine .nm 3 rfl ?_;refine .xk (zl [] 3 rfl) ?_;refine .xfl (fun _ h => h) (Rd.p rfl) rfl ?_
   refine hnd1_0 _ _ (g1, A1, c1, g2) ?_ ?_
   ·exact ⟨rfl, rfl, rfl, rfl, rfl, rfl, rfl, rfl, rfl, rfl, rfl, trivial⟩
   exact fun _ w => (w.sl [2] 0 rfl)
 case tnd1_0 =>
  rintro ⟨g1, A1, c1, g2⟩;refine .nm 3 rfl ?_;refine .xef ?_;refine .box rfl rfl fun g3 => ?_;refine .xk (zl [] 4 rfl) ?_;refine .xn 2 rfl ?_;refine .xdone ?_;refine .thenN ?_;refine .pf [4,5] [0,0,0] 1 rfl rfl ?_;cases h;exact .rt rfl Try.results52 (.tmp rfl (.tmp rfl .nil)) rfl (optP_mks ⟨g3, A1, c1, (some ⟨g2, 0, none⟩), (Int.toNat sectors), rfl, rfl⟩) (zl [0,1] 0 rfl)
theorem ent28 : Ent Try.prog 28 := ⟨_, Try.func28, by kernel_rfl, by kernel_rfl⟩
noncomputable def m_law06_device  : Option (Option T_Device) :=
  bnd (m_flash_New 3 1024) fun r1 => optM r1.1 (bif (r1.2 != 0) then (some none) else (some none)) (fun q1 => bif (r1.2 != 0) then (some none) else (some (some q1)))
theorem c_law06_device  {r : (Option T_Device)} (h : m_law06_device = some r) :
    Fun Try.prog 28 [] [] (optP r (fun v_ F_ => v_ = .pointer none ∧ F_ = []) (fun q_ v_ F_ => ∃ (g1 : Nat) (A1 : Option Addr) (c1 : Nat) (A2 : Option Addr) (c2 : Nat), v_ = .pointer (some ⟨g1, 0, none⟩) ∧ F_ = [.res (Box g1 80 (bx_T_Device q_ A1 c1 A2 c2)), .res (OwnL eu8 5 A1 c1 q_.bytes), .res (OwnL ei64 3 A2 c2 q_.wear)])) := by
 unfold m_law06_device at h
 refine Fun.intro Try.func28 rfl rfl rfl fun w R => ?_;refine .ab [] rfl ?_;refine .seq ?_;refine .region ?_;obtain ⟨r1, hr1, h⟩ := bnd_e h;refine .call (c_flash_New hr1) ent52 rfl rfl rfl (fun _ w => w) ?_
 intro v_ F_ hp_
 rcases hq1 : r1.1 with _ | q1
 ·replace hp_ := optP_n hq1 hp_;replace h := optM_n hq1 h;obtain ⟨rfl, rfl⟩ := hp_;refine .nm 0 rfl ?_;refine .b [1,2] rfl ?_;refine .seq ?_;refine .ab [1,8] rfl ?_;refine .cb h rfl (fun h => ?_) (fun h => ?_)
  ·refine .ab [0] rfl ?_;cases h;exact .rt rfl Try.results28 (.tmp rfl .nil) rfl (optP_mkn ⟨rfl, rfl⟩) (fun _ w => w)
  refine .sk ?_;refine .pr [1] rfl ?_;refine .ab [0] rfl ?_;cases h;exact .rt rfl Try.results28 (.tmp rfl .nil) rfl (optP_mkn ⟨rfl, rfl⟩) (fun _ w => w)
 replace hp_ := optP_s hq1 hp_;replace h := optM_s hq1 h;obtain ⟨g1, A1, c1, A2, c2, rfl, rfl⟩ := hp_;refine .nm 3 rfl ?_;refine .b [1,2] rfl ?_;refine .seq ?_;refine .ab [1,8] rfl ?_;refine .cb h rfl (fun h => ?_) (fun h => ?_)
 ·refine .abf [0] [] 3 rfl rfl ?_;cases h;exact .rt rfl Try.results28 (.tmp rfl .nil) rfl (optP_mkn ⟨rfl, rfl⟩) (fun _ w => w)
 refine .sk ?_;refine .pr [1] rfl ?_;refine .ab [0] rfl ?_;cases h;exact .rt rfl Try.results28 (.tmp rfl .nil) rfl (optP_mks ⟨g1, A1, c1, A2, c2, rfl, rfl⟩) (fun _ w => w)
theorem ent40 : Ent Try.prog 40 := ⟨_, Try.func40, by kernel_rfl, by kernel_rfl⟩
noncomputable def m_flash_Device_Sectors (d_p0 : T_Device) : Option Int :=
  some (d_p0.wear.length : Int)
theorem c_flash_Device_Sectors {d_p0 : T_Device} {A1 : Option Addr} {c1 : Nat} {A2 : Option Addr} {c2 : Nat} {gb1 : Nat} {r : Int} (h : m_flash_Device_Sectors d_p0 = some r) :
    Fun Try.prog 40 [.pointer (some ⟨gb1, 0, none⟩)] [.res (Box gb1 80 (bx_T_Device d_p0 A1 c1 A2 c2)), .res (OwnL eu8 5 A1 c1 d_p0.bytes), .res (OwnL ei64 3 A2 c2 d_p0.wear)] (fun v_ F_ => v_ = .int .i64 r ∧ F_ = [.res (Box gb1 80 (bx_T_Device d_p0 A1 c1 A2 c2)), .res (OwnL eu8 5 A1 c1 d_p0.bytes), .res (OwnL ei64 3 A2 c2 d_p0.wear)]) := by
 unfold m_flash_Device_Sectors at h
 refine Fun.intro Try.func40 rfl rfl rfl fun w R => ?_;refine .ab [0] rfl ?_;refine .a 3 rfl ?_;refine .loadB 2 rfl rfl (.head _) rfl rfl ?_;refine .b [2] rfl ?_;cases h;exact .rt rfl Try.results40 (.tmp rfl .nil) rfl ⟨rfl, rfl⟩ (fun _ w => w)
theorem ent41 : Ent Try.prog 41 := ⟨_, Try.func41, by kernel_rfl, by kernel_rfl⟩
noncomputable def m_flash_Device_Size (d_p0 : T_Device) : Option Int :=
  some d_p0.size
theorem c_flash_Device_Size {d_p0 : T_Device} {A1 : Option Addr} {c1 : Nat} {A2 : Option Addr} {c2 : Nat} {gb1 : Nat} {r : Int} (h : m_flash_Device_Size d_p0 = some r) :
    Fun Try.prog 41 [.pointer (some ⟨gb1, 0, none⟩)] [.res (Box gb1 80 (bx_T_Device d_p0 A1 c1 A2 c2)), .res (OwnL eu8 5 A1 c1 d_p0.bytes), .res (OwnL ei64 3 A2 c2 d_p0.wear)] (fun v_ F_ => v_ = .int .i64 r ∧ F_ = [.res (Box gb1 80 (bx_T_Device d_p0 A1 c1 A2 c2)), .res (OwnL eu8 5 A1 c1 d_p0.bytes), .res (OwnL ei64 3 A2 c2 d_p0.wear)]) := by
 unfold m_flash_Device_Size at h
 refine Fun.intro Try.func41 rfl rfl rfl fun w R => ?_;refine .ab [0] rfl ?_;refine .a 3 rfl ?_;refine .loadB 0 rfl rfl (.head _) rfl rfl ?_;refine .b [2] rfl ?_;cases h;exact .rt rfl Try.results41 (.tmp rfl .nil) rfl ⟨rfl, rfl⟩ (fun _ w => w)
theorem ent58 : Ent Try.prog 58 := ⟨_, Try.func58, by kernel_rfl, by kernel_rfl⟩
noncomputable def m_flash_Device_within (d_p0 : T_Device) (at_p1 : Int) (n_p2 : Int) : Option Bool :=
  bnd ((bif decide (at_p1 ≥ 0) then (bif decide (at_p1 ≤ (d_p0.bytes.length : Int)) then (bif decide (n_p2 ≥ 0) then (some (decide (n_p2 ≤ (IntKind.wrap .i64 ((d_p0.bytes.length : Int) - at_p1))))) else (some false)) else (some false)) else (some false) : Option Bool)) fun o1 => some o1
theorem c_flash_Device_within {d_p0 : T_Device} {at_p1 : Int} {n_p2 : Int} {A1 : Option Addr} {c1 : Nat} {A2 : Option Addr} {c2 : Nat} {gb1 : Nat} {r : Bool} (h : m_flash_Device_within d_p0 at_p1 n_p2 = some r) :
    Fun Try.prog 58 [.pointer (some ⟨gb1, 0, none⟩), .int .i64 at_p1, .int .i64 n_p2] [.res (Box gb1 80 (bx_T_Device d_p0 A1 c1 A2 c2)), .res (OwnL eu8 5 A1 c1 d_p0.bytes), .res (OwnL ei64 3 A2 c2 d_p0.wear)] (fun v_ F_ => v_ = .bool r ∧ F_ = [.res (Box gb1 80 (bx_T_Device d_p0 A1 c1 A2 c2)), .res (OwnL eu8 5 A1 c1 d_p0.bytes), .res (OwnL ei64 3 A2 c2 d_p0.wear)]) := by
 unfold m_flash_Device_within at h
 refine Fun.intro Try.func58 rfl rfl rfl fun w R => ?_;refine .ab [0,1,2] rfl ?_;refine .seq ?_;obtain ⟨o1, hj1, h⟩ := bnd_e h;refine .cutE (fun (e1 : Unit) => [(6, .bool o1)]) (fun e1 => .res (Box gb1 80 (bx_T_Device d_p0 A1 c1 A2 c2)) :: .res (OwnL eu8 5 A1 c1 d_p0.bytes) :: .res (OwnL ei64 3 A2 c2 d_p0.wear) :: R) ?_ ?_
 ·refine .region ?_;refine .n 3 rfl ?_;refine .gSplit (dj := 9) _ rfl (fun hb1 => ?_) (fun hb1 => ?_)
  ·replace hj1 := bif_t hb1 hj1;refine .n 4 rfl ?_;refine .gOn (dj := 9) rfl rfl ?_;refine .loadB 1 rfl rfl (.head _) rfl rfl ?_;refine .n 4 rfl ?_;refine .gSplit (dj := 18) _ rfl (fun hb2 => ?_) (fun hb2 => ?_)
   ·replace hj1 := bif_t hb2 hj1;refine .n 4 rfl ?_;refine .gSplit (dj := 22) _ rfl (fun hb3 => ?_) (fun hb3 => ?_)
    ·replace hj1 := bif_t hb3 hj1;refine .n 4 rfl ?_;refine .gOn (dj := 22) rfl rfl ?_;refine .loadB 1 rfl rfl (.head _) rfl rfl ?_;cases hj1;refine .be rfl ?_;exact .hereE () (zb rfl) (fun _ w => w)
    replace hj1 := bif_f hb3 hj1;cases hj1;refine .be rfl ?_;exact .hereE () (zb rfl) (fun _ w => w)
   replace hj1 := bif_f hb2 hj1;cases hj1;refine .be rfl ?_;exact .hereE () (zb rfl) (fun _ w => w)
  replace hj1 := bif_f hb1 hj1;cases hj1;refine .be rfl ?_;exact .hereE () (zb rfl) (fun _ w => w)
 rintro e1;cases h;exact .rt rfl Try.results58 (.tmp rfl .nil) rfl ⟨rfl, rfl⟩ (fun _ w => w)
theorem ent44 : Ent Try.prog 44 := ⟨_, Try.func44, by kernel_rfl, by kernel_rfl⟩
noncomputable def m_slices_Clone__byte_byte (s_p0 : (List Int)) : Option (List Int) :=
  bnd (app 1 ([]) s_p0) fun l1 => some l1
theorem c_slices_Clone__byte_byte {s_p0 : (List Int)} {A1 : Option Addr} {c1 : Nat} {r : (List Int)} (h : m_slices_Clone__byte_byte s_p0 = some r) :
    Fun Try.prog 44 [.slice A1 s_p0.length c1] [.ro (SlL eu8 A1 c1 s_p0)] (fun v_ F_ => ∃ (A2 : Option Addr) (c2 : Nat), v_ = .slice A2 r.length c2 ∧ F_ = [.res (OwnL eu8 5 A2 c2 r)]) := by
 unfold m_slices_Clone__byte_byte at h
 refine Fun.intro Try.func44 rfl rfl rfl fun w R => ?_
 rcases A1 with _ | ad
 ·refine .fact (φ := s_p0 = []) (fun w hf => (hf.ro (r := SlL eu8 none c1 s_p0) (.head _)).2.2.1 rfl) fun hs => ?_;subst hs;have h : (some ([]) : Option (List Int)) = some r := by simpa [app, bnd] using h
  refine .ab [0] rfl ?_;refine .seq ?_;refine .ab [0,4] rfl ?_;refine .condT rfl ?_;refine .abf [2] [] 1 rfl rfl ?_;refine .ret ?_;repeat (first | refine .thenR ?_ | refine .blkR ?_)
  refine .asrt (fun _ w => w.nilL eu8 5) ?_;cases h;exact .finR Try.results44 (.tmp rfl .nil) rfl _ ⟨none, 0, rfl, rfl⟩ (fun _ w => w)
 refine .ab [0] rfl ?_;refine .seq ?_;refine .ab [0,4] rfl ?_;refine .condF rfl ?_;refine .sk ?_;refine .pr [0] rfl ?_;refine .seq ?_;refine .region ?_;refine .buildSlice rfl rfl rfl rfl rfl rfl rfl rfl fun g1 => ?_;refine .p rfl rfl ?_;refine .asrt (fun _ w => w.litL (E := eu8) (e := 5) [] rfl rfl) ?_;obtain ⟨l1, hl1, h⟩ := bnd_e h
 refine .app (E := eu8) hl1 rfl rfl rfl .z rfl rfl rfl rfl rfl rfl rfl rfl (srcL (.tail _ (.head _))) rfl rfl fun A2 c2 => ?_;refine .bf [2] [0] 1 rfl rfl ?_;cases h;exact .rt rfl Try.results44 (.tmp rfl .nil) rfl ⟨A2, c2, rfl, rfl⟩ (fun _ w => w)
theorem ent37 : Ent Try.prog 37 := ⟨_, Try.func37, by kernel_rfl, by kernel_rfl⟩
noncomputable def m_flash_Device_Read (d_p0 : T_Device) (at_p1 : Int) (n_p2 : Int) : Option (T_Device × (List Int) × Int) :=
  bif d_p0.down then (some (d_p0, [], 10)) else (bnd (m_flash_Device_within d_p0 at_p1 n_p2) fun r1 => bif !r1 then (some (d_p0, [], 2)) else (bnd (partM d_p0.bytes.length at_p1 (IntKind.wrap .i64 (at_p1 + n_p2))) fun n1 => bnd (sub d_p0.bytes ((Int.toNat at_p1 : Nat) : Int) (((Int.toNat at_p1) + n1 : Nat) : Int)) fun l1 => bnd (m_slices_Clone__byte_byte l1) fun r2 => some (d_p0, r2, 0)))
theorem c_flash_Device_Read {d_p0 : T_Device} {at_p1 : Int} {n_p2 : Int} {A1 : Option Addr} {c1 : Nat} {A2 : Option Addr} {c2 : Nat} {gb1 : Nat} {r : (T_Device × (List Int) × Int)} (h : m_flash_Device_Read d_p0 at_p1 n_p2 = some r) :
    Fun Try.prog 37 [.pointer (some ⟨gb1, 0, none⟩), .int .i64 at_p1, .int .i64 n_p2] [.res (Box gb1 80 (bx_T_Device d_p0 A1 c1 A2 c2)), .res (OwnL eu8 5 A1 c1 d_p0.bytes), .res (OwnL ei64 3 A2 c2 d_p0.wear)] (fun v_ F_ => ∃ (A3 : Option Addr) (c3 : Nat) (A4 : Option Addr) (c4 : Nat) (A5 : Option Addr) (c5 : Nat), v_ = .tuple #[.slice A5 r.2.1.length c5, .int .i64 r.2.2] ∧ F_ = [.res (Box gb1 80 (bx_T_Device r.1 A3 c3 A4 c4)), .res (OwnL eu8 5 A3 c3 r.1.bytes), .res (OwnL ei64 3 A4 c4 r.1.wear), .res (OwnL eu8 5 A5 c5 r.2.1)]) := by
 unfold m_flash_Device_Read at h
 refine Fun.intro Try.func37 rfl rfl rfl fun w R => ?_;refine .ab [0,1,2] rfl ?_;refine .seq ?_;refine .block ?_;refine .a 3 rfl ?_;refine .loadB 6 rfl rfl (.head _) rfl rfl ?_;refine .b [0,1,2,8] rfl ?_;refine .cb h rfl (fun h => ?_) (fun h => ?_)
 ·refine .ab [6,7] rfl ?_;refine .ret ?_;repeat (first | refine .thenR ?_ | refine .blkR ?_)
  refine .asrt (fun _ w => w.nilL eu8 5) ?_;cases h;exact .finR Try.results37 (.tmp rfl (.tmp rfl .nil)) rfl _ ⟨A1, c1, A2, c2, none, 0, rfl, rfl⟩ (zl [1,1,1] 0 rfl)
 refine .a 3 rfl ?_;obtain ⟨r1, hr1, h⟩ := bnd_e h;refine .call (c_flash_Device_within hr1) ent58 rfl rfl rfl (fun _ w => w) ?_;rintro _ _ ⟨rfl, rfl⟩;refine .nm 3 rfl ?_;refine .b [0,1,2,13] rfl ?_;refine .cb h rfl (fun h => ?_) (fun h => ?_)
 ·refine .ab [6,7] rfl ?_;refine .ret ?_;repeat (first | refine .thenR ?_ | refine .blkR ?_)
  refine .asrt (fun _ w => w.nilL eu8 5) ?_;cases h;exact .finR Try.results37 (.tmp rfl (.tmp rfl .nil)) rfl _ ⟨A1, c1, A2, c2, none, 0, rfl, rfl⟩ (zl [1,1,1] 0 rfl)
 refine .skip ?_;refine .blkN ?_;refine .thenN ?_;refine .pr [0,1,2] rfl ?_;refine .a 3 rfl ?_;refine .loadB 1 rfl rfl (.head _) rfl rfl ?_;refine .n 4 rfl ?_;obtain ⟨n1, hn1, h⟩ := bnd_e h;refine .part (E := eu8) hn1 rfl rfl (.tail _ (.head _)) rfl rfl rfl rfl rfl rfl rfl ?_;obtain ⟨l1, hl1, h⟩ := bnd_e h;refine .ss 27 (part_len hl1) ?_;obtain ⟨r2, hr2, h⟩ := bnd_e h
 refine .callL (c_slices_Clone__byte_byte hr2) ent44 rfl rfl rfl rfl (Asks.part partOk0 hl1 (.tail _ (.head _)) Asks.nil) (by rintro _ _ ⟨_, _, rfl, rfl⟩; exact ⟨plain_own _ _ _ _ _, True.intro⟩) ?_;rintro _ _ ⟨A3, c3, rfl, rfl⟩;refine .nm 4 rfl ?_;refine .b [6,7] rfl ?_;cases h;exact .rt rfl Try.results37 (.tmp rfl (.tmp rfl .nil)) rfl ⟨A1, c1, A2, c2, A3, c3, rfl, rfl⟩ (zl [1,1,1] 0 rfl)
theorem ent72 : Ent Try.prog 72 := ⟨_, Try.func72, by kernel_rfl, by kernel_rfl⟩
noncomputable def m_settings_change (b_p0 : (List Int)) : Option (T_Setting × Int × Bool) :=
  bif decide ((b_p0.length : Int) < 2) then (some ((⟨0, [], false⟩ : T_Setting), 0, false)) else (bnd (elt b_p0 1) fun x1 => bif (x1 == 128) then (bnd (elt b_p0 0) fun x2 => some ((⟨x2, [], true⟩ : T_Setting), 2, true)) else (bnd ((bif decide (x1 > 28) then (some true) else (some (decide ((b_p0.length : Int) < (IntKind.wrap .i64 (2 + (IntKind.wrap .i64 x1)))))) : Option Bool)) fun o1 => bif o1 then (some ((⟨0, [], false⟩ : T_Setting), 0, false)) else (bnd (elt b_p0 0) fun x3 => bnd (sub b_p0 2 (IntKind.wrap .i64 (2 + (IntKind.wrap .i64 x1)))) fun l1 => bnd (m_slices_Clone__byte_byte l1) fun r1 => some ((⟨x3, r1, false⟩ : T_Setting), IntKind.wrap .i64 (2 + (IntKind.wrap .i64 x1)), true))))
theorem c_settings_change {b_p0 : (List Int)} {A1 : Option Addr} {c1 : Nat} {r : (T_Setting × Int × Bool)} (h : m_settings_change b_p0 = some r) :
    Fun Try.prog 72 [.slice A1 b_p0.length c1] [.ro (SlL eu8 A1 c1 b_p0)] (fun v_ F_ => ∃ (A2 : Option Addr) (c2 : Nat), v_ = .tuple #[.agg #[.int .u8 r.1.Key, .slice A2 r.1.Value.length c2, .bool r.1.Delete], .int .i64 r.2.1, .bool r.2.2] ∧ F_ = [.ro (SlL eu8 A2 c2 r.1.Value)]) := by
 unfold m_settings_change at h
 refine Fun.intro Try.func72 rfl rfl rfl fun w R => ?_;refine .seq ?_;refine .region ?_;refine .alloc rfl rfl fun g1 => ?_;refine .b [0,2] rfl ?_;refine .seq ?_;refine .block ?_;refine .ab [0,2,6] rfl ?_;refine .cb h rfl (fun h => ?_) (fun h => ?_)
 ·refine .a 1 rfl ?_;refine .store 0 rfl rfl rfl rfl rfl rfl .z rfl ?_;refine .bf [2,3,4] [0] 1 rfl rfl ?_;refine .ret ?_;repeat (first | refine .thenR ?_ | refine .blkR ?_)
  refine .asrt (fun _ w => w.nilSl (cod eu8)) ?_;cases h;exact .finR Try.results72 (.cell rfl (.tail _ (.head _)) rfl (.tmp rfl (.tmp rfl .nil))) rfl _ ⟨none, 0, rfl, rfl⟩ (fun _ w => ((.k (.d (.d .z))) : Keep _ _).sat ((w.sd [0] [] 0 rfl)))
 refine .a 1 rfl ?_;obtain ⟨x1, hx1, h⟩ := bnd_e h;refine .ixL hx1 rfl rfl rfl (.tail _ (.head _)) rfl rfl rfl rfl rfl fun b1 ob1 => ?_;refine .load ob1 0 rfl rfl (.head _) rfl rfl ?_;refine .bf [0,2,11] [] 1 rfl rfl ?_;refine .cb h rfl (fun h => ?_) (fun h => ?_)
 ·refine .a 1 rfl ?_;obtain ⟨x2, hx2, h⟩ := bnd_e h;refine .ixL hx2 rfl rfl rfl (.tail _ (.head _)) rfl rfl rfl rfl rfl fun b2 ob2 => ?_;refine .load ob2 0 rfl rfl (.head _) rfl rfl ?_;refine .p rfl rfl ?_;refine .store 0 rfl rfl rfl rfl rfl rfl (.s .z) rfl ?_;refine .bf [2,3,4] [0] 2 rfl rfl ?_;refine .ret ?_;repeat (first | refine .thenR ?_ | refine .blkR ?_)
  refine .asrt (fun _ w => w.nilSl (cod eu8)) ?_;cases h;exact .finR Try.results72 (.cell rfl (.tail _ (.head _)) rfl (.tmp rfl (.tmp rfl .nil))) rfl _ ⟨none, 0, rfl, rfl⟩ (fun _ w => ((.k (.d (.d .z))) : Keep _ _).sat ((w.sd [0] [] 0 rfl)))
 refine .skip ?_;refine .blkN ?_;refine .thenN ?_;refine .pr [0,2] rfl ?_;refine .a 1 rfl ?_;refine .ixL hx1 rfl rfl rfl (.tail _ (.head _)) rfl rfl rfl rfl rfl fun b3 ob3 => ?_;refine .load ob3 0 rfl rfl (.head _) rfl rfl ?_;refine .bf [0,2,5] [] 1 rfl rfl ?_;refine .seq ?_;refine .seq ?_;obtain ⟨o1, hj1, h⟩ := bnd_e h
 refine .cutE (fun (e1 : Unit) => [(0, .slice A1 b_p0.length c1), (2, .pointer (some ⟨g1, 0, none⟩)), (5, .int .i64 (IntKind.wrap .i64 (2 + (IntKind.wrap .i64 x1)))), (34, .bool o1)]) (fun e1 => .res (Box g1 39 [.int .u8 0, .slice none 0 0, .bool false]) :: .ro (SlL eu8 A1 c1 b_p0) :: R) ?_ ?_
 ·refine .region ?_;refine .p rfl rfl ?_;refine .ixL hx1 rfl rfl rfl (.tail _ (.head _)) rfl rfl rfl rfl rfl fun b4 ob4 => ?_;refine .load ob4 0 rfl rfl (.head _) rfl rfl ?_;refine .n 2 rfl ?_;refine .gSplit (dj := 29) _ rfl (fun hb3 => ?_) (fun hb3 => ?_)
  ·replace hj1 := bif_t hb3 hj1;cases hj1;refine .be rfl ?_;exact .hereE () (zb rfl) (zl [] 1 rfl)
  replace hj1 := bif_f hb3 hj1;cases hj1;refine .be rfl ?_;exact .hereE () (zb rfl) (zl [] 1 rfl)
 rintro e1;refine .cb h rfl (fun h => ?_) (fun h => ?_)
 ·refine .a 1 rfl ?_;refine .store 0 rfl rfl rfl rfl rfl rfl .z rfl ?_;refine .bf [2,3,4] [0] 1 rfl rfl ?_;refine .ret ?_;repeat (first | refine .thenR ?_ | refine .blkR ?_)
  refine .asrt (fun _ w => w.nilSl (cod eu8)) ?_;cases h;exact .finR Try.results72 (.cell rfl (.tail _ (.head _)) rfl (.tmp rfl (.tmp rfl .nil))) rfl _ ⟨none, 0, rfl, rfl⟩ (fun _ w => ((.k (.d (.d .z))) : Keep _ _).sat ((w.sd [0] [] 0 rfl)))
 refine .sk ?_;refine .pr [0,2,5] rfl ?_;refine .seq ?_;refine .regionX (iL [(.fl, 0), (.fl, 1), (.fl, 2), (.fl, 3), (.fl, 4), (.fx, 5), (.fl, 8), (.ef, 6), (.fl, 7), (.ef, 9), (.fl, 10), (.fl, 11)] .nil) (.ro (SlL eu8 A1 c1 b_p0) :: R) mixed (by kernel_rfl) (zl [] 1 rfl) ?_;refine .xfl (fun _ h => h) (Rd.p rfl) rfl ?_;obtain ⟨x3, hx3, h⟩ := bnd_e h
 refine .openA (.tail _ (.head _)) hx3 fun b5 ob5 hqb5 => ?_;refine .asrt (fun _ w => Sat.addC hqb5 (.tail _ (.head _)) hx3 w) ?_;have hc1 := fun w h => Sat.addC hqb5 (.head _) hx3 ((fun (w : World) (h : Sat (.ro (SlL eu8 A1 c1 b_p0) :: R) w) => h) w h);refine .xfl (fun _ h => h) (Rd.ixL (E := eu8) hqb5 hx3 rfl rfl rfl rfl rfl rfl rfl) rfl ?_
 refine .xfl hc1 (Rd.load ob5 0 rfl (.head _) rfl rfl) rfl ?_;refine .xn 2 rfl ?_;obtain ⟨l1, hl1, h⟩ := bnd_e h;refine .openS (zm 2 rfl) hl1 fun A2 c2 hS1 => ?_;have hc2 := fun w h => Sat.addS hS1 (.tail _ (.head _)) hl1 (hc1 w h);refine .xfx (Rd.sub hS1 hl1 (zm 3 rfl) rfl rfl rfl rfl rfl rfl rfl rfl) rfl ?_;refine .xfl (fun _ h => h) (Rd.p rfl) rfl ?_;refine .xef ?_
 obtain ⟨r1, hr1, h⟩ := bnd_e h;refine .call (c_slices_Clone__byte_byte hr1) ent44 rfl rfl rfl (zd [0] [] 0 rfl) ?_;rintro _ _ ⟨A3, c3, rfl, rfl⟩;refine .nm 5 rfl ?_;refine .xk (zl [] 4 rfl) ?_;refine .xfl (fun _ h => h) (Rd.p rfl) rfl ?_;refine .xef ?_;refine .store 0 rfl rfl rfl rfl rfl rfl (.s (.s (.s .z))) rfl ?_;refine .xk (zl [] 4 rfl) ?_;refine .xn 2 rfl ?_;refine .xdone ?_;refine .thenN ?_
 refine .pf [2,3,4] [0,0] 3 rfl rfl ?_;refine .ret ?_;repeat (first | refine .thenR ?_ | refine .blkR ?_)
 refine .asrt (fun _ w => (w.sl [1] 0 rfl).meltL) ?_;cases h;exact .finR Try.results72 (.cell rfl (.tail _ (.head _)) rfl (.tmp rfl (.tmp rfl .nil))) rfl _ ⟨A3, c3, rfl, rfl⟩ (fun _ w => ((.k (.d (.d .z))) : Keep _ _).sat ((w.sd [0] [] 0 rfl)))
theorem ent62 : Ent Try.prog 62 := ⟨_, Try.func62, by kernel_rfl, by kernel_rfl⟩
noncomputable def m_settings_batch (b_p0 : (List Int)) : Option ((List T_Setting) × Int × Bool) :=
  bnd ((bif ((b_p0.length : Int) == 0) then (some true) else (bnd (elt b_p0 0) fun x1 => bif decide (x1 < 1) then (some true) else (some (decide (x1 > 32)))) : Option Bool)) fun o1 => bif o1 then (some ([], 0, false)) else (bnd (elt b_p0 0) fun x2 => bnd (loopM (τ := ((List T_Setting) × Int × Bool) ⊕ (List T_Setting × Int)) (fun (s1 : List T_Setting × Int × Int) => bif decide (s1.2.2 < x2) then (bnd (sub b_p0 s1.2.1 (b_p0.length : Int)) fun l1 => bnd (m_settings_change l1) fun r1 => bif !r1.2.2 then (some (.done (.inl ([], 0, false)))) else (bnd (app 40 s1.1 [r1.1]) fun l2 => some (.next (l2, IntKind.wrap .i64 (s1.2.1 + r1.2.1), IntKind.wrap .u8 (s1.2.2 + 1))))) else (some (.done (.inr (s1.1, s1.2.1))))) ([], 1, 0)) fun o2 => retOr o2 fun o3 => bnd ((bif (o3.2 == (b_p0.length : Int)) then (some true) else (bnd (elt b_p0 o3.2) fun x3 => some (x3 != 0)) : Option Bool)) fun o4 => bif o4 then (some ([], 0, false)) else (some (o3.1, IntKind.wrap .i64 (o3.2 + 1), true)))
set_option maxHeartbeats 4000000 in
theorem c_settings_batch {b_p0 : (List Int)} {A1 : Option Addr} {c1 : Nat} {r : ((List T_Setting) × Int × Bool)} (h : m_settings_batch b_p0 = some r) :
    Fun Try.prog 62 [.slice A1 b_p0.length c1] [.ro (SlL eu8 A1 c1 b_p0)] (fun v_ F_ => ∃ (A2 : Option Addr) (c2 : Nat), v_ = .tuple #[.slice A2 r.1.length c2, .int .i64 r.2.1, .bool r.2.2] ∧ F_ = [.res (OwnC (codL l_T_Setting) 39 A2 c2 r.1)]) := by
 unfold m_settings_batch at h
 refine Fun.intro Try.func62 rfl rfl rfl fun w R => ?_;refine .ab [0] rfl ?_;refine .seq ?_;refine .seq ?_;obtain ⟨o1, hj1, h⟩ := bnd_e h;refine .cutE (fun (e1 : Unit) => [(0, .slice A1 b_p0.length c1), (24, .bool o1)]) (fun e1 => .ro (SlL eu8 A1 c1 b_p0) :: R) ?_ ?_
 ·refine .region ?_;refine .n 4 rfl ?_;refine .gSplit (dj := 13) _ rfl (fun hb1 => ?_) (fun hb1 => ?_)
  ·replace hj1 := bif_t hb1 hj1;cases hj1;refine .be rfl ?_;exact .hereE () (zb rfl) (fun _ w => w)
  replace hj1 := bif_f hb1 hj1;refine .n 1 rfl ?_;refine .gOn (dj := 13) rfl rfl ?_;obtain ⟨x1, hx1, hj1⟩ := bnd_e hj1;refine .ixL hx1 rfl rfl rfl (.head _) rfl rfl rfl rfl rfl fun b1 ob1 => ?_;refine .gOn (dj := 13) rfl rfl ?_;refine .load ob1 0 rfl rfl (.head _) rfl rfl ?_;refine .n 3 rfl ?_;refine .gSplit (dj := 19) _ rfl (fun hb2 => ?_) (fun hb2 => ?_)
  ·replace hj1 := bif_t hb2 hj1;cases hj1;refine .be rfl ?_;exact .hereE () (zb rfl) (zl [] 1 rfl)
  replace hj1 := bif_f hb2 hj1;refine .n 1 rfl ?_;refine .gOn (dj := 19) rfl rfl ?_;refine .ixL hx1 rfl rfl rfl (.tail _ (.head _)) rfl rfl rfl rfl rfl fun b2 ob2 => ?_;refine .gOn (dj := 19) rfl rfl ?_;refine .load ob2 0 rfl rfl (.head _) rfl rfl ?_;cases hj1;refine .be rfl ?_;exact .hereE () (zb rfl) (zl [] 2 rfl)
 rintro e1;refine .cb h rfl (fun h => ?_) (fun h => ?_)
 ·refine .abf [2,3,4] [] 1 rfl rfl ?_;refine .ret ?_;repeat (first | refine .thenR ?_ | refine .blkR ?_)
  refine .asrt (fun _ w => w.nilC (codL l_T_Setting) 39) ?_;cases h;exact .finR Try.results62 (.tmp rfl (.tmp rfl (.tmp rfl .nil))) rfl _ ⟨none, 0, rfl, rfl⟩ (fun _ w => w)
 refine .sk ?_;refine .pr [0] rfl ?_;refine .ae rfl ?_;refine .ae rfl ?_;refine .seq ?_;refine .a 1 rfl ?_;obtain ⟨x2, hx2, h⟩ := bnd_e h;refine .ixL hx2 rfl rfl rfl (.head _) rfl rfl rfl rfl rfl fun b3 ob3 => ?_;refine .load ob3 0 rfl rfl (.head _) rfl rfl ?_;refine .bf [0,5,6,27,28] [] 1 rfl rfl ?_;refine .asrt (fun _ w => w.nilC (codL l_T_Setting) 39) ?_;obtain ⟨o2, hl1, h⟩ := bnd_e h
 refine .cutI (fun (o3 : List T_Setting × Int) (e3 : Option Addr × Nat) => [(0, .slice A1 b_p0.length c1), (5, .slice e3.1 o3.1.length e3.2), (6, .int .i64 o3.2)]) (fun o3 e3 => .res (OwnC (codL l_T_Setting) 39 e3.1 e3.2 o3.1) :: .ro (SlL eu8 A1 c1 b_p0) :: R) (fun o3 => o2 = .inr o3) ?_ ?_
 ·refine .block ?_;refine .loop hl1 (fun (s1 : List T_Setting × Int × Int) (e2 : Option Addr × Nat) => [(0, .slice A1 b_p0.length c1), (5, .slice e2.1 s1.1.length e2.2), (6, .int .i64 s1.2.1), (27, .int .u8 x2), (28, .int .u8 s1.2.2)]) (fun s1 e2 => .res (OwnC (codL l_T_Setting) 39 e2.1 e2.2 s1.1) :: .ro (SlL eu8 A1 c1 b_p0) :: R) (fun _ _ => True) (none, 0) trivial (zb rfl) (fun _ w => w) ?_
  rintro s1 ⟨A2, c2⟩ - hit1;obtain ⟨st1, hm1, hd1⟩ := iter_e hit1;have h1 := hm1;refine .ae rfl ?_;refine .seq ?_;refine .cb h1 rfl (fun h1 => ?_) (fun h1 => ?_)
  ·refine .sk ?_;refine .pr [0,5,6,27,28] rfl ?_;refine .seq ?_;refine .block ?_;refine .a 2 rfl ?_;obtain ⟨l1, hl1, h1⟩ := bnd_e h1;refine .sub (E := (cod eu8)) rfl rfl (.tail _ (.head _)) rfl rfl rfl rfl rfl rfl rfl hl1 fun A4 c4 => ?_;obtain ⟨r1, hr1, h1⟩ := bnd_e h1;refine .call (c_settings_change hr1) ent72 rfl rfl rfl (zd [0] [] 0 rfl) ?_;rintro _ _ ⟨A5, c5, rfl, rfl⟩;refine .nm 4 rfl ?_
   refine .n 4 rfl ?_;refine .alloc rfl rfl fun g1 => ?_;refine .store 0 rfl rfl rfl rfl rfl rfl .z rfl ?_;refine .bf [0,5,6,7,8,9,27,28] [0,0] 1 rfl rfl ?_;refine .seq ?_;refine .ab [0,5,6,7,8,27,28,39] rfl ?_;refine .cb h1 rfl (fun h1 => ?_) (fun h1 => ?_)
   ·refine .abf [2,3,4] [] 4 rfl rfl ?_;refine .ret ?_;repeat (first | refine .thenR ?_ | refine .blkR ?_)
    refine .asrt (fun _ w => w.nilC (codL l_T_Setting) 39) ?_;cases h1;have ho := hd1 _ rfl;subst ho;have h : some _ = some _ := h;cases h;exact .finR Try.results62 (.tmp rfl (.tmp rfl (.tmp rfl .nil))) rfl _ ⟨none, 0, rfl, rfl⟩ (fun _ w => w)
   refine .sk ?_;refine .pr [0,5,6,7,8,27,28] rfl ?_;refine .region ?_;refine .p rfl rfl ?_;refine .loadB 0 rfl rfl (.head _) rfl rfl ?_;refine .buildSlice rfl rfl rfl rfl rfl rfl rfl rfl fun g2 => ?_;obtain ⟨l2, hl2, h1⟩ := bnd_e h1
   refine .appC (E := (codL l_T_Setting)) hl2 rfl rfl rfl (.s (.s (.s .z))) rfl rfl rfl rfl rfl rfl rfl rfl (srcBC (ls := l_T_Setting) [(r1.1, ((A5, c5), ()))] (.head _) rfl rfl rfl ⟨(zm 2 rfl), trivial⟩) rfl rfl fun A6 c6 => ?_;refine .n 5 rfl ?_;refine .done ?_;refine .blkN ?_;refine .thenN ?_;refine .pf [0,5,6,27,28] [0] 3 rfl rfl ?_;refine .region ?_;cases h1;refine .be rfl ?_
   exact .again _ (A6, c6) hm1 trivial (zb rfl) (fun _ w => w)
  refine .exit ?_;repeat (first | refine .thenX ?_ | refine .blkMiss rfl ?_)
  refine .blkHit ?_;cases h1;have ho := hd1 _ rfl;subst ho;refine .thenN ?_;exact .hereI (s1.1, s1.2.1) (A2, c2) rfl (zb rfl) (fun _ w => w)
 rintro o3 ⟨A3, c3⟩ ho;subst ho;have h := unR h;refine .seq ?_;refine .seq ?_;obtain ⟨o4, hj2, h⟩ := bnd_e h;refine .cutE (fun (e4 : Unit) => [(5, .slice A3 o3.1.length c3), (6, .int .i64 o3.2), (58, .bool o4)]) (fun e4 => .res (OwnC (codL l_T_Setting) 39 A3 c3 o3.1) :: R) ?_ ?_
 ·refine .region ?_;refine .n 5 rfl ?_;refine .gSplit (dj := 52) _ rfl (fun hb6 => ?_) (fun hb6 => ?_)
  ·replace hj2 := bif_t hb6 hj2;cases hj2;refine .be rfl ?_;exact .hereE () (zb rfl) (zl [0] 1 rfl)
  replace hj2 := bif_f hb6 hj2;refine .n 2 rfl ?_;refine .gOn (dj := 52) rfl rfl ?_;obtain ⟨x3, hx3, hj2⟩ := bnd_e hj2;refine .ixL hx3 rfl rfl rfl (.tail _ (.head _)) rfl rfl rfl rfl rfl fun b4 ob4 => ?_;refine .gOn (dj := 52) rfl rfl ?_;refine .load ob4 0 rfl rfl (.head _) rfl rfl ?_;cases hj2;refine .be rfl ?_;exact .hereE () (zb rfl) (zl [1] 2 rfl)
 rintro e4;refine .cb h rfl (fun h => ?_) (fun h => ?_)
 ·refine .abf [2,3,4] [] 1 rfl rfl ?_;refine .ret ?_;repeat (first | refine .thenR ?_ | refine .blkR ?_)
  refine .asrt (fun _ w => w.nilC (codL l_T_Setting) 39) ?_;cases h;exact .finR Try.results62 (.tmp rfl (.tmp rfl (.tmp rfl .nil))) rfl _ ⟨none, 0, rfl, rfl⟩ (fun _ w => w)
 refine .sk ?_;refine .pr [5,6] rfl ?_;refine .ab [2,3,4] rfl ?_;cases h;exact .rt rfl Try.results62 (.tmp rfl (.tmp rfl (.tmp rfl .nil))) rfl ⟨A3, c3, rfl, rfl⟩ (fun _ w => w)
theorem ent66 : Ent Try.prog 66 := ⟨_, Try.func66, by kernel_rfl, by kernel_rfl⟩
theorem ent46 : Ent Try.prog 46 := ⟨_, Try.func46, by kernel_rfl, by kernel_rfl⟩
noncomputable def m__settings_values_after (v_p0 : (Option (List (Int × (List Int))))) (l_p1 : (List T_Setting)) : Option (Option (List (Int × (List Int)))) :=
  bnd (m_mapsClone v_p0) fun r1 => bnd (loopM (τ := (Option (List (Int × (List Int))))) (fun (s1 : Int × (Option (List (Int × (List Int))))) => bif decide (s1.1 < (l_p1.length : Int)) then (bnd (elt l_p1 s1.1) fun x1 => bif x1.Delete then (some (.next (IntKind.wrap .i64 (s1.1 + 1), (s1.2.map fun l => mdel (kint .u8).eq l x1.Key)))) else (bnd (m_slices_Clone__byte_byte x1.Value) fun r2 => bnd (mapM s1.2) fun m1 => some (.next (IntKind.wrap .i64 (s1.1 + 1), (some (mset (kint .u8).eq m1 x1.Key r2)))))) else (some (.done s1.2))) (0, r1)) fun o1 => some o1
theorem c__settings_values_after {v_p0 : (Option (List (Int × (List Int))))} {l_p1 : (List T_Setting)} {A1 : Option Addr} {c1 : Nat} {M1 : Option Nat} {r : (Option (List (Int × (List Int))))} (h : m__settings_values_after v_p0 l_p1 = some r) :
    Fun Try.prog 46 [.map M1, .slice A1 l_p1.length c1] [.ro (Sl (codL l_T_Setting) A1 c1 l_p1), .res (MapV (kint .u8) (cod eu8) M1 v_p0)] (fun v_ F_ => ∃ (M2 : Option Nat), v_ = .map M2 ∧ F_ = [.res (MapV (kint .u8) (cod eu8) M1 v_p0), .res (MapV (kint .u8) (cod eu8) M2 r)]) := by
 unfold m__settings_values_after at h
 refine Fun.intro Try.func46 rfl rfl rfl fun w R => ?_;refine .ab [0,1] rfl ?_;refine .a 1 rfl ?_;obtain ⟨r1, hr1, h⟩ := bnd_e h;refine .call (c_mapsClone hr1) ent66 rfl rfl rfl (zl [1] 0 rfl) ?_;rintro _ _ ⟨M2, rfl, rfl⟩;refine .nm 3 rfl ?_;refine .b [1,5] rfl ?_;refine .seq ?_;refine .ab [5,10,11,12] rfl ?_;obtain ⟨o1, hl1, h⟩ := bnd_e h
 refine .cutE (fun (e2 : Option Nat) => [(5, .map e2)]) (fun e2 => .res (MapV (kint .u8) (cod eu8) e2 o1) :: .res (MapV (kint .u8) (cod eu8) M1 v_p0) :: R) ?_ ?_
 ·refine .block ?_
  refine .loop hl1 (fun (s1 : Int × (Option (List (Int × (List Int))))) (e1 : Option Nat) => [(5, .map e1), (10, .slice A1 l_p1.length c1), (11, .int .i64 (l_p1.length : Int)), (12, .int .i64 s1.1)]) (fun s1 e1 => .res (MapV (kint .u8) (cod eu8) e1 s1.2) :: .res (MapV (kint .u8) (cod eu8) M1 v_p0) :: .ro (Sl (codL l_T_Setting) A1 c1 l_p1) :: R) (fun _ _ => True) M2 trivial (zb rfl) (zl [1] 0 rfl) ?_
  rintro s1 M3 - hit1;obtain ⟨st1, hm1, hd1⟩ := iter_e hit1;have h1 := hm1;refine .ae rfl ?_;refine .seq ?_;refine .cb h1 rfl (fun h1 => ?_) (fun h1 => ?_)
  ·refine .sk ?_;refine .pr [5,10,11,12] rfl ?_;refine .seq ?_;refine .block ?_;refine .seq ?_;refine .region ?_;obtain ⟨x1, hx1, h1⟩ := bnd_e h1;refine .ixN hx1 rfl rfl rfl (zm 2 rfl) rfl rfl rfl rfl rfl fun b1 ob1 ex1 => ?_;obtain ⟨⟨A2, c2⟩, _⟩ := ex1;refine .nm 5 rfl ?_;refine .load ob1 0 rfl rfl (.head _) rfl rfl ?_;refine .alloc rfl rfl fun g1 => ?_
   refine .store 0 rfl rfl rfl rfl rfl rfl .z rfl ?_;refine .bf [5,7,10,11,12] [0] 1 rfl rfl ?_;refine .a 1 rfl ?_;refine .loadB 2 rfl rfl (.head _) rfl rfl ?_;refine .b [5,7,10,11,12,17] rfl ?_;refine .cb h1 rfl (fun h1 => ?_) (fun h1 => ?_)
   ·refine .region ?_;refine .n 2 rfl ?_;refine .loadB 0 rfl rfl (.head _) rfl rfl ?_;refine .mapDeleteVN (K := (kint .u8)) x1.Key rfl rfl (.s (.s .z)) rfl rfl rfl rfl rfl ?_;refine .done ?_;refine .blkN ?_;refine .thenN ?_;refine .pf [5,10,11,12] [0] 2 rfl rfl ?_;refine .region ?_;cases h1;refine .be rfl ?_;exact .again _ M3 hm1 trivial (zb rfl) (fun _ w => w)
   refine .regionX (iL [(.fl, 0), (.fl, 1), (.fl, 2), (.fl, 3), (.fx, 4), (.ef, 5), (.ef, 6)] .nil) (.res (Box g1 39 [.int .u8 x1.Key, .slice A2 x1.Value.length c2, .bool x1.Delete]) :: .ro (SlL eu8 A2 c2 x1.Value) :: .res (MapV (kint .u8) (cod eu8) M1 v_p0) :: .ro (Sl (codL l_T_Setting) A1 c1 l_p1) :: R) mixed (by kernel_rfl) (zl [0,0] 1 rfl) ?_;refine .xn 2 rfl ?_
   refine .xfl (fun _ h => h) (Rd.loadB 0 rfl (.head _) rfl rfl) rfl ?_;refine .xfl (fun _ h => h) (Rd.p rfl) rfl ?_;refine .xfx (Rd.loadB 1 rfl (.head _) rfl rfl) rfl ?_;refine .xef ?_;obtain ⟨r2, hr2, h1⟩ := bnd_e h1;refine .call (c_slices_Clone__byte_byte hr2) ent44 rfl rfl rfl (zd [1] [] 0 rfl) ?_;rintro _ _ ⟨A3, c3, rfl, rfl⟩;refine .nm 6 rfl ?_;refine .xk (zl [1,1] 2 rfl) ?_;refine .xef ?_
   refine .asrt (fun _ w => w.meltL) ?_;obtain ⟨m1, hm1, h1⟩ := bnd_e h1;refine .mapUpdateV (K := (kint .u8)) hm1 x1.Key rfl rfl rfl rfl (.s (.s (.s .z))) (.head _) rfl rfl rfl rfl ?_;refine .xk (zl [] 2 rfl) ?_;refine .xdone ?_;refine .blkN ?_;refine .thenN ?_;refine .pf [5,10,11,12] [0] 3 rfl rfl ?_;refine .region ?_;cases h1;refine .be rfl ?_
   exact .again _ M3 hm1 trivial (zb rfl) (fun _ w => w)
  refine .exit ?_;repeat (first | refine .thenX ?_ | refine .blkMiss rfl ?_)
  refine .blkHit ?_;cases h1;have ho := hd1 _ rfl;subst ho;refine .thenN ?_;exact .hereE M3 (zb rfl) (zl [0,0] 1 rfl)
 rintro M4;refine .ab [4] rfl ?_;cases h;exact .rt rfl Try.results46 (.tmp rfl .nil) rfl ⟨M4, rfl, rfl⟩ (zl [1] 0 rfl)
theorem ent74 : Ent Try.prog 74 := ⟨_, Try.func74, by kernel_rfl, by kernel_rfl⟩
noncomputable def m_settings_blank_1 (x_p0 : Int) : Option Bool :=
  some (x_p0 != 255)
theorem c_settings_blank_1 {x_p0 : Int} {r : Bool} (h : m_settings_blank_1 x_p0 = some r) :
    Fun Try.prog 74 [.int .u8 x_p0] [] (Val (.bool r)) := by
 unfold m_settings_blank_1 at h
 refine Fun.intro Try.func74 rfl rfl rfl fun w R => ?_;refine .ab [0] rfl ?_;refine .ab [2] rfl ?_;cases h;exact .rt rfl Try.results74 (.tmp rfl .nil) rfl ⟨rfl, rfl⟩ (fun _ w => w)
theorem ent81 : Ent Try.prog 81 := ⟨_, Try.func81, by kernel_rfl, by kernel_rfl⟩
noncomputable def m_slices_IndexFunc__byte_byte_f74 (s_p0 : (List Int)) : Option Int :=
  bnd (loopM (τ := Int ⊕ Unit) (fun (s1 : Int) => bif decide (s1 < (s_p0.length : Int)) then (bnd (elt s_p0 s1) fun x1 => bnd (m_settings_blank_1 x1) fun r1 => bif r1 then (some (.done (.inl s1))) else (some (.next (IntKind.wrap .i64 (s1 + 1))))) else (some (.done (.inr ())))) 0) fun o1 => retOr o1 fun o2 => some (-1)
theorem c_slices_IndexFunc__byte_byte_f74 {s_p0 : (List Int)} {A1 : Option Addr} {c1 : Nat} {r : Int} (h : m_slices_IndexFunc__byte_byte_f74 s_p0 = some r) :
    Fun Try.prog 81 [.slice A1 s_p0.length c1, .func (.func 74) #[] #[]] [.ro (SlL eu8 A1 c1 s_p0)] (Val (.int .i64 r)) := by
 unfold m_slices_IndexFunc__byte_byte_f74 at h
 refine Fun.intro Try.func81 rfl rfl rfl fun w R => ?_;refine .ab [0,1] rfl ?_;refine .seq ?_;refine .ab [0,1,7,8] rfl ?_;obtain ⟨o1, hl1, h⟩ := bnd_e h;refine .cutI (fun (o2 : Unit) (e2 : Unit) => []) (fun o2 e2 => R) (fun o2 => o1 = .inr o2) ?_ ?_
 ·refine .block ?_;refine .loop hl1 (fun (s1 : Int) (e1 : Unit) => [(0, .slice A1 s_p0.length c1), (1, .func (.func 74) #[] #[]), (7, .int .i64 (s_p0.length : Int)), (8, .int .i64 s1)]) (fun s1 e1 => .ro (SlL eu8 A1 c1 s_p0) :: R) (fun _ _ => True) () trivial (zb rfl) (fun _ w => w) ?_;rintro s1 e1 - hit1;obtain ⟨st1, hm1, hd1⟩ := iter_e hit1;have h1 := hm1;refine .ae rfl ?_;refine .seq ?_
  refine .cb h1 rfl (fun h1 => ?_) (fun h1 => ?_)
  ·refine .sk ?_;refine .pr [0,1,7,8] rfl ?_;refine .seq ?_;refine .block ?_;refine .ab [0,1,5,7,8] rfl ?_;refine .a 3 rfl ?_;obtain ⟨x1, hx1, h1⟩ := bnd_e h1;refine .ixL hx1 rfl rfl rfl (.head _) rfl rfl rfl rfl rfl fun b1 ob1 => ?_;refine .load ob1 0 rfl rfl (.head _) rfl rfl ?_;obtain ⟨r1, hr1, h1⟩ := bnd_e h1;refine .callV (c_settings_blank_1 hr1) ent74 rfl rfl rfl rfl trivial ?_
   refine .bf [0,1,5,7,8,16] [] 1 rfl rfl ?_;refine .cb h1 rfl (fun h1 => ?_) (fun h1 => ?_)
   ·refine .abf [4] [] 1 rfl rfl ?_;refine .ret ?_;repeat (first | refine .thenR ?_ | refine .blkR ?_)
    cases h1;have ho := hd1 _ rfl;subst ho;have h : some _ = some _ := h;cases h;exact .finR Try.results81 (.tmp rfl .nil) rfl _ ⟨rfl, rfl⟩ (fun _ w => w)
   refine .skip ?_;refine .blkN ?_;refine .thenN ?_;refine .pr [0,1,7,8] rfl ?_;refine .region ?_;cases h1;refine .be rfl ?_;exact .again _ () hm1 trivial (zb rfl) (fun _ w => w)
  refine .exit ?_;repeat (first | refine .thenX ?_ | refine .blkMiss rfl ?_)
  refine .blkHit ?_;cases h1;have ho := hd1 _ rfl;subst ho;refine .thenN ?_;exact .hereI () () rfl trivial (zl [] 1 rfl)
 rintro o2 e2 ho;subst ho;have h := unR h;refine .ae rfl ?_;cases h;exact .rt rfl Try.results81 (.tmp rfl .nil) rfl ⟨rfl, rfl⟩ (fun _ w => w)
theorem ent73 : Ent Try.prog 73 := ⟨_, Try.func73, by kernel_rfl, by kernel_rfl⟩
noncomputable def m_slices_ContainsFunc__byte_byte_f74 (s_p0 : (List Int)) : Option Bool :=
  bnd (m_slices_IndexFunc__byte_byte_f74 s_p0) fun r1 => some (decide (r1 ≥ 0))
theorem c_slices_ContainsFunc__byte_byte_f74 {s_p0 : (List Int)} {A1 : Option Addr} {c1 : Nat} {r : Bool} (h : m_slices_ContainsFunc__byte_byte_f74 s_p0 = some r) :
    Fun Try.prog 73 [.slice A1 s_p0.length c1, .func (.func 74) #[] #[]] [.ro (SlL eu8 A1 c1 s_p0)] (Val (.bool r)) := by
 unfold m_slices_ContainsFunc__byte_byte_f74 at h
 refine Fun.intro Try.func73 rfl rfl rfl fun w R => ?_;refine .ab [0,1] rfl ?_;refine .a 2 rfl ?_;obtain ⟨r1, hr1, h⟩ := bnd_e h;refine .callV (c_slices_IndexFunc__byte_byte_f74 hr1) ent81 rfl rfl rfl rfl (za [0] rfl) ?_;refine .bf [4] [] 1 rfl rfl ?_;cases h;exact .rt rfl Try.results73 (.tmp rfl .nil) rfl ⟨rfl, rfl⟩ (fun _ w => w)
theorem ent63 : Ent Try.prog 63 := ⟨_, Try.func63, by kernel_rfl, by kernel_rfl⟩
noncomputable def m_settings_blank (b_p0 : (List Int)) : Option Bool :=
  bnd (m_slices_ContainsFunc__byte_byte_f74 b_p0) fun r1 => some (!r1)
theorem c_settings_blank {b_p0 : (List Int)} {A1 : Option Addr} {c1 : Nat} {r : Bool} (h : m_settings_blank b_p0 = some r) :
    Fun Try.prog 63 [.slice A1 b_p0.length c1] [.ro (SlL eu8 A1 c1 b_p0)] (Val (.bool r)) := by
 unfold m_settings_blank at h
 refine Fun.intro Try.func63 rfl rfl rfl fun w R => ?_;refine .ab [0] rfl ?_;refine .a 1 rfl ?_;obtain ⟨r1, hr1, h⟩ := bnd_e h;refine .callV (c_slices_ContainsFunc__byte_byte_f74 hr1) ent73 rfl rfl rfl rfl (za [0] rfl) ?_;refine .bf [2] [] 1 rfl rfl ?_;cases h;exact .rt rfl Try.results63 (.tmp rfl .nil) rfl ⟨rfl, rfl⟩ (fun _ w => w)
theorem ent42 : Ent Try.prog 42 := ⟨_, Try.func42, by kernel_rfl, by kernel_rfl⟩
noncomputable def m_settings_read (b_p0 : (List Int)) : Option (T_sector × Bool) :=
  bnd (elt b_p0 0) fun x1 => bnd (elt b_p0 1) fun x2 => bnd (elt b_p0 2) fun x3 => bnd (elt b_p0 3) fun x4 => bnd ((bnd (elt b_p0 4) fun x5 => bif (x5 != 0) then (some true) else (bif decide ((iOr .i64 (iOr .i64 (iOr .i64 (IntKind.wrap .i64 x1) (iShl .i64 (IntKind.wrap .i64 x2) 8)) (iShl .i64 (IntKind.wrap .i64 x3) 16)) (iShl .i64 (IntKind.wrap .i64 x4) 24)) < 1) then (some true) else (some (decide ((iOr .i64 (iOr .i64 (iOr .i64 (IntKind.wrap .i64 x1) (iShl .i64 (IntKind.wrap .i64 x2) 8)) (iShl .i64 (IntKind.wrap .i64 x3) 16)) (iShl .i64 (IntKind.wrap .i64 x4) 24)) > 2147483648)))) : Option Bool)) fun o1 => bif o1 then (some ((⟨0, none, 0, false⟩ : T_sector), false)) else (bnd (loopM (τ := T_sector) (fun (s1 : T_sector) => bnd (sub b_p0 s1.tail (b_p0.length : Int)) fun l1 => bnd (m_settings_batch l1) fun r1 => bif !r1.2.2 then (some (.done s1)) else (bnd (m__settings_values_after s1.all r1.1) fun r2 => bif decide ((((r2.getD []).length : Nat) : Int) > 32) then (some (.done s1)) else (some (.next (⟨s1.generation, r2, IntKind.wrap .i64 (s1.tail + r1.2.1), s1.clean⟩ : T_sector))))) (⟨iOr .i64 (iOr .i64 (iOr .i64 (IntKind.wrap .i64 x1) (iShl .i64 (IntKind.wrap .i64 x2) 8)) (iShl .i64 (IntKind.wrap .i64 x3) 16)) (iShl .i64 (IntKind.wrap .i64 x4) 24), (some []), 5, false⟩ : T_sector)) fun o2 => bnd (sub b_p0 o2.tail (b_p0.length : Int)) fun l2 => bnd (m_settings_blank l2) fun r3 => some ((⟨o2.generation, o2.all, o2.tail, r3⟩ : T_sector), true))
theorem c_settings_read {b_p0 : (List Int)} {A1 : Option Addr} {c1 : Nat} {r : (T_sector × Bool)} (h : m_settings_read b_p0 = some r) :
    Fun Try.prog 42 [.slice A1 b_p0.length c1] [.ro (SlL eu8 A1 c1 b_p0)] (fun v_ F_ => ∃ (M1 : Option Nat), v_ = .tuple #[.agg (bx_T_sector r.1 M1).toArray, .bool r.2] ∧ F_ = [.res (MapV (kint .u8) (cod eu8) M1 r.1.all)]) := by
 unfold m_settings_read at h
 refine Fun.intro Try.func42 rfl rfl rfl fun w R => ?_;refine .seq ?_;refine .region ?_;refine .alloc rfl rfl fun g1 => ?_;refine .b [0,2] rfl ?_;refine .seq ?_;refine .regionF mixed (by kernel_rfl) ?_;refine .p rfl rfl ?_;obtain ⟨x1, hx1, h⟩ := bnd_e h;refine .ixL hx1 rfl rfl rfl (.tail _ (.head _)) rfl rfl rfl rfl rfl fun b1 ob1 => ?_;refine .load ob1 0 rfl rfl (.head _) rfl rfl ?_
 refine .n 2 rfl ?_;obtain ⟨x2, hx2, h⟩ := bnd_e h;refine .ixL hx2 rfl rfl rfl (zm 2 rfl) rfl rfl rfl rfl rfl fun b2 ob2 => ?_;refine .load ob2 0 rfl rfl (.head _) rfl rfl ?_;refine .n 4 rfl ?_;obtain ⟨x3, hx3, h⟩ := bnd_e h;refine .ixL hx3 rfl rfl rfl (zm 3 rfl) rfl rfl rfl rfl rfl fun b3 ob3 => ?_;refine .load ob3 0 rfl rfl (.head _) rfl rfl ?_;refine .n 4 rfl ?_;obtain ⟨x4, hx4, h⟩ := bnd_e h
 refine .ixL hx4 rfl rfl rfl (zm 4 rfl) rfl rfl rfl rfl rfl fun b4 ob4 => ?_;refine .load ob4 0 rfl rfl (.head _) rfl rfl ?_;refine .beq rfl ?_;refine .pf [0,2,4] [] 4 rfl rfl ?_;refine .seq ?_;refine .seq ?_;obtain ⟨o1, hj1, h⟩ := bnd_e h
 refine .cutE (fun (e1 : Unit) => [(0, .slice A1 b_p0.length c1), (2, .pointer (some ⟨g1, 0, none⟩)), (4, .int .i64 (iOr .i64 (iOr .i64 (iOr .i64 (IntKind.wrap .i64 x1) (iShl .i64 (IntKind.wrap .i64 x2) 8)) (iShl .i64 (IntKind.wrap .i64 x3) 16)) (iShl .i64 (IntKind.wrap .i64 x4) 24))), (43, .bool o1)]) (fun e1 => .res (Box g1 75 [.int .i64 0, .map none, .int .i64 0, .bool false]) :: .ro (SlL eu8 A1 c1 b_p0) :: R) ?_ ?_
 ·refine .region ?_;refine .p rfl rfl ?_;obtain ⟨x5, hx5, hj1⟩ := bnd_e hj1;refine .ixL hx5 rfl rfl rfl (.tail _ (.head _)) rfl rfl rfl rfl rfl fun b5 ob5 => ?_;refine .load ob5 0 rfl rfl (.head _) rfl rfl ?_;refine .n 2 rfl ?_;refine .gSplit (dj := 36) _ rfl (fun hb1 => ?_) (fun hb1 => ?_)
  ·replace hj1 := bif_t hb1 hj1;cases hj1;refine .be rfl ?_;exact .hereE () (zb rfl) (zl [] 1 rfl)
  replace hj1 := bif_f hb1 hj1;refine .n 4 rfl ?_;refine .gSplit (dj := 40) _ rfl (fun hb2 => ?_) (fun hb2 => ?_)
  ·replace hj1 := bif_t hb2 hj1;cases hj1;refine .be rfl ?_;exact .hereE () (zb rfl) (zl [] 1 rfl)
  replace hj1 := bif_f hb2 hj1;cases hj1;refine .be rfl ?_;exact .hereE () (zb rfl) (zl [] 1 rfl)
 rintro e1;refine .cb h rfl (fun h => ?_) (fun h => ?_)
 ·refine .a 1 rfl ?_;refine .store 0 rfl rfl rfl rfl rfl rfl .z rfl ?_;refine .bf [2,3] [0] 1 rfl rfl ?_;refine .ret ?_;repeat (first | refine .thenR ?_ | refine .blkR ?_)
  refine .asrt (fun _ w => w.nilV (kint .u8) (cod eu8)) ?_;cases h;exact .finR Try.results42 (.cell rfl (.tail _ (.head _)) rfl (.tmp rfl .nil)) rfl _ ⟨none, rfl, rfl⟩ (zl [0] 1 rfl)
 refine .sk ?_;refine .pr [0,2,4] rfl ?_;refine .a 1 rfl ?_;refine .makeMapV (K := (kint .u8)) (E := (cod eu8)) rfl fun g2 => ?_;refine .p rfl rfl ?_;refine .alloc rfl rfl fun g3 => ?_;refine .store 0 rfl rfl rfl rfl rfl rfl .z rfl ?_;refine .b [0,2,5] rfl ?_;refine .seq ?_;obtain ⟨o2, hl1, h⟩ := bnd_e h
 refine .cutE (fun (e3 : Option Nat) => [(0, .slice A1 b_p0.length c1), (2, .pointer (some ⟨g1, 0, none⟩)), (5, .pointer (some ⟨g3, 0, none⟩))]) (fun e3 => .res (MapV (kint .u8) (cod eu8) e3 o2.all) :: .res (Box g3 75 (bx_T_sector o2 e3)) :: .res (Box g1 75 [.int .i64 0, .map none, .int .i64 0, .bool false]) :: .ro (SlL eu8 A1 c1 b_p0) :: R) ?_ ?_
 ·refine .block ?_
  refine .loop hl1 (fun (s1 : T_sector) (e2 : Option Nat) => [(0, .slice A1 b_p0.length c1), (2, .pointer (some ⟨g1, 0, none⟩)), (5, .pointer (some ⟨g3, 0, none⟩))]) (fun s1 e2 => .res (MapV (kint .u8) (cod eu8) e2 s1.all) :: .res (Box g3 75 (bx_T_sector s1 e2)) :: .res (Box g1 75 [.int .i64 0, .map none, .int .i64 0, .bool false]) :: .ro (SlL eu8 A1 c1 b_p0) :: R) (fun _ _ => True) (some g2) trivial (zb rfl) (zl [1] 0 rfl) ?_
  rintro s1 M1 - hit1;obtain ⟨st1, hm1, hd1⟩ := iter_e hit1;have h1 := hm1;refine .block ?_;refine .a 2 rfl ?_;refine .loadB 2 rfl rfl (.tail _ (.head _)) rfl rfl ?_;obtain ⟨l1, hl1, h1⟩ := bnd_e h1;refine .sub (E := (cod eu8)) rfl rfl (zm 3 rfl) rfl rfl rfl rfl rfl rfl rfl hl1 fun A2 c2 => ?_;obtain ⟨r1, hr1, h1⟩ := bnd_e h1
  refine .call (c_settings_batch hr1) ent62 rfl rfl rfl (zd [0] [] 0 rfl) ?_;rintro _ _ ⟨A3, c3, rfl, rfl⟩;refine .nm 6 rfl ?_;refine .bf [0,2,5,6,7,8] [0] 1 rfl rfl ?_;refine .seq ?_;refine .ab [0,2,5,6,7,58] rfl ?_;refine .cb h1 rfl (fun h1 => ?_) (fun h1 => ?_)
  ·refine .exit ?_;repeat (first | refine .thenX ?_ | refine .blkMiss rfl ?_)
   refine .blkHit ?_;cases h1;have ho := hd1 _ rfl;subst ho;refine .thenN ?_;exact .hereE M1 (zb rfl) (zl [] 1 rfl)
  refine .sk ?_;refine .pr [0,2,5,6,7] rfl ?_;refine .a 1 rfl ?_;refine .loadB 1 rfl rfl (zm 2 rfl) rfl rfl ?_;refine .p rfl rfl ?_;refine .asrt (fun _ w => w.meltC) ?_;obtain ⟨r2, hr2, h1⟩ := bnd_e h1;refine .call (c__settings_values_after hr2) ent46 rfl rfl rfl (zd [1] [1] 0 rfl) ?_;rintro _ _ ⟨M3, rfl, rfl⟩;refine .nm 6 rfl ?_;refine .bf [0,2,5,7,9] [0,0] 1 rfl rfl ?_;refine .seq ?_
  refine .a 1 rfl ?_;refine .mapLenV (K := (kint .u8)) (E := (cod eu8)) rfl rfl (.tail _ (.head _)) rfl rfl rfl ?_;refine .b [0,2,5,7,9,65] rfl ?_;refine .cb h1 rfl (fun h1 => ?_) (fun h1 => ?_)
  ·refine .exit ?_;repeat (first | refine .thenX ?_ | refine .blkMiss rfl ?_)
   refine .blkHit ?_;cases h1;have ho := hd1 _ rfl;subst ho;refine .thenN ?_;exact .hereE M1 (zb rfl) (zl [0] 1 rfl)
  refine .sk ?_;refine .pr [0,2,5,7,9] rfl ?_;refine .region ?_;refine .n 2 rfl ?_;refine .loadB 2 rfl rfl (zm 2 rfl) rfl rfl ?_;refine .n 3 rfl ?_;refine .store 1 rfl rfl rfl rfl rfl rfl (.s (.s .z)) rfl ?_;refine .p rfl rfl ?_;refine .store 2 rfl rfl rfl rfl rfl rfl .z rfl ?_;refine .done ?_;refine .blkN ?_;cases h1;refine .thenN ?_;exact .again _ M3 hm1 trivial (zb rfl) (zl [2,0] 1 rfl)
 rintro M2;refine .a 2 rfl ?_;refine .loadB 2 rfl rfl (.tail _ (.head _)) rfl rfl ?_;obtain ⟨l2, hl2, h⟩ := bnd_e h;refine .sub (E := (cod eu8)) rfl rfl (zm 3 rfl) rfl rfl rfl rfl rfl rfl rfl hl2 fun A4 c4 => ?_;obtain ⟨r3, hr3, h⟩ := bnd_e h;refine .callV (c_settings_blank hr3) ent63 rfl rfl rfl rfl (za [0] rfl) ?_;refine .p rfl rfl ?_;refine .store 3 rfl rfl rfl rfl rfl rfl (.s (.s .z)) rfl ?_
 refine .bf [2,5] [0,1,1] 2 rfl rfl ?_;refine .seq ?_;refine .region ?_;refine .loadB 0 rfl rfl (.head _) rfl rfl ?_;refine .store 0 rfl rfl rfl rfl rfl rfl (.s (.s .z)) rfl ?_;refine .bf [2,3] [0] 1 rfl rfl ?_;cases h;exact .rt rfl Try.results42 (.cell rfl (.head _) rfl (.tmp rfl .nil)) rfl ⟨M2, rfl, rfl⟩ (zl [] 1 rfl)
theorem ent13 : Ent Try.prog 13 := ⟨_, Try.func13, by kernel_rfl, by kernel_rfl⟩
noncomputable def m_settings_Open (d_p0 : T_Device) (first : Int) : Option (T_Device × (Option T_settings_Store) × Int) :=
  bnd ((bif decide (first < 0) then (some true) else (bnd (m_flash_Device_Sectors d_p0) fun r1 => some (decide (first > (IntKind.wrap .i64 (r1 - 2))))) : Option Bool)) fun o1 => bif o1 then (some (d_p0, none, 2)) else (bnd (m_flash_Device_Size d_p0) fun r2 => bif decide (r2 < 1024) then (some (d_p0, none, 3)) else (bnd (loopM (τ := (T_Device × (Option T_settings_Store) × Int) ⊕ (T_settings_Store × T_Device)) (fun (s1 : T_settings_Store × T_Device × Int) => bif decide (s1.2.2 < 2) then (bnd (m_flash_Device_Size s1.2.1) fun r3 => bnd (m_flash_Device_Size s1.2.1) fun r4 => bnd (m_flash_Device_Read s1.2.1 (IntKind.wrap .i64 ((IntKind.wrap .i64 (first + s1.2.2)) * r3)) r4) fun r5 => bif (r5.2.2 != 0) then (some (.done (.inl (r5.1, none, r5.2.2)))) else (bnd (m_settings_read r5.2.1) fun r6 => bnd ((bif r6.2 then (some (decide (r6.1.generation > s1.1.generation))) else (some false) : Option Bool)) fun o4 => bif o4 then (some (.next ((⟨s1.1.d, s1.1.first, s1.2.2, r6.1.generation, r6.1.all, r6.1.tail, r6.1.clean, s1.1.ended⟩ : T_settings_Store), r5.1, IntKind.wrap .i64 (s1.2.2 + 1)))) else (some (.next (s1.1, r5.1, IntKind.wrap .i64 (s1.2.2 + 1)))))) else (some (.done (.inr (s1.1, s1.2.1))))) ((⟨true, first, (-1), 0, (some []), 0, false, false⟩ : T_settings_Store), d_p0, 0)) fun o2 => retOr o2 fun o3 => some (o3.2, (some o3.1), 0)))
set_option maxHeartbeats 4000000 in
theorem c_settings_Open {d_p0 : T_Device} {first : Int} {A1 : Option Addr} {c1 : Nat} {A2 : Option Addr} {c2 : Nat} {gb1 : Nat} {r : (T_Device × (Option T_settings_Store) × Int)} (h : m_settings_Open d_p0 first = some r) :
    Fun Try.prog 13 [.pointer (some ⟨gb1, 0, none⟩), .int .i64 first] [.res (Box gb1 80 (bx_T_Device d_p0 A1 c1 A2 c2)), .res (OwnL eu8 5 A1 c1 d_p0.bytes), .res (OwnL ei64 3 A2 c2 d_p0.wear)] (optP r.2.1 (fun v_ F_ => ∃ (A3 : Option Addr) (c3 : Nat) (A4 : Option Addr) (c4 : Nat), v_ = .tuple #[.pointer none, .int .i64 r.2.2] ∧ F_ = [.res (Box gb1 80 (bx_T_Device r.1 A3 c3 A4 c4)), .res (OwnL eu8 5 A3 c3 r.1.bytes), .res (OwnL ei64 3 A4 c4 r.1.wear)]) (fun q_ v_ F_ => ∃ (A3 : Option Addr) (c3 : Nat) (A4 : Option Addr) (c4 : Nat) (g1 : Nat) (M1 : Option Nat), v_ = .tuple #[.pointer (some ⟨g1, 0, none⟩), .int .i64 r.2.2] ∧ F_ = [.res (Box gb1 80 (bx_T_Device r.1 A3 c3 A4 c4)), .res (OwnL eu8 5 A3 c3 r.1.bytes), .res (OwnL ei64 3 A4 c4 r.1.wear), .res (Box g1 73 (bx_T_settings_Store q_ gb1 M1)), .res (MapV (kint .u8) (cod eu8) M1 q_.all)])) := by
 unfold m_settings_Open at h
 refine Fun.intro Try.func13 rfl rfl rfl fun w R => ?_;refine .ab [0,1] rfl ?_;refine .seq ?_;refine .block ?_;refine .seq ?_;obtain ⟨o1, hj1, h⟩ := bnd_e h
 refine .cutE (fun (e1 : Unit) => [(0, .pointer (some ⟨gb1, 0, none⟩)), (1, .int .i64 first), (12, .bool o1)]) (fun e1 => .res (Box gb1 80 (bx_T_Device d_p0 A1 c1 A2 c2)) :: .res (OwnL eu8 5 A1 c1 d_p0.bytes) :: .res (OwnL ei64 3 A2 c2 d_p0.wear) :: R) ?_ ?_
 ·refine .region ?_;refine .n 3 rfl ?_;refine .gSplit (dj := 15) _ rfl (fun hb1 => ?_) (fun hb1 => ?_)
  ·replace hj1 := bif_t hb1 hj1;cases hj1;refine .be rfl ?_;exact .hereE () (zb rfl) (fun _ w => w)
  replace hj1 := bif_f hb1 hj1;refine .n 2 rfl ?_;refine .gOn (dj := 15) rfl rfl ?_;obtain ⟨r1, hr1, hj1⟩ := bnd_e hj1;refine .call (c_flash_Device_Sectors hr1) ent40 rfl rfl rfl (fun _ w => w) ?_;rintro _ _ ⟨rfl, rfl⟩;refine .nm 3 rfl ?_;cases hj1;refine .be rfl ?_;exact .hereE () (zb rfl) (fun _ w => w)
 rintro e1;refine .cb h rfl (fun h => ?_) (fun h => ?_)
 ·refine .ab [4,5] rfl ?_;cases h;exact .rt rfl Try.results13 (.tmp rfl (.tmp rfl .nil)) rfl (optP_mkn ⟨A1, c1, A2, c2, rfl, rfl⟩) (fun _ w => w)
 refine .a 1 rfl ?_;obtain ⟨r2, hr2, h⟩ := bnd_e h;refine .call (c_flash_Device_Size hr2) ent41 rfl rfl rfl (fun _ w => w) ?_;rintro _ _ ⟨rfl, rfl⟩;refine .nm 3 rfl ?_;refine .b [0,1,22] rfl ?_;refine .cb h rfl (fun h => ?_) (fun h => ?_)
 ·refine .ab [4,5] rfl ?_;cases h;exact .rt rfl Try.results13 (.tmp rfl (.tmp rfl .nil)) rfl (optP_mkn ⟨A1, c1, A2, c2, rfl, rfl⟩) (fun _ w => w)
 refine .skip ?_;refine .blkN ?_;refine .thenN ?_;refine .pr [0,1] rfl ?_;refine .a 2 rfl ?_;refine .makeMapV (K := (kint .u8)) (E := (cod eu8)) rfl fun g1 => ?_;refine .p rfl rfl ?_;refine .box rfl rfl fun g2 => ?_;refine .b [0,1,6] rfl ?_;refine .seq ?_;refine .ae rfl ?_;obtain ⟨o2, hl1, h⟩ := bnd_e h
 refine .cutI (fun (o3 : T_settings_Store × T_Device) (e3 : Option Nat × Option Addr × Nat × Option Addr × Nat) => [(6, .pointer (some ⟨g2, 0, none⟩))]) (fun o3 e3 => .res (OwnL ei64 3 e3.2.2.2.1 e3.2.2.2.2 o3.2.wear) :: .res (OwnL eu8 5 e3.2.1 e3.2.2.1 o3.2.bytes) :: .res (MapV (kint .u8) (cod eu8) e3.1 o3.1.all) :: .res (Box g2 73 (bx_T_settings_Store o3.1 gb1 e3.1)) :: .res (Box gb1 80 (bx_T_Device o3.2 e3.2.1 e3.2.2.1 e3.2.2.2.1 e3.2.2.2.2)) :: R) (fun o3 => o2 = .inr o3) ?_ ?_
 ·refine .block ?_
  refine .loop hl1 (fun (s1 : T_settings_Store × T_Device × Int) (e2 : Option Nat × Option Addr × Nat × Option Addr × Nat) => [(0, .pointer (some ⟨gb1, 0, none⟩)), (1, .int .i64 first), (6, .pointer (some ⟨g2, 0, none⟩)), (31, .int .i64 s1.2.2)]) (fun s1 e2 => .res (OwnL ei64 3 e2.2.2.2.1 e2.2.2.2.2 s1.2.1.wear) :: .res (OwnL eu8 5 e2.2.1 e2.2.2.1 s1.2.1.bytes) :: .res (MapV (kint .u8) (cod eu8) e2.1 s1.1.all) :: .res (Box g2 73 (bx_T_settings_Store s1.1 gb1 e2.1)) :: .res (Box gb1 80 (bx_T_Device s1.2.1 e2.2.1 e2.2.2.1 e2.2.2.2.1 e2.2.2.2.2)) :: R) (fun _ _ => True) ((some g1), A1, c1, A2, c2) trivial (zb rfl) (zl [4,3,1] 0 rfl) ?_
  rintro s1 ⟨M1, A3, c3, A4, c4⟩ - hit1;obtain ⟨st1, hm1, hd1⟩ := iter_e hit1;have h1 := hm1;refine .ae rfl ?_;refine .seq ?_;refine .cb h1 rfl (fun h1 => ?_) (fun h1 => ?_)
  ·refine .sk ?_;refine .pr [0,1,6,31] rfl ?_;refine .seq ?_;refine .block ?_;refine .ab [0,1,6,7,31] rfl ?_;refine .a 5 rfl ?_;obtain ⟨r3, hr3, h1⟩ := bnd_e h1;refine .call (c_flash_Device_Size hr3) ent41 rfl rfl rfl (zl [4,1] 0 rfl) ?_;rintro _ _ ⟨rfl, rfl⟩;refine .nm 5 rfl ?_;refine .n 2 rfl ?_;obtain ⟨r4, hr4, h1⟩ := bnd_e h1
   refine .call (c_flash_Device_Size hr4) ent41 rfl rfl rfl (fun _ w => w) ?_;rintro _ _ ⟨rfl, rfl⟩;refine .nm 5 rfl ?_;obtain ⟨r5, hr5, h1⟩ := bnd_e h1;refine .call (c_flash_Device_Read hr5) ent37 rfl rfl rfl (fun _ w => w) ?_;rintro _ _ ⟨A7, c7, A8, c8, A9, c9, rfl, rfl⟩;refine .nm 6 rfl ?_;refine .b [0,1,6,7,8,9,31] rfl ?_;refine .seq ?_;refine .ab [0,1,6,7,8,9,31,48] rfl ?_
   refine .cb h1 rfl (fun h1 => ?_) (fun h1 => ?_)
   ·refine .abf [4,5] [0,0,0] 3 rfl rfl ?_;refine .ret ?_;repeat (first | refine .thenR ?_ | refine .blkR ?_)
    cases h1;have ho := hd1 _ rfl;subst ho;have h : some _ = some _ := h;cases h;exact .finR Try.results13 (.tmp rfl (.tmp rfl .nil)) rfl _ (optP_mkn ⟨A7, c7, A8, c8, rfl, rfl⟩) (fun _ w => w)
   refine .sk ?_;refine .pr [0,1,6,7,8,31] rfl ?_;refine .a 1 rfl ?_;refine .asrt (fun _ w => (w.sl [3] 0 rfl).meltL) ?_;obtain ⟨r6, hr6, h1⟩ := bnd_e h1;refine .call (c_settings_read hr6) ent42 rfl rfl rfl (zd [0] [] 0 rfl) ?_;rintro _ _ ⟨M3, rfl, rfl⟩;refine .nm 7 rfl ?_;refine .n 3 rfl ?_;refine .alloc rfl rfl fun g3 => ?_;refine .store 0 rfl rfl rfl rfl rfl rfl .z rfl ?_
   refine .bf [0,1,6,7,10,11,31] [0,0] 1 rfl rfl ?_;refine .seq ?_;obtain ⟨o4, hj2, h1⟩ := bnd_e h1
   refine .cutE (fun (e4 : Unit) => [(0, .pointer (some ⟨gb1, 0, none⟩)), (1, .int .i64 first), (6, .pointer (some ⟨g2, 0, none⟩)), (7, .int .i64 s1.2.2), (10, .pointer (some ⟨g3, 0, none⟩)), (31, .int .i64 s1.2.2), (64, .bool o4)]) (fun e4 => .res (Box g3 75 (bx_T_sector r6.1 M3)) :: .res (MapV (kint .u8) (cod eu8) M3 r6.1.all) :: .res (Box gb1 80 (bx_T_Device r5.1 A7 c7 A8 c8)) :: .res (OwnL eu8 5 A7 c7 r5.1.bytes) :: .res (OwnL ei64 3 A8 c8 r5.1.wear) :: .res (MapV (kint .u8) (cod eu8) M1 s1.1.all) :: .res (Box g2 73 (bx_T_settings_Store s1.1 gb1 M1)) :: R) ?_ ?_
   ·refine .regionF mixed (by kernel_rfl) ?_;refine .n 2 rfl ?_;refine .gSplit (dj := 56) _ rfl (fun hb6 => ?_) (fun hb6 => ?_)
    ·replace hj2 := bif_t hb6 hj2;refine .n 1 rfl ?_;refine .gOn (dj := 56) rfl rfl ?_;refine .loadB 0 rfl rfl (.head _) rfl rfl ?_;refine .n 3 rfl ?_;refine .gOn (dj := 56) rfl rfl ?_;refine .loadB 3 rfl rfl (zm 6 rfl) rfl rfl ?_;cases hj2;refine .beq rfl ?_;exact .hereE () (zb rfl) (fun _ w => w)
    replace hj2 := bif_f hb6 hj2;cases hj2;refine .beq rfl ?_;exact .hereE () (zb rfl) (fun _ w => w)
   rintro e4;refine .cb h1 rfl (fun h1 => ?_) (fun h1 => ?_)
   ·refine .regionX (iL [(.fl, 0), (.fl, 1), (.fl, 2), (.fl, 3), (.fl, 4), (.fl, 5), (.fl, 6), (.fl, 7), (.fl, 8), (.fl, 9), (.fl, 10), (.fl, 11), (.fl, 12), (.fl, 13), (.fl, 14), (.fl, 15), (.ef, 16), (.fl, 17), (.fl, 18), (.ef, 19), (.fl, 20), (.fl, 21), (.ef, 22), (.fl, 23), (.fl, 24), (.ef, 25), (.fl, 26), (.fl, 27), (.ef, 28)] .nil) (.res (Box g3 75 (bx_T_sector r6.1 M3)) :: .res (MapV (kint .u8) (cod eu8) M3 r6.1.all) :: .res (Box gb1 80 (bx_T_Device r5.1 A7 c7 A8 c8)) :: .res (OwnL eu8 5 A7 c7 r5.1.bytes) :: .res (OwnL ei64 3 A8 c8 r5.1.wear) :: .res (MapV (kint .u8) (cod eu8) M1 s1.1.all) :: R) mixed (by kernel_rfl) (zl [0,0,0,0,0,0] 1 rfl) ?_
    refine .xn 7 rfl ?_;refine .xfl (fun _ h => h) (Rd.loadB 0 rfl (.head _) rfl rfl) rfl ?_;refine .xfl (fun _ h => h) (Rd.p rfl) rfl ?_;refine .xfl (fun _ h => h) (Rd.loadB 1 rfl (.head _) rfl rfl) rfl ?_;refine .xfl (fun _ h => h) (Rd.p rfl) rfl ?_;refine .xfl (fun _ h => h) (Rd.loadB 2 rfl (.head _) rfl rfl) rfl ?_;refine .xfl (fun _ h => h) (Rd.p rfl) rfl ?_
    refine .xfl (fun _ h => h) (Rd.loadB 3 rfl (.head _) rfl rfl) rfl ?_;refine .xn 2 rfl ?_;refine .xef ?_;refine .store 2 rfl rfl rfl rfl rfl rfl (.s (.s (.s (.s (.s (.s .z)))))) rfl ?_;refine .xk (zl [] 1 rfl) ?_;refine .xn 2 rfl ?_;refine .xef ?_;refine .store 3 rfl rfl rfl rfl rfl rfl .z rfl ?_;refine .xk (zl [] 1 rfl) ?_;refine .xn 2 rfl ?_;refine .xef ?_
    refine .store 4 rfl rfl rfl rfl rfl rfl .z rfl ?_;refine .xk (zl [] 1 rfl) ?_;refine .xn 2 rfl ?_;refine .xef ?_;refine .store 5 rfl rfl rfl rfl rfl rfl .z rfl ?_;refine .xk (zl [] 1 rfl) ?_;refine .xn 2 rfl ?_;refine .xef ?_;refine .store 6 rfl rfl rfl rfl rfl rfl .z rfl ?_;refine .xk (zl [] 1 rfl) ?_;refine .xdone ?_;refine .blkN ?_;refine .thenN ?_
    refine .pf [0,1,6,31] [0,1,1,1,1] 2 rfl rfl ?_;refine .region ?_;cases h1;refine .be rfl ?_;exact .again _ (M3, A7, c7, A8, c8) hm1 trivial (zb rfl) (zl [4,3,1] 0 rfl)
   refine .skip ?_;refine .blkN ?_;refine .thenN ?_;refine .pf [0,1,6,31] [] 2 rfl rfl ?_;refine .region ?_;cases h1;refine .be rfl ?_;exact .again _ (M1, A7, c7, A8, c8) hm1 trivial (zb rfl) (zl [2,1,1,1] 0 rfl)
  refine .exit ?_;repeat (first | refine .thenX ?_ | refine .blkMiss rfl ?_)
  refine .blkHit ?_;cases h1;have ho := hd1 _ rfl;subst ho;refine .thenN ?_;exact .hereI (s1.1, s1.2.1) (M1, A3, c3, A4, c4) rfl (zb rfl) (fun _ w => w)
 rintro o3 ⟨M2, A5, c5, A6, c6⟩ ho;subst ho;have h := unR h;refine .ab [4,5] rfl ?_;cases h;exact .rt rfl Try.results13 (.tmp rfl (.tmp rfl .nil)) rfl (optP_mks ⟨A5, c5, A6, c6, g2, M2, rfl, rfl⟩) (zl [4,1,0,1] 0 rfl)
theorem ent26 : Ent Try.prog 26 := ⟨_, Try.func26, by kernel_rfl, by kernel_rfl⟩
noncomputable def m_flash_Device_Down (d_p0 : T_Device) : Option Bool :=
  some d_p0.down
theorem c_flash_Device_Down {d_p0 : T_Device} {A1 : Option Addr} {c1 : Nat} {A2 : Option Addr} {c2 : Nat} {gb1 : Nat} {r : Bool} (h : m_flash_Device_Down d_p0 = some r) :
    Fun Try.prog 26 [.pointer (some ⟨gb1, 0, none⟩)] [.res (Box gb1 80 (bx_T_Device d_p0 A1 c1 A2 c2)), .res (OwnL eu8 5 A1 c1 d_p0.bytes), .res (OwnL ei64 3 A2 c2 d_p0.wear)] (fun v_ F_ => v_ = .bool r ∧ F_ = [.res (Box gb1 80 (bx_T_Device d_p0 A1 c1 A2 c2)), .res (OwnL eu8 5 A1 c1 d_p0.bytes), .res (OwnL ei64 3 A2 c2 d_p0.wear)]) := by
 unfold m_flash_Device_Down at h
 refine Fun.intro Try.func26 rfl rfl rfl fun w R => ?_;refine .ab [0] rfl ?_;refine .a 3 rfl ?_;refine .loadB 6 rfl rfl (.head _) rfl rfl ?_;refine .b [2] rfl ?_;cases h;exact .rt rfl Try.results26 (.tmp rfl .nil) rfl ⟨rfl, rfl⟩ (fun _ w => w)
theorem ent45 : Ent Try.prog 45 := ⟨_, Try.func45, by kernel_rfl, by kernel_rfl⟩
noncomputable def m_settings_check (l_p0 : (List T_Setting)) : Option Int :=
  bif decide ((l_p0.length : Int) > 32) then (some 3) else (bnd (loopM (τ := Int ⊕ ((List (Int × Bool)))) (fun (s1 : Int × (List (Int × Bool))) => bif decide (s1.1 < (l_p0.length : Int)) then (bnd (elt l_p0 s1.1) fun x1 => bnd ((bif decide ((x1.Value.length : Int) > 28) then (some true) else (bif x1.Delete then (some (decide ((x1.Value.length : Int) > 0))) else (some false)) : Option Bool)) fun o3 => bif o3 then (some (.done (.inl 1))) else (bif (mget (kint .u8).eq s1.2 x1.Key).getD false then (some (.done (.inl 7))) else (some (.next (IntKind.wrap .i64 (s1.1 + 1), mset (kint .u8).eq s1.2 x1.Key true))))) else (some (.done (.inr s1.2)))) (0, [])) fun o1 => retOr o1 fun o2 => some 0)
theorem c_settings_check {l_p0 : (List T_Setting)} {A1 : Option Addr} {c1 : Nat} {r : Int} (h : m_settings_check l_p0 = some r) :
    Fun Try.prog 45 [.slice A1 l_p0.length c1] [.ro (Sl (codL l_T_Setting) A1 c1 l_p0)] (Val (.int .i64 r)) := by
 unfold m_settings_check at h
 refine Fun.intro Try.func45 rfl rfl rfl fun w R => ?_;refine .ab [0] rfl ?_;refine .seq ?_;refine .ab [0,8] rfl ?_;refine .cb h rfl (fun h => ?_) (fun h => ?_)
 ·refine .abf [2] [] 1 rfl rfl ?_;cases h;exact .rt rfl Try.results45 (.tmp rfl .nil) rfl ⟨rfl, rfl⟩ (fun _ w => w)
 refine .sk ?_;refine .pr [0] rfl ?_;refine .seq ?_;refine .region ?_;refine .makeMap (K := (kint .u8)) (vv := (fun x => .bool x)) rfl fun g1 => ?_;refine .b [0,3] rfl ?_;refine .seq ?_;refine .ab [3,10,11,12] rfl ?_;obtain ⟨o1, hl1, h⟩ := bnd_e h;refine .cutI (fun (o2 : (List (Int × Bool))) (e2 : Unit) => []) (fun o2 e2 => R) (fun o2 => o1 = .inr o2) ?_ ?_
 ·refine .block ?_;refine .loop hl1 (fun (s1 : Int × (List (Int × Bool))) (e1 : Unit) => [(3, .map (some g1)), (10, .slice A1 l_p0.length c1), (11, .int .i64 (l_p0.length : Int)), (12, .int .i64 s1.1)]) (fun s1 e1 => .res (MapB (kint .u8) (fun x => .bool x) g1 s1.2) :: .ro (Sl (codL l_T_Setting) A1 c1 l_p0) :: R) (fun _ _ => True) () trivial (zb rfl) (fun _ w => w) ?_;rintro s1 e1 - hit1
  obtain ⟨st1, hm1, hd1⟩ := iter_e hit1;have h1 := hm1;refine .ae rfl ?_;refine .seq ?_;refine .cb h1 rfl (fun h1 => ?_) (fun h1 => ?_)
  ·refine .sk ?_;refine .pr [3,10,11,12] rfl ?_;refine .seq ?_;refine .block ?_;refine .seq ?_;refine .region ?_;obtain ⟨x1, hx1, h1⟩ := bnd_e h1;refine .ixN hx1 rfl rfl rfl (.tail _ (.head _)) rfl rfl rfl rfl rfl fun b1 ob1 ex1 => ?_;obtain ⟨⟨A2, c2⟩, _⟩ := ex1;refine .nm 4 rfl ?_;refine .load ob1 0 rfl rfl (.head _) rfl rfl ?_;refine .alloc rfl rfl fun g2 => ?_
   refine .store 0 rfl rfl rfl rfl rfl rfl .z rfl ?_;refine .bf [3,5,10,11,12] [0] 1 rfl rfl ?_;refine .seq ?_;refine .block ?_;refine .seq ?_;obtain ⟨o3, hj1, h1⟩ := bnd_e h1
   refine .cutE (fun (e3 : Unit) => [(3, .map (some g1)), (5, .pointer (some ⟨g2, 0, none⟩)), (10, .slice A1 l_p0.length c1), (11, .int .i64 (l_p0.length : Int)), (12, .int .i64 s1.1), (16, .bool o3)]) (fun e3 => .res (Box g2 39 [.int .u8 x1.Key, .slice A2 x1.Value.length c2, .bool x1.Delete]) :: .ro (SlL eu8 A2 c2 x1.Value) :: .res (MapB (kint .u8) (fun x => .bool x) g1 s1.2) :: .ro (Sl (codL l_T_Setting) A1 c1 l_p0) :: R) ?_ ?_
   ·refine .region ?_;refine .p rfl rfl ?_;refine .loadB 1 rfl rfl (.head _) rfl rfl ?_;refine .n 3 rfl ?_;refine .gSplit (dj := 21) _ rfl (fun hb3 => ?_) (fun hb3 => ?_)
    ·replace hj1 := bif_t hb3 hj1;cases hj1;refine .be rfl ?_;exact .hereE () (zb rfl) (fun _ w => w)
    replace hj1 := bif_f hb3 hj1;refine .n 1 rfl ?_;refine .gOn (dj := 21) rfl rfl ?_;refine .loadB 2 rfl rfl (.head _) rfl rfl ?_;refine .n 1 rfl ?_;refine .gSplit (dj := 24) _ rfl (fun hb4 => ?_) (fun hb4 => ?_)
    ·replace hj1 := bif_t hb4 hj1;refine .n 1 rfl ?_;refine .gOn (dj := 24) rfl rfl ?_;refine .loadB 1 rfl rfl (.head _) rfl rfl ?_;cases hj1;refine .be rfl ?_;exact .hereE () (zb rfl) (fun _ w => w)
    replace hj1 := bif_f hb4 hj1;cases hj1;refine .be rfl ?_;exact .hereE () (zb rfl) (fun _ w => w)
   rintro e3;refine .cb h1 rfl (fun h1 => ?_) (fun h1 => ?_)
   ·refine .abf [2] [] 4 rfl rfl ?_;refine .ret ?_;repeat (first | refine .thenR ?_ | refine .blkR ?_)
    cases h1;have ho := hd1 _ rfl;subst ho;have h : some _ = some _ := h;cases h;exact .finR Try.results45 (.tmp rfl .nil) rfl _ ⟨rfl, rfl⟩ (fun _ w => w)
   refine .a 2 rfl ?_;refine .loadB 0 rfl rfl (.head _) rfl rfl ?_;refine .lookup (K := (kint .u8)) (vv := (fun x => .bool x)) (u := .bool ((mget (kint .u8).eq s1.2 x1.Key).getD false)) false x1.Key rfl rfl rfl (zm 2 rfl) rfl rfl rfl rfl rfl rfl rfl ?_;refine .b [3,5,10,11,12,31] rfl ?_;refine .cb h1 rfl (fun h1 => ?_) (fun h1 => ?_)
   ·refine .abf [2] [] 4 rfl rfl ?_;refine .ret ?_;repeat (first | refine .thenR ?_ | refine .blkR ?_)
    cases h1;have ho := hd1 _ rfl;subst ho;have h : some _ = some _ := h;cases h;exact .finR Try.results45 (.tmp rfl .nil) rfl _ ⟨rfl, rfl⟩ (fun _ w => w)
   refine .skip ?_;refine .blkN ?_;refine .thenN ?_;refine .pr [3,5,10,11,12] rfl ?_;refine .region ?_;refine .n 2 rfl ?_;refine .loadB 0 rfl rfl (.head _) rfl rfl ?_;refine .mapUpdate (K := (kint .u8)) (vv := (fun x => .bool x)) x1.Key true rfl rfl rfl (.s (.s .z)) rfl rfl rfl rfl ?_;refine .done ?_;refine .blkN ?_;refine .thenN ?_;refine .pf [3,10,11,12] [0] 2 rfl rfl ?_;refine .region ?_
   cases h1;refine .be rfl ?_;exact .again _ () hm1 trivial (zb rfl) (fun _ w => w)
  refine .exit ?_;repeat (first | refine .thenX ?_ | refine .blkMiss rfl ?_)
  refine .blkHit ?_;cases h1;have ho := hd1 _ rfl;subst ho;refine .thenN ?_;exact .hereI s1.2 () rfl trivial (zl [] 2 rfl)
 rintro o2 e2 ho;subst ho;have h := unR h;refine .ae rfl ?_;cases h;exact .rt rfl Try.results45 (.tmp rfl .nil) rfl ⟨rfl, rfl⟩ (fun _ w => w)
theorem ent47 : Ent Try.prog 47 := ⟨_, Try.func47, by kernel_rfl, by kernel_rfl⟩
noncomputable def m_settings_encode (l_p0 : (List T_Setting)) : Option (List Int) :=
  bnd (loopM (τ := List Int) (fun (s1 : List Int × Int) => bif decide (s1.2 < (l_p0.length : Int)) then (bnd (elt l_p0 s1.2) fun x1 => bif x1.Delete then (bnd (app 1 s1.1 [x1.Key, 128]) fun l1 => some (.next (l1, IntKind.wrap .i64 (s1.2 + 1)))) else (bnd (app 1 s1.1 [x1.Key, IntKind.wrap .u8 (x1.Value.length : Int)]) fun l2 => bnd (app 1 l2 x1.Value) fun l3 => some (.next (l3, IntKind.wrap .i64 (s1.2 + 1))))) else (some (.done s1.1))) ([IntKind.wrap .u8 (l_p0.length : Int)], 0)) fun o1 => bnd (app 1 o1 [0]) fun l4 => some l4
theorem c_settings_encode {l_p0 : (List T_Setting)} {A1 : Option Addr} {c1 : Nat} {r : (List Int)} (h : m_settings_encode l_p0 = some r) :
    Fun Try.prog 47 [.slice A1 l_p0.length c1] [.ro (Sl (codL l_T_Setting) A1 c1 l_p0)] (fun v_ F_ => ∃ (A2 : Option Addr) (c2 : Nat), v_ = .slice A2 r.length c2 ∧ F_ = [.res (OwnL eu8 5 A2 c2 r)]) := by
 unfold m_settings_encode at h
 refine Fun.intro Try.func47 rfl rfl rfl fun w R => ?_;refine .ab [0] rfl ?_;refine .a 3 rfl ?_;refine .buildSlice rfl rfl rfl rfl rfl rfl rfl rfl fun g1 => ?_;refine .b [0,3] rfl ?_;refine .seq ?_;refine .ab [3,10,11,12] rfl ?_;refine .asrt (fun _ w => w.litL (E := eu8) (e := 5) [IntKind.wrap .u8 (l_p0.length : Int)] rfl rfl) ?_;obtain ⟨o1, hl1, h⟩ := bnd_e h
 refine .cutE (fun (e2 : Option Addr × Nat) => [(3, .slice e2.1 o1.length e2.2)]) (fun e2 => .res (OwnL eu8 5 e2.1 e2.2 o1) :: R) ?_ ?_
 ·refine .block ?_
  refine .loop hl1 (fun (s1 : List Int × Int) (e1 : Option Addr × Nat) => [(3, .slice e1.1 s1.1.length e1.2), (10, .slice A1 l_p0.length c1), (11, .int .i64 (l_p0.length : Int)), (12, .int .i64 s1.2)]) (fun s1 e1 => .res (OwnL eu8 5 e1.1 e1.2 s1.1) :: .ro (Sl (codL l_T_Setting) A1 c1 l_p0) :: R) (fun _ _ => True) ((some ⟨g1, 0, none⟩), ([IntKind.wrap .u8 (l_p0.length : Int)] : List Int).length) trivial (zb rfl) (fun _ w => w) ?_
  rintro s1 ⟨A2, c2⟩ - hit1;obtain ⟨st1, hm1, hd1⟩ := iter_e hit1;have h1 := hm1;refine .ae rfl ?_;refine .seq ?_;refine .cb h1 rfl (fun h1 => ?_) (fun h1 => ?_)
  ·refine .sk ?_;refine .pr [3,10,11,12] rfl ?_;refine .seq ?_;refine .block ?_;refine .seq ?_;refine .region ?_;obtain ⟨x1, hx1, h1⟩ := bnd_e h1;refine .ixN hx1 rfl rfl rfl (.tail _ (.head _)) rfl rfl rfl rfl rfl fun b1 ob1 ex1 => ?_;obtain ⟨⟨A4, c4⟩, _⟩ := ex1;refine .nm 4 rfl ?_;refine .load ob1 0 rfl rfl (.head _) rfl rfl ?_;refine .alloc rfl rfl fun g2 => ?_
   refine .store 0 rfl rfl rfl rfl rfl rfl .z rfl ?_;refine .bf [3,5,10,11,12] [0] 1 rfl rfl ?_;refine .a 1 rfl ?_;refine .loadB 2 rfl rfl (.head _) rfl rfl ?_;refine .b [3,5,10,11,12,17] rfl ?_;refine .cb h1 rfl (fun h1 => ?_) (fun h1 => ?_)
   ·refine .region ?_;refine .n 2 rfl ?_;refine .loadB 0 rfl rfl (.head _) rfl rfl ?_;refine .buildSlice rfl rfl rfl rfl rfl rfl rfl rfl fun g3 => ?_;obtain ⟨l1, hl1, h1⟩ := bnd_e h1;refine .app (E := eu8) hl1 rfl rfl rfl (.s (.s (.s .z))) rfl rfl rfl rfl rfl rfl rfl rfl (srcB (.head _) rfl rfl) rfl rfl fun A5 c5 => ?_;refine .p rfl rfl ?_;refine .done ?_;refine .blkN ?_;refine .thenN ?_
    refine .pf [3,10,11,12] [0] 3 rfl rfl ?_;refine .region ?_;cases h1;refine .be rfl ?_;exact .again _ (A5, c5) hm1 trivial (zb rfl) (fun _ w => w)
   refine .regionX (iL [(.fl, 0), (.fl, 1), (.fx, 2), (.fl, 3), (.fx, 4), (.fl, 5), (.fl, 6), (.fl, 9), (.fl, 10), (.ef, 7), (.ef, 8), (.ef, 11), (.fl, 12)] .nil) (.res (Box g2 39 [.int .u8 x1.Key, .slice A4 x1.Value.length c4, .bool x1.Delete]) :: .ro (SlL eu8 A4 c4 x1.Value) :: .ro (Sl (codL l_T_Setting) A1 c1 l_p0) :: R) mixed (by kernel_rfl) (zl [0,0] 1 rfl) ?_;refine .xn 2 rfl ?_
   refine .xfx (Rd.loadB 0 rfl (.head _) rfl rfl) rfl ?_;refine .xfl (fun _ h => h) (Rd.p rfl) rfl ?_;refine .xfx (Rd.loadB 1 rfl (.head _) rfl rfl) rfl ?_;refine .xn 3 rfl ?_;refine .xfl (fun _ h => h) (Rd.loadB 1 rfl (.head _) rfl rfl) rfl ?_;refine .xef ?_;refine .buildSlice rfl rfl rfl rfl rfl rfl rfl rfl fun g4 => ?_;refine .xk (zl [1,1] 2 rfl) ?_;refine .xef ?_
   obtain ⟨l2, hl2, h1⟩ := bnd_e h1;refine .app (E := eu8) hl2 rfl rfl rfl (.s (.s (.s .z))) rfl rfl rfl rfl rfl rfl rfl rfl (srcB (.head _) rfl rfl) rfl rfl fun A6 c6 => ?_;refine .xk (zl [] 2 rfl) ?_;refine .xef ?_;obtain ⟨l3, hl3, h1⟩ := bnd_e h1;refine .app (E := eu8) hl3 rfl rfl rfl .z rfl rfl rfl rfl rfl rfl rfl rfl (srcL (.tail _ (.tail _ (.tail _ (.head _))))) rfl rfl fun A7 c7 => ?_
   refine .xk (zl [] 2 rfl) ?_;refine .xfl (fun _ h => h) (Rd.p rfl) rfl ?_;refine .xdone ?_;refine .blkN ?_;refine .thenN ?_;refine .pf [3,10,11,12] [0] 3 rfl rfl ?_;refine .region ?_;cases h1;refine .be rfl ?_;exact .again _ (A7, c7) hm1 trivial (zb rfl) (fun _ w => w)
  refine .exit ?_;repeat (first | refine .thenX ?_ | refine .blkMiss rfl ?_)
  refine .blkHit ?_;cases h1;have ho := hd1 _ rfl;subst ho;refine .thenN ?_;exact .hereE (A2, c2) (zb rfl) (zl [0] 1 rfl)
 rintro ⟨A3, c3⟩;refine .a 1 rfl ?_;refine .buildSlice rfl rfl rfl rfl rfl rfl rfl rfl fun g5 => ?_;obtain ⟨l4, hl4, h⟩ := bnd_e h;refine .app (E := eu8) hl4 rfl rfl rfl (.s .z) rfl rfl rfl rfl rfl rfl rfl rfl (srcB (.head _) rfl rfl) rfl rfl fun A8 c8 => ?_;refine .bf [2] [0] 1 rfl rfl ?_;cases h;exact .rt rfl Try.results47 (.tmp rfl .nil) rfl ⟨A8, c8, rfl, rfl⟩ (fun _ w => w)
theorem ent67 : Ent Try.prog 67 := ⟨_, Try.func67, by kernel_rfl, by kernel_rfl⟩
noncomputable def m_flash_Device_step (d_p0 : T_Device) : Option (T_Device × Bool) :=
  bif decide (d_p0.left > 0) then (some ((⟨d_p0.size, d_p0.bytes, d_p0.wear, IntKind.wrap .i64 (d_p0.steps + 1), IntKind.wrap .i64 (d_p0.left - 1), d_p0.torn, ((IntKind.wrap .i64 (d_p0.left - 1)) == 0)⟩ : T_Device), ((IntKind.wrap .i64 (d_p0.left - 1)) == 0))) else (some ((⟨d_p0.size, d_p0.bytes, d_p0.wear, IntKind.wrap .i64 (d_p0.steps + 1), d_p0.left, d_p0.torn, d_p0.down⟩ : T_Device), d_p0.down))
theorem c_flash_Device_step {d_p0 : T_Device} {A1 : Option Addr} {c1 : Nat} {A2 : Option Addr} {c2 : Nat} {gb1 : Nat} {r : (T_Device × Bool)} (h : m_flash_Device_step d_p0 = some r) :
    Fun Try.prog 67 [.pointer (some ⟨gb1, 0, none⟩)] [.res (Box gb1 80 (bx_T_Device d_p0 A1 c1 A2 c2)), .res (OwnL eu8 5 A1 c1 d_p0.bytes), .res (OwnL ei64 3 A2 c2 d_p0.wear)] (fun v_ F_ => ∃ (A3 : Option Addr) (c3 : Nat) (A4 : Option Addr) (c4 : Nat), v_ = .bool r.2 ∧ F_ = [.res (Box gb1 80 (bx_T_Device r.1 A3 c3 A4 c4)), .res (OwnL eu8 5 A3 c3 r.1.bytes), .res (OwnL ei64 3 A4 c4 r.1.wear)]) := by
 unfold m_flash_Device_step at h
 refine Fun.intro Try.func67 rfl rfl rfl fun w R => ?_;refine .ab [0] rfl ?_;refine .a 3 rfl ?_;refine .loadB 3 rfl rfl (.head _) rfl rfl ?_;refine .n 3 rfl ?_;refine .store 3 rfl rfl rfl rfl rfl rfl .z rfl ?_;refine .b [0] rfl ?_;refine .seq ?_;refine .a 3 rfl ?_;refine .loadB 4 rfl rfl (.head _) rfl rfl ?_;refine .b [0,14] rfl ?_;refine .cb h rfl (fun h => ?_) (fun h => ?_)
 ·refine .a 3 rfl ?_;refine .loadB 4 rfl rfl (.head _) rfl rfl ?_;refine .n 3 rfl ?_;refine .store 4 rfl rfl rfl rfl rfl rfl .z rfl ?_;refine .b [0] rfl ?_;refine .region ?_;refine .n 4 rfl ?_;refine .loadB 4 rfl rfl (.head _) rfl rfl ?_;refine .n 3 rfl ?_;refine .store 6 rfl rfl rfl rfl rfl rfl .z rfl ?_;refine .b [0] rfl ?_;refine .a 3 rfl ?_;refine .loadB 6 rfl rfl (.head _) rfl rfl ?_
  refine .b [2] rfl ?_;cases h;exact .rt rfl Try.results67 (.tmp rfl .nil) rfl ⟨A1, c1, A2, c2, rfl, rfl⟩ (fun _ w => w)
 refine .sk ?_;refine .pr [0] rfl ?_;refine .a 3 rfl ?_;refine .loadB 6 rfl rfl (.head _) rfl rfl ?_;refine .b [2] rfl ?_;cases h;exact .rt rfl Try.results67 (.tmp rfl .nil) rfl ⟨A1, c1, A2, c2, rfl, rfl⟩ (fun _ w => w)
theorem ent48 : Ent Try.prog 48 := ⟨_, Try.func48, by kernel_rfl, by kernel_rfl⟩
noncomputable def m_flash_Device_Program (d_p0 : T_Device) (at_p1 : Int) (b_p2 : (List Int)) : Option (T_Device × Int) :=
  bif d_p0.down then (some (d_p0, 10)) else (bnd (m_flash_Device_within d_p0 at_p1 (b_p2.length : Int)) fun r1 => bif !r1 then (some (d_p0, 2)) else (bnd (loopM (τ := (T_Device × Int) ⊕ T_Device) (fun (s1 : T_Device × Int) => bif decide (s1.2 < (b_p2.length : Int)) then (bnd (elt b_p2 s1.2) fun x1 => bnd (m_flash_Device_step s1.1) fun r2 => bif r2.2 then (bnd (elt r2.1.bytes (IntKind.wrap .i64 (at_p1 + s1.2))) fun x2 => bnd (elt r2.1.bytes (IntKind.wrap .i64 (at_p1 + s1.2))) fun x3 => bnd (elt r2.1.bytes (IntKind.wrap .i64 (at_p1 + s1.2))) fun x4 => bnd (setE r2.1.bytes (IntKind.wrap .i64 (at_p1 + s1.2)) (iAnd .u8 x3 (iOr .u8 x1 r2.1.torn))) fun l1 => some (.done (.inl ((⟨r2.1.size, l1, r2.1.wear, r2.1.steps, r2.1.left, r2.1.torn, r2.1.down⟩ : T_Device), 10)))) else (bnd (elt r2.1.bytes (IntKind.wrap .i64 (at_p1 + s1.2))) fun x5 => bnd (setE r2.1.bytes (IntKind.wrap .i64 (at_p1 + s1.2)) (iAnd .u8 x5 x1)) fun l2 => some (.next ((⟨r2.1.size, l2, r2.1.wear, r2.1.steps, r2.1.left, r2.1.torn, r2.1.down⟩ : T_Device), IntKind.wrap .i64 (s1.2 + 1))))) else (some (.done (.inr s1.1)))) (d_p0, 0)) fun o1 => retOr o1 fun o2 => some (o2, 0)))
theorem c_flash_Device_Program {d_p0 : T_Device} {at_p1 : Int} {b_p2 : (List Int)} {A1 : Option Addr} {c1 : Nat} {A2 : Option Addr} {c2 : Nat} {A3 : Option Addr} {c3 : Nat} {gb1 : Nat} {r : (T_Device × Int)} (h : m_flash_Device_Program d_p0 at_p1 b_p2 = some r) :
    Fun Try.prog 48 [.pointer (some ⟨gb1, 0, none⟩), .int .i64 at_p1, .slice A3 b_p2.length c3] [.ro (SlL eu8 A3 c3 b_p2), .res (Box gb1 80 (bx_T_Device d_p0 A1 c1 A2 c2)), .res (OwnL eu8 5 A1 c1 d_p0.bytes), .res (OwnL ei64 3 A2 c2 d_p0.wear)] (fun v_ F_ => ∃ (A4 : Option Addr) (c4 : Nat) (A5 : Option Addr) (c5 : Nat), v_ = .int .i64 r.2 ∧ F_ = [.res (Box gb1 80 (bx_T_Device r.1 A4 c4 A5 c5)), .res (OwnL eu8 5 A4 c4 r.1.bytes), .res (OwnL ei64 3 A5 c5 r.1.wear)]) := by
 unfold m_flash_Device_Program at h
 refine Fun.intro Try.func48 rfl rfl rfl fun w R => ?_;refine .ab [0,1,2] rfl ?_;refine .seq ?_;refine .block ?_;refine .a 3 rfl ?_;refine .loadB 6 rfl rfl (.tail _ (.head _)) rfl rfl ?_;refine .b [0,1,2,9] rfl ?_;refine .cb h rfl (fun h => ?_) (fun h => ?_)
 ·refine .abf [6] [] 1 rfl rfl ?_;cases h;exact .rt rfl Try.results48 (.tmp rfl .nil) rfl ⟨A1, c1, A2, c2, rfl, rfl⟩ (fun _ w => w)
 refine .a 4 rfl ?_;obtain ⟨r1, hr1, h⟩ := bnd_e h;refine .call (c_flash_Device_within hr1) ent58 rfl rfl rfl (zl [1,1,1] 0 rfl) ?_;rintro _ _ ⟨rfl, rfl⟩;refine .nm 4 rfl ?_;refine .b [0,1,2,14] rfl ?_;refine .cb h rfl (fun h => ?_) (fun h => ?_)
 ·refine .abf [6] [0,0,0] 1 rfl rfl ?_;cases h;exact .rt rfl Try.results48 (.tmp rfl .nil) rfl ⟨A1, c1, A2, c2, rfl, rfl⟩ (fun _ w => w)
 refine .skip ?_;refine .blkN ?_;refine .thenN ?_;refine .pr [0,1,2] rfl ?_;refine .seq ?_;refine .ab [0,1,21,22,23] rfl ?_;obtain ⟨o1, hl1, h⟩ := bnd_e h
 refine .cutI (fun (o2 : T_Device) (e2 : Option Addr × Nat × Option Addr × Nat) => []) (fun o2 e2 => .res (OwnL ei64 3 e2.2.2.1 e2.2.2.2 o2.wear) :: .res (OwnL eu8 5 e2.1 e2.2.1 o2.bytes) :: .res (Box gb1 80 (bx_T_Device o2 e2.1 e2.2.1 e2.2.2.1 e2.2.2.2)) :: R) (fun o2 => o1 = .inr o2) ?_ ?_
 ·refine .block ?_
  refine .loop hl1 (fun (s1 : T_Device × Int) (e1 : Option Addr × Nat × Option Addr × Nat) => [(0, .pointer (some ⟨gb1, 0, none⟩)), (1, .int .i64 at_p1), (21, .slice A3 b_p2.length c3), (22, .int .i64 (b_p2.length : Int)), (23, .int .i64 s1.2)]) (fun s1 e1 => .res (OwnL ei64 3 e1.2.2.1 e1.2.2.2 s1.1.wear) :: .res (OwnL eu8 5 e1.1 e1.2.1 s1.1.bytes) :: .res (Box gb1 80 (bx_T_Device s1.1 e1.1 e1.2.1 e1.2.2.1 e1.2.2.2)) :: .ro (SlL eu8 A3 c3 b_p2) :: R) (fun _ _ => True) (A1, c1, A2, c2) trivial (zb rfl) (zl [2,1] 0 rfl) ?_
  rintro s1 ⟨A4, c4, A5, c5⟩ - hit1;obtain ⟨st1, hm1, hd1⟩ := iter_e hit1;have h1 := hm1;refine .ae rfl ?_;refine .seq ?_;refine .cb h1 rfl (fun h1 => ?_) (fun h1 => ?_)
  ·refine .sk ?_;refine .pr [0,1,21,22,23] rfl ?_;refine .seq ?_;refine .block ?_;refine .a 1 rfl ?_;obtain ⟨x1, hx1, h1⟩ := bnd_e h1;refine .ixL hx1 rfl rfl rfl (zm 3 rfl) rfl rfl rfl rfl rfl fun b1 ob1 => ?_;refine .load ob1 0 rfl rfl (.head _) rfl rfl ?_;refine .bf [0,1,7,8,21,22,23] [] 1 rfl rfl ?_;refine .seq ?_;refine .a 1 rfl ?_;obtain ⟨r2, hr2, h1⟩ := bnd_e h1
   refine .call (c_flash_Device_step hr2) ent67 rfl rfl rfl (zl [2,1] 0 rfl) ?_;rintro _ _ ⟨A8, c8, A9, c9, rfl, rfl⟩;refine .nm 4 rfl ?_;refine .b [0,1,7,8,21,22,23,29] rfl ?_;refine .cb h1 rfl (fun h1 => ?_) (fun h1 => ?_)
   ·refine .seq ?_;obtain ⟨x2, hx2, h1⟩ := bnd_e h1;refine .openO (.tail _ (.head _)) hx2 fun g1 hA => ?_;subst hA
    refine .regionX (iL [(.fl, 0), (.fl, 1), (.fl, 2), (.fx, 3), (.fl, 4), (.fl, 5), (.fl, 6), (.fx, 7), (.fx, 8), (.fl, 9), (.fl, 10), (.fl, 11), (.fl, 12), (.fx, 13), (.fl, 14), (.fl, 15), (.fx, 16), (.ef, 17)] .nil) (.res (OwnL ei64 3 A9 c9 r2.1.wear) :: .ro (SlL eu8 A3 c3 b_p2) :: R) mixed (by kernel_rfl) (zl [] 2 rfl) ?_;refine .xn 3 rfl ?_
    refine .xfx (Rd.loadB 1 rfl (.head _) rfl rfl) rfl ?_;refine .xn 3 rfl ?_;obtain ⟨x3, hx3, h1⟩ := bnd_e h1;refine .xfx (Rd.ixO (E := eu8) hx3 rfl rfl rfl rfl rfl rfl rfl) rfl ?_;refine .xfx (Rd.ldO 0 hx3 rfl (.tail _ (.head _)) rfl rfl) rfl ?_;refine .xn 4 rfl ?_;refine .xfx (Rd.loadB 5 rfl (.head _) rfl rfl) rfl ?_;refine .xn 2 rfl ?_;obtain ⟨x4, hx4, h1⟩ := bnd_e h1
    refine .xfx (Rd.ixO (E := eu8) hx4 rfl rfl rfl rfl rfl rfl rfl) rfl ?_;refine .xef ?_;obtain ⟨l1, hl1, h1⟩ := bnd_e h1;refine .stO 0 hx4 hl1 rfl rfl (.s .z) rfl rfl rfl rfl rfl ?_;refine .ss 33 (sl_len hl1) ?_
    refine .asrt (F' := .res (OwnL eu8 5 (some ⟨g1, 0, none⟩) c8 l1) :: .res (Box gb1 80 [.int .i64 r2.1.size, .slice (some ⟨g1, 0, none⟩) l1.length c8, .slice A9 r2.1.wear.length c9, .int .i64 r2.1.steps, .int .i64 r2.1.left, .int .u8 r2.1.torn, .bool r2.1.down]) :: .res (OwnL ei64 3 A9 c9 r2.1.wear) :: .ro (SlL eu8 A3 c3 b_p2) :: R) (fun _ w => by rw [setE_len hl1]; exact w) ?_
    refine .xk (zl [] 2 rfl) ?_;refine .xdone ?_;refine .thenN ?_;refine .pf [] [0,0,0] 1 rfl rfl ?_;refine .ae rfl ?_;refine .ret ?_;repeat (first | refine .thenR ?_ | refine .blkR ?_)
    cases h1;have ho := hd1 _ rfl;subst ho;have h : some _ = some _ := h;cases h;exact .finR Try.results48 (.tmp rfl .nil) rfl _ ⟨(some ⟨g1, 0, none⟩), c8, A9, c9, rfl, rfl⟩ (zl [1] 0 rfl)
   refine .sk ?_;refine .pr [0,1,7,8,21,22,23] rfl ?_;refine .region ?_;refine .n 3 rfl ?_;refine .loadB 1 rfl rfl (.head _) rfl rfl ?_;refine .n 3 rfl ?_;obtain ⟨x5, hx5, h1⟩ := bnd_e h1;refine .ixO hx5 rfl rfl rfl (.tail _ (.head _)) rfl rfl rfl rfl rfl fun g4 hA => ?_;subst hA;refine .ldO 0 hx5 rfl rfl (.tail _ (.head _)) rfl rfl ?_;refine .n 2 rfl ?_
   refine .ixO hx5 rfl rfl rfl (.tail _ (.head _)) rfl rfl rfl rfl rfl fun g5 hA => ?_;cases hA;obtain ⟨l2, hl2, h1⟩ := bnd_e h1;refine .stO 0 hx5 hl2 rfl rfl (.s .z) rfl rfl rfl rfl rfl ?_;refine .ss 50 (sl_len hl2) ?_
   refine .asrt (F' := .res (OwnL eu8 5 (some ⟨g4, 0, none⟩) c8 l2) :: .res (Box gb1 80 [.int .i64 r2.1.size, .slice (some ⟨g4, 0, none⟩) l2.length c8, .slice A9 r2.1.wear.length c9, .int .i64 r2.1.steps, .int .i64 r2.1.left, .int .u8 r2.1.torn, .bool r2.1.down]) :: .res (OwnL ei64 3 A9 c9 r2.1.wear) :: .ro (SlL eu8 A3 c3 b_p2) :: R) (fun _ w => by rw [setE_len hl2]; exact w) ?_;refine .done ?_
   refine .blkN ?_;refine .thenN ?_;refine .pr [0,1,21,22,23] rfl ?_;refine .region ?_;cases h1;refine .be rfl ?_;exact .again _ ((some ⟨g4, 0, none⟩), c8, A9, c9) hm1 trivial (zb rfl) (zl [2] 0 rfl)
  refine .exit ?_;repeat (first | refine .thenX ?_ | refine .blkMiss rfl ?_)
  refine .blkHit ?_;cases h1;have ho := hd1 _ rfl;subst ho;refine .thenN ?_;exact .hereI s1.1 (A4, c4, A5, c5) rfl trivial (zl [0,0,0] 1 rfl)
 rintro o2 ⟨A6, c6, A7, c7⟩ ho;subst ho;have h := unR h;refine .ae rfl ?_;cases h;exact .rt rfl Try.results48 (.tmp rfl .nil) rfl ⟨A6, c6, A7, c7, rfl, rfl⟩ (zl [2,1] 0 rfl)
theorem ent68 : Ent Try.prog 68 := ⟨_, Try.func68, by kernel_rfl, by kernel_rfl⟩
noncomputable def m_flash_Device_Erase (d_p0 : T_Device) (sector : Int) : Option (T_Device × Int) :=
  bif d_p0.down then (some (d_p0, 10)) else (bnd ((bif decide (sector < 0) then (some true) else (some (decide (sector ≥ (d_p0.wear.length : Int)))) : Option Bool)) fun o1 => bif o1 then (some (d_p0, 2)) else (bnd (elt d_p0.wear sector) fun x1 => bnd (setE d_p0.wear sector (IntKind.wrap .i64 (x1 + 1))) fun l1 => bnd (m_flash_Device_step (⟨d_p0.size, d_p0.bytes, l1, d_p0.steps, d_p0.left, d_p0.torn, d_p0.down⟩ : T_Device)) fun r1 => bnd ((bif r1.2 then (some r1.1.torn) else (some 255) : Option Int)) fun o2 => bnd (partM r1.1.bytes.length (IntKind.wrap .i64 (sector * r1.1.size)) (IntKind.wrap .i64 ((IntKind.wrap .i64 (sector + 1)) * r1.1.size))) fun n1 => bnd (loopM (τ := T_Device) (fun (s1 : T_Device × Int) => bif decide (s1.2 < (n1 : Int)) then (bnd (eltP s1.1.bytes (Int.toNat (IntKind.wrap .i64 (sector * r1.1.size))) n1 s1.2) fun x2 => bnd (eltP s1.1.bytes (Int.toNat (IntKind.wrap .i64 (sector * r1.1.size))) n1 s1.2) fun x3 => bnd (setE s1.1.bytes (((Int.toNat (IntKind.wrap .i64 (sector * r1.1.size)) : Nat) : Int) + s1.2) (iOr .u8 x2 o2)) fun l2 => some (.next ((⟨s1.1.size, l2, s1.1.wear, s1.1.steps, s1.1.left, s1.1.torn, s1.1.down⟩ : T_Device), IntKind.wrap .i64 (s1.2 + 1)))) else (some (.done s1.1))) (r1.1, 0)) fun o3 => bif r1.2 then (some (o3, 10)) else (some (o3, 0))))
set_option maxHeartbeats 4000000 in
theorem c_flash_Device_Erase {d_p0 : T_Device} {sector : Int} {A1 : Option Addr} {c1 : Nat} {A2 : Option Addr} {c2 : Nat} {gb1 : Nat} {r : (T_Device × Int)} (h : m_flash_Device_Erase d_p0 sector = some r) :
    Fun Try.prog 68 [.pointer (some ⟨gb1, 0, none⟩), .int .i64 sector] [.res (Box gb1 80 (bx_T_Device d_p0 A1 c1 A2 c2)), .res (OwnL eu8 5 A1 c1 d_p0.bytes), .res (OwnL ei64 3 A2 c2 d_p0.wear)] (fun v_ F_ => ∃ (A3 : Option Addr) (c3 : Nat) (A4 : Option Addr) (c4 : Nat), v_ = .int .i64 r.2 ∧ F_ = [.res (Box gb1 80 (bx_T_Device r.1 A3 c3 A4 c4)), .res (OwnL eu8 5 A3 c3 r.1.bytes), .res (OwnL ei64 3 A4 c4 r.1.wear)]) := by
 unfold m_flash_Device_Erase at h
 refine Fun.intro Try.func68 rfl rfl rfl fun w R => ?_;refine .ab [0,1] rfl ?_;refine .seq ?_;refine .block ?_;refine .a 3 rfl ?_;refine .loadB 6 rfl rfl (.head _) rfl rfl ?_;refine .b [0,1,9] rfl ?_;refine .cb h rfl (fun h => ?_) (fun h => ?_)
 ·refine .ab [4] rfl ?_;cases h;exact .rt rfl Try.results68 (.tmp rfl .nil) rfl ⟨A1, c1, A2, c2, rfl, rfl⟩ (fun _ w => w)
 refine .seq ?_;obtain ⟨o1, hj1, h⟩ := bnd_e h;refine .cutE (fun (e1 : Unit) => [(0, .pointer (some ⟨gb1, 0, none⟩)), (1, .int .i64 sector), (14, .bool o1)]) (fun e1 => .res (Box gb1 80 (bx_T_Device d_p0 A1 c1 A2 c2)) :: .res (OwnL eu8 5 A1 c1 d_p0.bytes) :: .res (OwnL ei64 3 A2 c2 d_p0.wear) :: R) ?_ ?_
 ·refine .region ?_;refine .n 3 rfl ?_;refine .gSplit (dj := 17) _ rfl (fun hb2 => ?_) (fun hb2 => ?_)
  ·replace hj1 := bif_t hb2 hj1;cases hj1;refine .be rfl ?_;exact .hereE () (zb rfl) (fun _ w => w)
  replace hj1 := bif_f hb2 hj1;refine .n 4 rfl ?_;refine .gOn (dj := 17) rfl rfl ?_;refine .loadB 2 rfl rfl (.head _) rfl rfl ?_;cases hj1;refine .be rfl ?_;exact .hereE () (zb rfl) (fun _ w => w)
 rintro e1;refine .cb h rfl (fun h => ?_) (fun h => ?_)
 ·refine .ab [4] rfl ?_;cases h;exact .rt rfl Try.results68 (.tmp rfl .nil) rfl ⟨A1, c1, A2, c2, rfl, rfl⟩ (fun _ w => w)
 refine .skip ?_;refine .blkN ?_;refine .thenN ?_;refine .pr [0,1] rfl ?_;refine .a 3 rfl ?_;refine .loadB 2 rfl rfl (.head _) rfl rfl ?_;refine .p rfl rfl ?_;obtain ⟨x1, hx1, h⟩ := bnd_e h;refine .ixO hx1 rfl rfl rfl (zm 2 rfl) rfl rfl rfl rfl rfl fun g1 hA => ?_;subst hA;refine .ldO 0 hx1 rfl rfl (zm 2 rfl) rfl rfl ?_;refine .p rfl rfl ?_
 refine .ixO hx1 rfl rfl rfl (zm 2 rfl) rfl rfl rfl rfl rfl fun g2 hA => ?_;cases hA;obtain ⟨l1, hl1, h⟩ := bnd_e h;refine .stO 0 hx1 hl1 rfl rfl (.s (.s .z)) rfl rfl rfl rfl rfl ?_;refine .ss 29 (sl_len hl1) ?_
 refine .asrt (F' := .res (OwnL ei64 3 (some ⟨g1, 0, none⟩) c2 l1) :: .res (Box gb1 80 [.int .i64 d_p0.size, .slice A1 d_p0.bytes.length c1, .slice (some ⟨g1, 0, none⟩) l1.length c2, .int .i64 d_p0.steps, .int .i64 d_p0.left, .int .u8 d_p0.torn, .bool d_p0.down]) :: .res (OwnL eu8 5 A1 c1 d_p0.bytes) :: R) (fun _ w => by rw [setE_len hl1]; exact w) ?_;refine .b [0,1] rfl ?_;refine .a 1 rfl ?_
 obtain ⟨r1, hr1, h⟩ := bnd_e h;refine .call (c_flash_Device_step hr1) ent67 rfl rfl rfl (zl [1,1] 0 rfl) ?_;rintro _ _ ⟨A3, c3, A4, c4, rfl, rfl⟩;refine .nm 3 rfl ?_;refine .b [0,1,5] rfl ?_;refine .ae rfl ?_;refine .seq ?_;obtain ⟨o2, hj2, h⟩ := bnd_e h
 refine .cutE (fun (e2 : Unit) => [(0, .pointer (some ⟨gb1, 0, none⟩)), (1, .int .i64 sector), (5, .bool r1.2), (6, .int .u8 o2)]) (fun e2 => .res (Box gb1 80 (bx_T_Device r1.1 A3 c3 A4 c4)) :: .res (OwnL eu8 5 A3 c3 r1.1.bytes) :: .res (OwnL ei64 3 A4 c4 r1.1.wear) :: R) ?_ ?_
 ·refine .ae rfl ?_;refine .cb hj2 rfl (fun hj2 => ?_) (fun hj2 => ?_)
  ·refine .region ?_;refine .n 3 rfl ?_;refine .loadB 5 rfl rfl (.head _) rfl rfl ?_;cases hj2;refine .be rfl ?_;exact .hereE () (zb rfl) (fun _ w => w)
  cases hj2;refine .sk ?_;exact .hereE () (zb rfl) (fun _ w => w)
 rintro e2;refine .seq ?_;refine .regionF mixed (by kernel_rfl) ?_;refine .n 3 rfl ?_;refine .loadB 1 rfl rfl (.head _) rfl rfl ?_;refine .n 4 rfl ?_;refine .loadB 0 rfl rfl (.head _) rfl rfl ?_;refine .n 6 rfl ?_;refine .loadB 0 rfl rfl (.head _) rfl rfl ?_;refine .p rfl rfl ?_;obtain ⟨n1, hn1, h⟩ := bnd_e h;refine .part (E := eu8) hn1 rfl rfl (.tail _ (.head _)) rfl rfl rfl rfl rfl rfl rfl ?_
 refine .bq [5,6,7] rfl ?_;refine .seq ?_;refine .ab [5,6,7,61,62] rfl ?_;obtain ⟨o3, hl1, h⟩ := bnd_e h;refine .cutE (fun (e4 : Option Addr × Nat × Option Addr × Nat) => [(5, .bool r1.2)]) (fun e4 => .res (OwnL ei64 3 e4.2.2.1 e4.2.2.2 o3.wear) :: .res (OwnL eu8 5 e4.1 e4.2.1 o3.bytes) :: .res (Box gb1 80 (bx_T_Device o3 e4.1 e4.2.1 e4.2.2.1 e4.2.2.2)) :: R) ?_ ?_
 ·refine .block ?_
  refine .loop hl1 (fun (s1 : T_Device × Int) (e3 : Option Addr × Nat × Option Addr × Nat) => [(5, .bool r1.2), (6, .int .u8 o2), (7, .slice (partA e3.1 e3.2.1 (Int.toNat (IntKind.wrap .i64 (sector * r1.1.size))) 1) n1 (e3.2.1 - (Int.toNat (IntKind.wrap .i64 (sector * r1.1.size))))), (61, .int .i64 (n1 : Int)), (62, .int .i64 s1.2)]) (fun s1 e3 => .res (OwnL ei64 3 e3.2.2.1 e3.2.2.2 s1.1.wear) :: .res (OwnL eu8 5 e3.1 e3.2.1 s1.1.bytes) :: .res (Box gb1 80 (bx_T_Device s1.1 e3.1 e3.2.1 e3.2.2.1 e3.2.2.2)) :: R) (fun _ _ => True) (A3, c3, A4, c4) trivial (zb rfl) (zl [2,1] 0 rfl) ?_
  rintro s1 ⟨A5, c5, A6, c6⟩ - hit1;obtain ⟨st1, hm1, hd1⟩ := iter_e hit1;have h1 := hm1;refine .ae rfl ?_;refine .seq ?_;refine .cb h1 rfl (fun h1 => ?_) (fun h1 => ?_)
  ·refine .sk ?_;refine .pr [5,6,7,61,62] rfl ?_;refine .seq ?_;refine .block ?_;refine .ab [5,6,7,8,61,62] rfl ?_;refine .region ?_;refine .n 2 rfl ?_;obtain ⟨x2, hx2, h1⟩ := bnd_e h1;refine .ixPt (E := eu8) partOk0 hx2 rfl rfl rfl (.tail _ (.head _)) rfl rfl rfl rfl fun g3 hA => ?_;subst hA;refine .ldO 0 (eltP_e hx2) rfl rfl (.tail _ (.head _)) rfl rfl ?_;refine .n 2 rfl ?_
   obtain ⟨x3, hx3, h1⟩ := bnd_e h1;refine .ixPt (E := eu8) partOk0 hx3 rfl rfl rfl (.tail _ (.head _)) rfl rfl rfl rfl fun g4 hA => ?_;cases hA;obtain ⟨l2, hl2, h1⟩ := bnd_e h1;refine .stO 0 (eltP_e hx3) hl2 rfl rfl (.s .z) rfl rfl rfl rfl rfl ?_
   refine .asrt (F' := .res (OwnL eu8 5 (some ⟨g3, 0, none⟩) c5 l2) :: .res (OwnL ei64 3 A6 c6 s1.1.wear) :: .res (Box gb1 80 [.int .i64 s1.1.size, .slice (some ⟨g3, 0, none⟩) l2.length c5, .slice A6 s1.1.wear.length c6, .int .i64 s1.1.steps, .int .i64 s1.1.left, .int .u8 s1.1.torn, .bool s1.1.down]) :: R) (fun _ w => by rw [setE_len hl2]; exact w) ?_;refine .done ?_;refine .blkN ?_
   refine .thenN ?_;refine .pr [5,6,7,61,62] rfl ?_;refine .region ?_;cases h1;refine .be rfl ?_;exact .again _ ((some ⟨g3, 0, none⟩), c5, A6, c6) hm1 trivial (zb rfl) (zl [1] 0 rfl)
  refine .exit ?_;repeat (first | refine .thenX ?_ | refine .blkMiss rfl ?_)
  refine .blkHit ?_;cases h1;have ho := hd1 _ rfl;subst ho;refine .thenN ?_;exact .hereE (A5, c5, A6, c6) (zb rfl) (fun _ w => w)
 rintro ⟨A7, c7, A8, c8⟩;refine .seq ?_;refine .ab [73] rfl ?_;refine .cb h rfl (fun h => ?_) (fun h => ?_)
 ·refine .ab [4] rfl ?_;cases h;exact .rt rfl Try.results68 (.tmp rfl .nil) rfl ⟨A7, c7, A8, c8, rfl, rfl⟩ (zl [2,1] 0 rfl)
 refine .sk ?_;refine .pr [] rfl ?_;refine .ae rfl ?_;cases h;exact .rt rfl Try.results68 (.tmp rfl .nil) rfl ⟨A7, c7, A8, c8, rfl, rfl⟩ (zl [2,1] 0 rfl)
theorem ent65 : Ent Try.prog 65 := ⟨_, Try.func65, by kernel_rfl, by kernel_rfl⟩
theorem ent64 : Ent Try.prog 64 := ⟨_, Try.func64, by kernel_rfl, by kernel_rfl⟩
theorem ent43 : Ent Try.prog 43 := ⟨_, Try.func43, by kernel_rfl, by kernel_rfl⟩
noncomputable def m__settings_values_sorted (v_p0 : (Option (List (Int × (List Int))))) : Option (List T_Setting) :=
  bnd (m_mapKeys v_p0) fun r1 => bnd (m_sortedKeys v_p0) fun r2 => bnd (loopM (τ := List T_Setting) (fun (s1 : List T_Setting × Int) => bif decide (s1.2 < (r2.length : Int)) then (bnd (elt r2 s1.2) fun x1 => bnd (m_slices_Clone__byte_byte ((mget (kint .u8).eq (v_p0.getD []) x1).getD [])) fun r3 => bnd (app 40 s1.1 [(⟨x1, r3, false⟩ : T_Setting)]) fun l1 => some (.next (l1, IntKind.wrap .i64 (s1.2 + 1)))) else (some (.done s1.1))) ([], 0)) fun o1 => some o1
theorem c__settings_values_sorted {v_p0 : (Option (List (Int × (List Int))))} {M1 : Option Nat} {r : (List T_Setting)} (h : m__settings_values_sorted v_p0 = some r) :
    Fun Try.prog 43 [.map M1] [.res (MapV (kint .u8) (cod eu8) M1 v_p0)] (fun v_ F_ => ∃ (A1 : Option Addr) (c1 : Nat), v_ = .slice A1 r.length c1 ∧ F_ = [.res (MapV (kint .u8) (cod eu8) M1 v_p0), .res (OwnC (codL l_T_Setting) 39 A1 c1 r)]) := by
 unfold m__settings_values_sorted at h
 refine Fun.intro Try.func43 rfl rfl rfl fun w R => ?_;refine .ab [0] rfl ?_;refine .ae rfl ?_;refine .seq ?_;refine .a 1 rfl ?_;obtain ⟨r1, hr1, h⟩ := bnd_e h;refine .call (c_mapKeys hr1) ent65 rfl rfl rfl (fun _ w => w) ?_;rintro _ _ ⟨g1, rfl, rfl⟩;refine .nm 2 rfl ?_;obtain ⟨r2, hr2, h⟩ := bnd_e h;refine .call (c_sortedKeys hr2) ent64 rfl rfl rfl (fun _ w => w) ?_;rintro _ _ ⟨A1, c1, rfl, rfl⟩
 refine .nm 3 rfl ?_;refine .bf [0,3,8,9,10] [] 1 rfl rfl ?_;refine .asrt (fun _ w => w.nilC (codL l_T_Setting) 39) ?_;obtain ⟨o1, hl1, h⟩ := bnd_e h;refine .cutE (fun (e2 : Option Addr × Nat) => [(3, .slice e2.1 o1.length e2.2)]) (fun e2 => .res (OwnC (codL l_T_Setting) 39 e2.1 e2.2 o1) :: .res (MapV (kint .u8) (cod eu8) M1 v_p0) :: R) ?_ ?_
 ·refine .block ?_
  refine .loop hl1 (fun (s1 : List T_Setting × Int) (e1 : Option Addr × Nat) => [(0, .map M1), (3, .slice e1.1 s1.1.length e1.2), (8, .slice A1 r2.length c1), (9, .int .i64 (r2.length : Int)), (10, .int .i64 s1.2)]) (fun s1 e1 => .res (OwnC (codL l_T_Setting) 39 e1.1 e1.2 s1.1) :: .res (MapV (kint .u8) (cod eu8) M1 v_p0) :: .res (OwnL eu8 5 A1 c1 r2) :: R) (fun _ _ => True) (none, 0) trivial (zb rfl) (fun _ w => w) ?_
  rintro s1 ⟨A2, c2⟩ - hit1;obtain ⟨st1, hm1, hd1⟩ := iter_e hit1;have h1 := hm1;refine .ae rfl ?_;refine .seq ?_;refine .cb h1 rfl (fun h1 => ?_) (fun h1 => ?_)
  ·refine .sk ?_;refine .pr [0,3,8,9,10] rfl ?_;refine .seq ?_;refine .block ?_;refine .seq ?_;refine .region ?_;obtain ⟨x1, hx1, h1⟩ := bnd_e h1;refine .ixO hx1 rfl rfl rfl (zm 2 rfl) rfl rfl rfl rfl rfl fun g2 hA => ?_;subst hA;refine .ldO 0 hx1 rfl rfl (zm 2 rfl) rfl rfl ?_;refine .b [0,3,5,8,9,10] rfl ?_;refine .region ?_;refine .n 4 rfl ?_
   refine .lookupV (K := (kint .u8)) (E := (cod eu8)) x1 rfl rfl rfl (.tail _ (.head _)) rfl rfl rfl rfl rfl rfl fun A4 c4 => ?_;obtain ⟨r3, hr3, h1⟩ := bnd_e h1;refine .call (c_slices_Clone__byte_byte hr3) ent44 rfl rfl rfl (zd [0] [] 0 rfl) ?_;rintro _ _ ⟨A5, c5, rfl, rfl⟩;refine .nm 5 rfl ?_;refine .p rfl rfl ?_;refine .buildSlice rfl rfl rfl rfl rfl rfl rfl rfl fun g3 => ?_
   obtain ⟨l1, hl1, h1⟩ := bnd_e h1;refine .asrt (fun _ w => (w.sl [1] 0 rfl).meltL) ?_;refine .appC (E := (codL l_T_Setting)) hl1 rfl rfl rfl (.s (.s (.s .z))) rfl rfl rfl rfl rfl rfl rfl rfl (srcBC (ls := l_T_Setting) [((⟨x1, r3, false⟩ : T_Setting), ((A5, c5), ()))] (.tail _ (.head _)) rfl rfl rfl ⟨(.head _), trivial⟩) rfl rfl fun A6 c6 => ?_;refine .p rfl rfl ?_;refine .done ?_;refine .blkN ?_
   refine .thenN ?_;refine .pf [0,3,8,9,10] [0] 3 rfl rfl ?_;refine .region ?_;cases h1;refine .be rfl ?_;exact .again _ (A6, c6) hm1 trivial (zb rfl) (fun _ w => w)
  refine .exit ?_;repeat (first | refine .thenX ?_ | refine .blkMiss rfl ?_)
  refine .blkHit ?_;cases h1;have ho := hd1 _ rfl;subst ho;refine .thenN ?_;exact .hereE (A2, c2) (zb rfl) (zl [0,0] 1 rfl)
 rintro ⟨A3, c3⟩;refine .ab [2] rfl ?_;cases h;exact .rt rfl Try.results43 (.tmp rfl .nil) rfl ⟨A3, c3, rfl, rfl⟩ (zl [1] 0 rfl)
theorem ent49 : Ent Try.prog 49 := ⟨_, Try.func49, by kernel_rfl, by kernel_rfl⟩
noncomputable def m_settings_Store_move (s_p0 : T_settings_Store) (next : (Option (List (Int × (List Int))))) (s_p0_d : T_Device) : Option (T_settings_Store × T_Device × Int) :=
  bif (s_p0.generation == 2147483648) then (some (s_p0, s_p0_d, 3)) else (bnd ((bif (s_p0.active == 0) then (some 1) else (some 0) : Option Int)) fun o1 => bnd (chkB s_p0.d) fun b1 => bnd (m_flash_Device_Size s_p0_d) fun r1 => bnd (chkB s_p0.d) fun b2 => bnd (m_flash_Device_Size s_p0_d) fun r2 => bnd (m_flash_Device_Read s_p0_d (IntKind.wrap .i64 ((IntKind.wrap .i64 (s_p0.first + o1)) * r1)) r2) fun r3 => bnd ((bnd ((bif (r3.2.2 == 0) then (bnd (m_settings_blank r3.2.1) fun r4 => some (!r4)) else (some false) : Option Bool)) fun o3 => bif o3 then (bnd (chkB s_p0.d) fun b3 => bnd (m_flash_Device_Erase r3.1 (IntKind.wrap .i64 (s_p0.first + o1))) fun r5 => some (r5.2, r5.1)) else (some (r3.2.2, r3.1)) : Option (Int × T_Device))) fun o2 => bnd ((bif (o2.1 == 0) then (bnd (chkB s_p0.d) fun b4 => bnd (m_flash_Device_Program o2.2 (IntKind.wrap .i64 ((IntKind.wrap .i64 (s_p0.first + o1)) * r1)) ([IntKind.wrap .u8 (IntKind.wrap .i64 (s_p0.generation + 1)), IntKind.wrap .u8 (iShr .i64 (IntKind.wrap .i64 (s_p0.generation + 1)) 8), IntKind.wrap .u8 (iShr .i64 (IntKind.wrap .i64 (s_p0.generation + 1)) 16), IntKind.wrap .u8 (iShr .i64 (IntKind.wrap .i64 (s_p0.generation + 1)) 24)])) fun r6 => some (r6.2, r6.1)) else (some (o2.1, o2.2)) : Option (Int × T_Device))) fun o4 => bnd ((bnd ((bif (o4.1 == 0) then (some (decide ((((next.getD []).length : Nat) : Int) > 0))) else (some false) : Option Bool)) fun o6 => bif o6 then (bnd (m__settings_values_sorted next) fun r7 => bnd (m_settings_encode r7) fun r8 => bnd (chkB s_p0.d) fun b5 => bnd (m_flash_Device_Program o4.2 (IntKind.wrap .i64 ((IntKind.wrap .i64 ((IntKind.wrap .i64 (s_p0.first + o1)) * r1)) + 5)) r8) fun r9 => some (IntKind.wrap .i64 (5 + (r8.length : Int)), r9.2, r9.1)) else (some (5, o4.1, o4.2)) : Option (Int × Int × T_Device))) fun o5 => bnd ((bif (o5.2.1 == 0) then (bnd (chkB s_p0.d) fun b6 => bnd (m_flash_Device_Program o5.2.2 (IntKind.wrap .i64 ((IntKind.wrap .i64 ((IntKind.wrap .i64 (s_p0.first + o1)) * r1)) + 4)) ([0])) fun r10 => some (r10.2, r10.1)) else (some (o5.2.1, o5.2.2)) : Option (Int × T_Device))) fun o7 => bif (o7.1 == 0) then (some ((⟨s_p0.d, s_p0.first, o1, IntKind.wrap .i64 (s_p0.generation + 1), next, o5.1, true, s_p0.ended⟩ : T_settings_Store), o7.2, o7.1)) else (some (s_p0, o7.2, o7.1)))
end Go.Proofs.Ythdpagcklakahaa
end
