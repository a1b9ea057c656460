/-
  The bytes of a valid bundle are decoded to it.
  Conditions: none.
-/
import Derived.Test.YtgnmhmnglbbamaaBun6
namespace Go.Proofs.Ytgnmhmnglbbamaa
open Go
set_option linter.unusedSimpArgs false
set_option linter.unusedVariables false

def twoN (n : Nat) : List Nat := [n / 256 % 256, n % 256]
def fourN (n : Nat) : List Nat := [n / 16777216 % 256, n / 65536 % 256, n / 256 % 256, n % 256]
def verN (v : T_Version) : List Nat := twoN v.Major.toNat ++ (twoN v.Minor.toNat ++ twoN v.Patch.toNat)
def txtN (s : ByteArray) : List Nat := s.size % 256 :: bs s
def datN (d : List Int) : List Nat := d.map Int.toNat
def imgN (i : T_Image) : List Nat := txtN i.Name ++ (verN i.Version ++ (twoN i.Data.length ++ datN i.Data))
def imgSN (i : T_Image) : List Nat := imgN i ++ fourN (sumF i).toNat
def needN (n : T_Need) : List Nat := txtN n.Component ++ (verN n.From ++ (txtN n.On ++ verN n.At))
def bodyN (b : T_Bundle) : List Nat := [66, 77, 67, 70, b.Images.length % 256] ++ (b.Images.flatMap imgSN ++ (b.Needs.length % 256 :: b.Needs.flatMap needN))
def encNN (b : T_Bundle) : List Nat := bodyN b ++ fourN (crcF (iz (bodyN b))).toNat

def okD (i : T_Image) : Prop := okL (inK .u8) i.Data
def okU (b : T_Bundle) : Prop := ∀ i ∈ b.Images, okD i

theorem two_iz {n : Nat} : two (n : Int) = iz (twoN n) := by
  unfold two twoN
  rw [show (8 : Int) = ((8 : Nat) : Int) from rfl, iShr_n (by decide), wrap_u8_modn, wrap_u8_modn]
  rfl
theorem four_iz {n : Nat} : four (n : Int) = iz (fourN n) := by
  unfold four fourN
  rw [show (24 : Int) = ((24 : Nat) : Int) from rfl, show (16 : Int) = ((16 : Nat) : Int) from rfl, show (8 : Int) = ((8 : Nat) : Int) from rfl, iShr_n (by decide), iShr_n (by decide), iShr_n (by decide), wrap_u8_modn, wrap_u8_modn, wrap_u8_modn, wrap_u8_modn]
  rfl
theorem four_izT {x : Int} (h : 0 ≤ x) : four x = iz (fourN x.toNat) := by
  rw [← four_iz]
  congr 1
  omega
theorem two_izT {x : Int} (h : 0 ≤ x) : two x = iz (twoN x.toNat) := by
  rw [← two_iz]
  congr 1
  omega
theorem numB_ok {n : Int} (h : numB n = true) : 0 ≤ n ∧ n ≤ 999 := by
  unfold numB at h
  simpa using h
theorem verB_ok {v : T_Version} (h : verB v = true) : (0 ≤ v.Major ∧ v.Major ≤ 999) ∧ (0 ≤ v.Minor ∧ v.Minor ≤ 999) ∧ (0 ≤ v.Patch ∧ v.Patch ≤ 999) := by
  unfold verB at h
  simp only [Bool.and_eq_true] at h
  exact ⟨numB_ok h.1, numB_ok h.2.1, numB_ok h.2.2⟩
theorem ver_iz {v : T_Version} (h : verB v = true) : verL v = iz (verN v) := by
  obtain ⟨h1, h2, h3⟩ := verB_ok h
  unfold verL verN
  rw [two_izT h1.1, two_izT h2.1, two_izT h3.1, iz_app, iz_app]
theorem txt_iz (s : ByteArray) : txtL s = iz (txtN s) := by
  unfold txtL txtN
  rw [wrap_u8_modn, bytesOf_iz, iz_cons]
theorem dat_iz {d : List Int} (h : okL (inK .u8) d) : d = iz (datN d) := by
  obtain ⟨l, _, rfl⟩ := okL_iz h
  congr 1
  unfold datN iz
  rw [List.map_map]
  conv => lhs; rw [← List.map_id l]
  apply List.map_congr_left
  intro x _
  simp
theorem dat_lt {d : List Int} (h : okL (inK .u8) d) : lt256 (datN d) := by
  obtain ⟨l, h1, h2⟩ := okL_iz h
  have : datN d = l := iz_inj (by rw [← dat_iz h, h2])
  rw [this]
  exact h1
@[simp] theorem dat_len (d : List Int) : (datN d).length = d.length := by simp [datN]
theorem img_iz {i : T_Image} (h : verB i.Version = true) (hd : okD i) : imgL i = iz (imgN i) := by
  have : imgL i = txtL i.Name ++ (verL i.Version ++ (two (i.Data.length : Int) ++ i.Data)) := rfl
  rw [this, txt_iz, ver_iz h, two_iz]
  unfold imgN
  conv => lhs; rw [dat_iz hd]
  rw [iz_app, iz_app, iz_app]
  congr 4
  rw [iz_len, dat_len]
theorem imgS_iz {i : T_Image} (h : rightB i = true) (hd : okD i) : imgS i = iz (imgSN i) := by
  unfold imgS imgSN
  rw [img_iz (right_spec h).2.1 hd, four_izT (sumF_range i).1, iz_app]
theorem need_spec {n : T_Need} (h : needB n = true) : nameB n.Component = true ∧ nameB n.On = true ∧ verB n.From = true ∧ verB n.At = true := by
  unfold needB at h
  simp only [Bool.and_eq_true] at h
  exact ⟨h.1, h.2.1, h.2.2.2.1, h.2.2.2.2⟩
theorem need_iz {n : T_Need} (h : needB n = true) : needL n = iz (needN n) := by
  obtain ⟨h1, h2, h3, h4⟩ := need_spec h
  unfold needL needN
  rw [txt_iz, txt_iz, ver_iz h3, ver_iz h4, iz_app, iz_app, iz_app]
theorem flat_iz {α : Type} (f : α → List Int) (g : α → List Nat) : ∀ (l : List α), (∀ x ∈ l, f x = iz (g x)) → l.flatMap f = iz (l.flatMap g)
  | [], _ => rfl
  | x :: r, h => by
    rw [List.flatMap_cons, List.flatMap_cons, h x (by simp), flat_iz f g r fun y hy => h y (by simp [hy]), iz_app]

theorem enc_iz {b : T_Bundle} (h : validB b = 0) (ho : okU b) : encN b = iz (bodyN b) := by
  obtain ⟨h1, h2, h3, h4, h5⟩ := valid0 h
  unfold encN encI bodyN
  rw [wrap_u8_modn, wrap_u8_modn, flat_iz imgS imgSN _ fun i hi => imgS_iz (h3 i hi) (ho i hi), flat_iz needL needN _ fun n hn => need_iz (h5 n hn)]
  simp only [← iz_app, iz_cons, iz_nil, List.append_assoc, List.cons_append, List.nil_append]
  rfl
theorem encB_iz {b : T_Bundle} (h : validB b = 0) (ho : okU b) : encB b = iz (encNN b) := by
  unfold encB encNN
  rw [four_izT (crcF_range _).1, enc_iz h ho, iz_app]

theorem lt_twoN (n : Nat) : lt256 (twoN n) := .cons (by omega) (.cons (by omega) .nil)
theorem lt_fourN (n : Nat) : lt256 (fourN n) := .cons (by omega) (.cons (by omega) (.cons (by omega) (.cons (by omega) .nil)))
theorem lt_verN (v : T_Version) : lt256 (verN v) := (lt_twoN _).app ((lt_twoN _).app (lt_twoN _))
theorem lt_txtN (s : ByteArray) : lt256 (txtN s) := .cons (by omega) (bs_lt s)
theorem lt_imgSN {i : T_Image} (h : okD i) : lt256 (imgSN i) := ((lt_txtN _).app ((lt_verN _).app ((lt_twoN _).app (dat_lt h)))).app (lt_fourN _)
theorem lt_needN (n : T_Need) : lt256 (needN n) := (lt_txtN _).app ((lt_verN _).app ((lt_txtN _).app (lt_verN _)))
theorem lt_flat {α : Type} (g : α → List Nat) (l : List α) (h : ∀ x ∈ l, lt256 (g x)) : lt256 (l.flatMap g) := fun x hx => by
  obtain ⟨y, hy, hxy⟩ := List.mem_flatMap.1 hx
  exact h y hy x hxy
theorem lt_bodyN {b : T_Bundle} (ho : okU b) : lt256 (bodyN b) :=
  (lt256.cons (by omega) (.cons (by omega) (.cons (by omega) (.cons (by omega) (.cons (by omega) .nil))))).app ((lt_flat _ _ fun i hi => lt_imgSN (ho i hi)).app (.cons (by omega) (lt_flat _ _ fun n _ => lt_needN n)))
theorem lt_encNN {b : T_Bundle} (ho : okU b) : lt256 (encNN b) := (lt_bodyN ho).app (lt_fourN _)

/-! ## Reading it back -/

theorem rd_app {n : Nat} {l : List Nat} (r : List Nat) (h : l.length = n) : rd n (l ++ r) = some (l, r) := by
  rw [rd_some (by rw [List.length_append]; omega), List.take_left' h, List.drop_left' h]
theorem rNum_app {n : Nat} {l : List Nat} (r : List Nat) (h : l.length = n) : rNum n (l ++ r) = some (be l, r) := by
  unfold rNum
  rw [rd_app r h]
  rfl
theorem be_twoN {n : Nat} (h : n < 65536) : be (twoN n) = n := by
  simp only [be, twoN, List.foldl_cons, List.foldl_nil]
  omega
theorem be_fourN {n : Nat} (h : n < 4294967296) : be (fourN n) = n := by
  simp only [be, fourN, List.foldl_cons, List.foldl_nil]
  omega
theorem rTwo {n : Nat} (r : List Nat) (h : n < 65536) : rNum 2 (twoN n ++ r) = some (n, r) := by rw [rNum_app (n := 2) r rfl, be_twoN h]
theorem rFour {n : Nat} (r : List Nat) (h : n < 4294967296) : rNum 4 (fourN n ++ r) = some (n, r) := by rw [rNum_app (n := 4) r rfl, be_fourN h]
theorem rOne {n : Nat} (r : List Nat) : rNum 1 (n :: r) = some (n, r) := by
  rw [show n :: r = [n] ++ r from rfl, rNum_app (n := 1) r rfl]
  simp [be]
theorem rText_app {s : ByteArray} (r : List Nat) (h : s.size < 256) : rText (txtN s ++ r) = some (bs s, r) := by
  unfold rText txtN
  rw [List.cons_append, rOne, Option.bind_some, Nat.mod_eq_of_lt h, rd_app r (bs_len s)]
theorem rVer_app {v : T_Version} (r : List Nat) (h : verB v = true) : rVer (verN v ++ r) = some (v, r) := by
  obtain ⟨h1, h2, h3⟩ := verB_ok h
  unfold rVer verN
  rw [List.append_assoc, rTwo _ (by omega), Option.bind_some, List.append_assoc, rTwo _ (by omega), Option.bind_some, rTwo _ (by omega), Option.map_some]
  congr 2
  obtain ⟨a, b, c⟩ := v
  simp only at h1 h2 h3 ⊢
  rw [Int.toNat_of_nonneg h1.1, Int.toNat_of_nonneg h2.1, Int.toNat_of_nonneg h3.1]
theorem rImg_app {i : T_Image} (r : List Nat) (h : rightB i = true) (hd : okD i) : rImg (imgSN i ++ r) = some ((i, (sumF i).toNat, imgN i), r) := by
  obtain ⟨h1, h2, h3, h4⟩ := right_spec h
  have hs := (name_size h1).2
  have hsum := sumF_range i
  unfold isU32 at hsum
  have hfull : imgSN i ++ r = txtN i.Name ++ (verN i.Version ++ (twoN i.Data.length ++ (datN i.Data ++ (fourN (sumF i).toNat ++ r)))) := by
    unfold imgSN imgN
    simp only [List.append_assoc]
  have hlen : (imgSN i ++ r).take ((imgSN i ++ r).length - (fourN (sumF i).toNat ++ r).length) = imgN i := by
    have : imgSN i ++ r = imgN i ++ (fourN (sumF i).toNat ++ r) := by unfold imgSN; rw [List.append_assoc]
    rw [this, List.length_append, Nat.add_sub_cancel, List.take_left]
  have hl : (twoN i.Data.length).length = 2 := rfl
  unfold rImg
  have e1 : rText (imgSN i ++ r) = some (bs i.Name, verN i.Version ++ (twoN i.Data.length ++ (datN i.Data ++ (fourN (sumF i).toNat ++ r)))) := by rw [hfull, rText_app _ (by omega)]
  rw [e1, Option.bind_some, rVer_app _ h2, Option.bind_some, rTwo _ (by omega), Option.bind_some]
  dsimp only
  rw [rd_app _ (dat_len _), Option.bind_some]
  dsimp only
  rw [rFour _ (by omega), Option.map_some, hlen, sb_bs]
  dsimp only
  rw [← dat_iz hd]
theorem rImgs_app : ∀ (l : List T_Image) (r : List Nat), (∀ i ∈ l, rightB i = true ∧ okD i) → rImgs l.length (l.flatMap imgSN ++ r) = some (l.map fun i => (i, (sumF i).toNat, imgN i), r)
  | [], r, _ => rfl
  | i :: l, r, h => by
    rw [List.flatMap_cons, List.append_assoc, List.length_cons, rImgs, rImg_app _ (h i (by simp)).1 (h i (by simp)).2, Option.bind_some]
    dsimp only
    rw [rImgs_app l r fun x hx => h x (by simp [hx]), Option.map_some]
    rfl
theorem rNeed_app {n : T_Need} (r : List Nat) (h : needB n = true) : rNeed (needN n ++ r) = some (n, r) := by
  obtain ⟨h1, h2, h3, h4⟩ := need_spec h
  have g1 := (name_size h1).2
  have g2 := (name_size h2).2
  unfold rNeed needN
  rw [List.append_assoc, rText_app _ (by omega), Option.bind_some, List.append_assoc, rVer_app _ h3, Option.bind_some, List.append_assoc, rText_app _ (by omega), Option.bind_some, rVer_app _ h4, Option.map_some, sb_bs, sb_bs]
theorem rNeeds_app : ∀ (l : List T_Need) (r : List Nat), (∀ i ∈ l, needB i = true) → rNeeds l.length (l.flatMap needN ++ r) = some (l, r)
  | [], r, _ => rfl
  | i :: l, r, h => by
    rw [List.flatMap_cons, List.append_assoc, List.length_cons, rNeeds, rNeed_app _ (h i (by simp)), Option.bind_some]
    dsimp only
    rw [rNeeds_app l r fun x hx => h x (by simp [hx]), Option.map_some]

theorem sumF_right {i : T_Image} (h : rightB i = true) : sumF i = crcF (imgL i) := by
  unfold sumF
  rw [h]
  rfl

theorem parse_enc {b : T_Bundle} (h : validB b = 0) (ho : okU b) : parseB (bodyN b) = some (b.Images.map fun i => (i, (sumF i).toNat, imgN i), b.Needs, []) := by
  obtain ⟨h1, h2, h3, h4, h5⟩ := valid0 h
  unfold parseB
  have e : (bodyN b).drop 4 = b.Images.length :: (b.Images.flatMap imgSN ++ (b.Needs.length :: b.Needs.flatMap needN)) := by
    unfold bodyN
    rw [Nat.mod_eq_of_lt (by omega), Nat.mod_eq_of_lt (by omega)]
    rfl
  rw [e, rOne, Option.bind_some]
  dsimp only
  rw [rImgs_app _ _ fun i hi => ⟨h3 i hi, ho i hi⟩, Option.bind_some]
  dsimp only
  rw [rOne, Option.bind_some]
  dsimp only
  have := rNeeds_app b.Needs [] h5
  rw [List.append_nil] at this
  rw [this]
  rfl

theorem body_enc {b : T_Bundle} (h : validB b = 0) (ho : okU b) : bodyB (bodyN b) = (b, 0) := by
  obtain ⟨h1, h2, h3, h4, h5⟩ := valid0 h
  have hm : (b.Images.map fun i => ((i, (sumF i).toNat, imgN i) : ImgR)).map (·.1) = b.Images := by rw [List.map_map]; exact List.map_id _
  have hall : (b.Images.map fun i => ((i, (sumF i).toNat, imgN i) : ImgR)).all okImg = true := by
    rw [List.all_map, List.all_eq_true]
    intro i hi
    simp only [Function.comp, okImg, decide_eq_true_eq]
    rw [Int.toNat_of_nonneg (sumF_range i).1, sumF_right (h3 i hi), img_iz (right_spec (h3 i hi)).2.1 (ho i hi)]
  unfold bodyB
  rw [if_neg (by simp [bodyN]), parse_enc h ho]
  dsimp only
  rw [if_neg (by simp), hm, hall, if_neg (by simp)]
  obtain ⟨im, ne⟩ := b
  dsimp only at h ⊢
  rw [h]
  rfl

theorem encNN_len {b : T_Bundle} (h : validB b = 0) (ho : okU b) : (encNN b).length = (encB b).length := by rw [encB_iz h ho, iz_len]
theorem dec_enc {b : T_Bundle} (h : validB b = 0) (ho : okU b) : decB (encNN b) = (b, 0) := by
  have h1 := encB_len h
  rw [← encNN_len h ho] at h1
  have hl : (encNN b).length = (bodyN b).length + 4 := by unfold encNN; rw [List.length_append]; rfl
  have hl2 : (bodyN b).length - 5 + 5 = (bodyN b).length ∧ 6 ≤ (bodyN b).length := by
    unfold bodyN
    simp only [List.length_append, List.length_cons, List.length_nil]
    omega
  have ht : (encNN b).take ((encNN b).length - 4) = bodyN b := by rw [hl, Nat.add_sub_cancel]; exact List.take_left' rfl
  have hd : (encNN b).drop ((encNN b).length - 4) = fourN (crcF (iz (bodyN b))).toNat := by rw [hl, Nat.add_sub_cancel]; exact List.drop_left' rfl
  have hr := crcF_range (iz (bodyN b))
  unfold decB
  rw [if_neg (by omega), if_neg (by omega), ht, hd, be_fourN (by omega), if_neg (by omega), body_enc h ho]
theorem Decode_enc {b : T_Bundle} (h : validB b = 0) (ho : okU b) : m_bundle_Decode (encB b) = some (b, 0) := by
  have h1 := encB_len h
  rw [← encNN_len h ho] at h1
  rw [encB_iz h ho, Decode_prog (lt_encNN ho) (by omega), dec_enc h ho]
theorem encR_ok {b : T_Bundle} (h : validB b = 0) : encR b = (encB b, 0) := by
  have := encB_len h
  unfold encR
  rw [if_pos h, if_neg (by omega)]
theorem encR_bad {b : T_Bundle} (h : validB b ≠ 0) : encR b = ([], validB b) := by
  unfold encR
  rw [if_neg h]

/-! ## The first test of every law -/

def bun0 : T_Bundle := ⟨[⟨⟨#[97]⟩, ⟨1, 0, 0⟩, [7]⟩], []⟩
theorem bun0_ok : validB bun0 = 0 := by decide +kernel
theorem bun0_u : okU bun0 := fun i hi => by
  simp only [bun0, List.mem_singleton] at hi
  subst hi
  show okL (inK .u8) [7]
  refine ⟨fun x hx => ?_, by simp [maxLen]⟩
  rw [List.mem_singleton] at hx
  subst hx
  exact ⟨by decide, by decide⟩
theorem awake_true : m_law28_awake = some true := by
  unfold m_law28_awake
  refine bnd_eq (Encode_prog bun0) ?_
  rw [encR_ok bun0_ok]
  refine bnd_eq (Decode_enc bun0_ok bun0_u) ?_
  have hl : (encB bun0).length = 25 := by rw [encB_iz bun0_ok bun0_u]; decide +kernel
  dsimp only
  rw [hl]
  rw [Find_prog _ _ (by simp [bun0]), Find_prog _ _ (by simp [bun0])]
  have f1 : findB bun0.Images ⟨#[97]⟩ = 0 := by decide +kernel
  have f2 : findB bun0.Images ⟨#[98]⟩ = -1 := by decide +kernel
  rw [f1, f2]
  rfl

end Go.Proofs.Ytgnmhmnglbbamaa
