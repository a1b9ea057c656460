/-
  The bytes of a bundle: the program's and the reference's answers are one.
  Conditions: none.
-/
import Derived.Test.YtgnmhmnglbbamaaBun2
namespace Go.Proofs.Ytgnmhmnglbbamaa
open Go
set_option linter.unusedSimpArgs false
set_option linter.unusedVariables false

def four (n : Int) : List Int := [IntKind.wrap .u8 (iShr .u32 n 24), IntKind.wrap .u8 (iShr .u32 n 16), IntKind.wrap .u8 (iShr .u32 n 8), IntKind.wrap .u8 n]
def crcF (l : List Int) : Int := IntKind.wrap .u32 (4294967295 - crcAll l)
def txtL (s : ByteArray) : List Int := IntKind.wrap .u8 (s.size : Int) :: bytesOf s
def needL (n : T_Need) : List Int := txtL n.Component ++ (verL n.From ++ (txtL n.On ++ verL n.At))
def imgS (i : T_Image) : List Int := imgL i ++ four (sumF i)
def encI (b : T_Bundle) : List Int := [66, 77, 67, 70, IntKind.wrap .u8 (b.Images.length : Int)] ++ b.Images.flatMap imgS
def encN (b : T_Bundle) : List Int := (encI b ++ [IntKind.wrap .u8 (b.Needs.length : Int)]) ++ b.Needs.flatMap needL
def encB (b : T_Bundle) : List Int := encN b ++ four (crcF (encN b))
def encR (b : T_Bundle) : List Int × Int := if validB b = 0 then (if 8192 < (encB b).length then ([], 3) else (encB b, 0)) else ([], validB b)

theorem imgS_len {i : T_Image} (h : rightB i = true) : (imgS i).length ≤ 604 := by
  obtain ⟨h1, h2, h3, h4⟩ := right_spec h
  have := imgL_len (i := i) ⟨(name_size h1).2, h4⟩
  simp only [imgS, List.length_append, four, List.length_cons, List.length_nil]
  omega
theorem needL_len {n : T_Need} (h : needB n = true) : (needL n).length ≤ 46 := by
  simp only [needB, Bool.and_eq_true] at h
  have h1 := (name_size h.1).2
  have h2 := (name_size h.2.1).2
  simp only [needL, txtL, verL, two, List.length_append, List.length_cons, List.length_nil, bytesOf_len]
  omega
theorem flat_len {α : Type} (f : α → List Int) (k : Nat) : ∀ (l : List α), (∀ x ∈ l, (f x).length ≤ k) → (l.flatMap f).length ≤ k * l.length
  | [], _ => by simp
  | x :: r, h => by
    have h1 := flat_len f k r fun y hy => h y (by simp [hy])
    have h2 := h x (by simp)
    rw [List.flatMap_cons, List.length_append, List.length_cons, Nat.mul_add]
    omega
theorem flat_succ {α : Type} (f : α → List Int) {l : List α} {i : Nat} (h : i < l.length) : (l.take (i + 1)).flatMap f = (l.take i).flatMap f ++ f l[i] := by
  rw [take_succ_get h, List.flatMap_append]
  simp only [List.flatMap_cons, List.flatMap_nil, List.append_nil]

theorem encI_len {b : T_Bundle} (h : validB b = 0) : (encI b).length ≤ 4900 := by
  obtain ⟨h1, h2, h3, h4, h5⟩ := valid0 h
  have := flat_len imgS 604 b.Images fun x hx => imgS_len (h3 x hx)
  simp only [encI, List.length_append, List.length_cons, List.length_nil]
  omega
theorem encN_len {b : T_Bundle} (h : validB b = 0) : (encN b).length ≤ 6000 := by
  obtain ⟨h1, h2, h3, h4, h5⟩ := valid0 h
  have h6 := encI_len h
  have := flat_len needL 46 b.Needs fun x hx => needL_len (h5 x hx)
  simp only [encN, List.length_append, List.length_cons, List.length_nil]
  omega
theorem encB_len {b : T_Bundle} (h : validB b = 0) : (encB b).length ≤ 6004 := by
  have := encN_len h
  simp only [encB, List.length_append, four, List.length_cons, List.length_nil]
  omega

theorem text_prog {l : List Int} {s : ByteArray} (h : l.length + s.size ≤ 1000000) : m_bundle_text l s = some (l ++ txtL s) := by
  have hb := bytesOf_len s
  unfold m_bundle_text
  rw [app1 (by simp; omega), bnd_some, app1 (by simp [hb]; omega), bnd_some]
  simp [txtL]
theorem short_prog {l : List Int} (n : Int) (h : l.length ≤ 1000000) : m_bundle_short l n = some (l ++ two n) := by
  unfold m_bundle_short
  rw [app1 (by simp; omega), bnd_some]
  rfl
theorem numbers_prog {l : List Int} (v : T_Version) (h : l.length ≤ 900000) : m_bundle_numbers l v = some (l ++ verL v) := by
  unfold m_bundle_numbers
  rw [short_prog _ (by omega), bnd_some, short_prog _ (by simp [two]; omega), bnd_some, short_prog _ (by simp [two]; omega), bnd_some]
  simp [verL]
theorem long_prog {l : List Int} (n : Int) (h : l.length ≤ 1000000) : m_bundle_long l n = some (l ++ four n) := by
  unfold m_bundle_long
  rw [app1 (by simp; omega), bnd_some]
  rfl
theorem prog_crc0 (b : List Int) (hb : b.length ≤ 140737488355328) : m_checksum_CRC32_o0 b = some (crcF b) := prog_crc b hb
theorem ref_crc0 (b : List Int) (hb : b.length ≤ 140737488355328) : m_ref01_CRC32_o0 b = some (crcF b) := ref_crc b hb
theorem prog_crcF (b : List Int) (hb : b.length ≤ 140737488355328) : m_checksum_CRC32 b = some (crcF b) := prog_crc b hb
theorem ref_crcF (b : List Int) (hb : b.length ≤ 140737488355328) : m_ref01_CRC32 b = some (crcF b) := ref_crc b hb

theorem rname {s : ByteArray} (h : s.size ≤ 1000000) : m_ref28_name s = some (txtL s) := by
  have hb := bytesOf_len s
  unfold m_ref28_name
  rw [app1 (by simp [hb]; omega), bnd_some]
  rfl
theorem rversion (v : T_Version) : m_ref28_version v = some (verL v) := by
  unfold m_ref28_version m_ref28_two
  simp only [bnd_some]
  rw [app1 (by simp), bnd_some, app1 (by simp), bnd_some]
  simp [verL, two]

theorem rfour (n : Int) : m_ref28_four n = some (four n) := rfl

theorem Encode_prog (b : T_Bundle) : m_bundle_Encode b = some (encR b) := by
  unfold m_bundle_Encode encR
  rw [Valid_prog, bnd_some]
  by_cases h : validB b = 0
  · obtain ⟨h1, h2, h3, h4, h5⟩ := valid0 h
    rw [if_pos h, h]
    have ha : app 1 ([66, 77, 67, 70] : List Int) [IntKind.wrap .u8 (b.Images.length : Int)] = some [66, 77, 67, 70, IntKind.wrap .u8 (b.Images.length : Int)] := app1 (by simp)
    rw [show ((0 : Int) != 0) = false from rfl, cond_false, ha, bnd_some]
    have hI : ∀ i, ([66, 77, 67, 70, IntKind.wrap .u8 (b.Images.length : Int)] ++ (b.Images.take i).flatMap imgS).length ≤ 5000 := fun i => by
      have := flat_len imgS 604 (b.Images.take i) fun x hx => imgS_len (h3 x (List.mem_of_mem_take hx))
      rw [List.length_take] at this
      simp only [List.length_append, List.length_cons, List.length_nil]
      omega
    refine bnd_loop (fun i => ([66, 77, 67, 70, IntKind.wrap .u8 (b.Images.length : Int)] ++ (b.Images.take i).flatMap imgS, (i : Int))) b.Images.length (encI b) (by simp) (fun i hi => ?_) ?_ ?_
    · have hr := h3 _ (List.getElem_mem hi)
      obtain ⟨g1, g2, g3, g4⟩ := right_spec hr
      have hs : b.Images[i].Name.size ≤ 16 ∧ b.Images[i].Data.length ≤ 512 := ⟨(name_size g1).2, g4⟩
      have hl := imgL_len hs
      have hIi := hI i
      dsimp only
      rw [decide_eq_true (by omega : (i : Int) < (b.Images.length : Int)), cond_true]
      refine bnd_eq (elt_lt hi) ?_
      refine bnd_eq (bytes_prog hs) ?_
      refine bnd_eq (app1 (by omega)) ?_
      refine bnd_eq (sum_prog _) ?_
      refine bnd_eq (long_prog _ (by simp only [List.length_append] at hIi ⊢; omega)) ?_
      rw [wrap_succ hi (by omega), flat_succ imgS hi]
      simp [imgS]
    · dsimp only
      rw [decide_eq_false (by omega : ¬ (b.Images.length : Int) < (b.Images.length : Int)), cond_false, List.take_length]
      rfl
    · have hIl := encI_len h
      refine bnd_eq (app1 (by simp; omega)) ?_
      have hN : ∀ i, ((encI b ++ [IntKind.wrap .u8 (b.Needs.length : Int)]) ++ (b.Needs.take i).flatMap needL).length ≤ 6000 := fun i => by
        have := flat_len needL 46 (b.Needs.take i) fun x hx => needL_len (h5 x (List.mem_of_mem_take hx))
        rw [List.length_take] at this
        simp only [List.length_append, List.length_cons, List.length_nil]
        omega
      refine bnd_loop (fun i => ((encI b ++ [IntKind.wrap .u8 (b.Needs.length : Int)]) ++ (b.Needs.take i).flatMap needL, (i : Int))) b.Needs.length (encN b) (by simp) (fun i hi => ?_) ?_ ?_
      · have hr := h5 _ (List.getElem_mem hi)
        have hNi := hN i
        simp only [needB, Bool.and_eq_true] at hr
        have g1 := (name_size hr.1).2
        have g2 := (name_size hr.2.1).2
        have hv : ∀ v : T_Version, (verL v).length = 6 := fun v => rfl
        have ht : ∀ s : ByteArray, (txtL s).length = s.size + 1 := fun s => by simp [txtL, bytesOf_len]
        dsimp only
        rw [decide_eq_true (by omega : (i : Int) < (b.Needs.length : Int)), cond_true]
        refine bnd_eq (elt_lt hi) ?_
        refine bnd_eq (text_prog (by omega)) ?_
        refine bnd_eq (numbers_prog _ (by simp only [List.length_append, ht] at hNi ⊢; omega)) ?_
        refine bnd_eq (text_prog (by simp only [List.length_append, ht, hv] at hNi ⊢; omega)) ?_
        refine bnd_eq (numbers_prog _ (by simp only [List.length_append, ht, hv] at hNi ⊢; omega)) ?_
        rw [wrap_succ hi (by omega), flat_succ needL hi]
        simp [needL]
      · dsimp only
        rw [decide_eq_false (by omega : ¬ (b.Needs.length : Int) < (b.Needs.length : Int)), cond_false, List.take_length]
        rfl
      · have hNl := encN_len h
        refine bnd_eq (prog_crc0 _ (by omega)) ?_
        refine bnd_eq (long_prog _ (by omega)) ?_
        have : encN b ++ four (crcF (encN b)) = encB b := rfl
        rw [this]
        by_cases hc : 8192 < (encB b).length
        · rw [decide_eq_true (by omega : ((encB b).length : Int) > 8192), if_pos hc]
          rfl
        · rw [decide_eq_false (by omega : ¬ ((encB b).length : Int) > 8192), if_neg hc]
          rfl
  · rw [if_neg h]
    have : (validB b != 0) = true := by simpa using h
    rw [this]
    rfl

theorem Encode_ref (b : T_Bundle) : m_ref28_Encode b = some (encR b) := by
  unfold m_ref28_Encode encR
  rw [Valid_ref, bnd_some]
  by_cases h : validB b = 0
  · obtain ⟨h1, h2, h3, h4, h5⟩ := valid0 h
    rw [if_pos h, h]
    have ha : app 1 ([66, 77, 67, 70] : List Int) [IntKind.wrap .u8 (b.Images.length : Int)] = some [66, 77, 67, 70, IntKind.wrap .u8 (b.Images.length : Int)] := app1 (by simp)
    rw [show ((0 : Int) != 0) = false from rfl, cond_false, ha, bnd_some]
    have hI : ∀ i, ([66, 77, 67, 70, IntKind.wrap .u8 (b.Images.length : Int)] ++ (b.Images.take i).flatMap imgS).length ≤ 5000 := fun i => by
      have := flat_len imgS 604 (b.Images.take i) fun x hx => imgS_len (h3 x (List.mem_of_mem_take hx))
      rw [List.length_take] at this
      simp only [List.length_append, List.length_cons, List.length_nil]
      omega
    refine bnd_loop (fun i => ([66, 77, 67, 70, IntKind.wrap .u8 (b.Images.length : Int)] ++ (b.Images.take i).flatMap imgS, (i : Int))) b.Images.length (encI b) (by simp) (fun i hi => ?_) ?_ ?_
    · have hr := h3 _ (List.getElem_mem hi)
      obtain ⟨g1, g2, g3, g4⟩ := right_spec hr
      have hs : b.Images[i].Name.size ≤ 16 ∧ b.Images[i].Data.length ≤ 512 := ⟨(name_size g1).2, g4⟩
      have hl := imgL_len hs
      have hIi := hI i
      dsimp only
      rw [decide_eq_true (by omega : (i : Int) < (b.Images.length : Int)), cond_true]
      refine bnd_eq (elt_lt hi) ?_
      refine bnd_eq (bytes_ref hs) ?_
      refine bnd_eq (app1 (by omega)) ?_
      refine bnd_eq (sum_ref _) ?_
      refine bnd_eq (rfour _) ?_
      refine bnd_eq (app1 (by simp only [List.length_append, four, List.length_cons, List.length_nil] at hIi ⊢; omega)) ?_
      rw [wrap_succ hi (by omega), flat_succ imgS hi]
      simp [imgS]
    · dsimp only
      rw [decide_eq_false (by omega : ¬ (b.Images.length : Int) < (b.Images.length : Int)), cond_false, List.take_length]
      rfl
    · have hIl := encI_len h
      refine bnd_eq (app1 (by simp; omega)) ?_
      have hN : ∀ i, ((encI b ++ [IntKind.wrap .u8 (b.Needs.length : Int)]) ++ (b.Needs.take i).flatMap needL).length ≤ 6000 := fun i => by
        have := flat_len needL 46 (b.Needs.take i) fun x hx => needL_len (h5 x (List.mem_of_mem_take hx))
        rw [List.length_take] at this
        simp only [List.length_append, List.length_cons, List.length_nil]
        omega
      refine bnd_loop (fun i => ((encI b ++ [IntKind.wrap .u8 (b.Needs.length : Int)]) ++ (b.Needs.take i).flatMap needL, (i : Int))) b.Needs.length (encN b) (by simp) (fun i hi => ?_) ?_ ?_
      · have hr := h5 _ (List.getElem_mem hi)
        have hNi := hN i
        simp only [needB, Bool.and_eq_true] at hr
        have g1 := (name_size hr.1).2
        have g2 := (name_size hr.2.1).2
        have hv : ∀ v : T_Version, (verL v).length = 6 := fun v => rfl
        have ht : ∀ s : ByteArray, (txtL s).length = s.size + 1 := fun s => by simp [txtL, bytesOf_len]
        dsimp only
        rw [decide_eq_true (by omega : (i : Int) < (b.Needs.length : Int)), cond_true]
        refine bnd_eq (elt_lt hi) ?_
        refine bnd_eq (rname (by omega)) ?_
        refine bnd_eq (app1 (by simp only [List.length_append, ht] at hNi ⊢; omega)) ?_
        refine bnd_eq (rversion _) ?_
        refine bnd_eq (app1 (by simp only [List.length_append, ht, hv] at hNi ⊢; omega)) ?_
        refine bnd_eq (rname (by omega)) ?_
        refine bnd_eq (app1 (by simp only [List.length_append, ht, hv] at hNi ⊢; omega)) ?_
        refine bnd_eq (rversion _) ?_
        refine bnd_eq (app1 (by simp only [List.length_append, ht, hv] at hNi ⊢; omega)) ?_
        rw [wrap_succ hi (by omega), flat_succ needL hi]
        simp [needL]
      · dsimp only
        rw [decide_eq_false (by omega : ¬ (b.Needs.length : Int) < (b.Needs.length : Int)), cond_false, List.take_length]
        rfl
      · have hNl := encN_len h
        refine bnd_eq (ref_crc0 _ (by omega)) ?_
        refine bnd_eq (rfour _) ?_
        refine bnd_eq (app1 (by simp only [four, List.length_cons, List.length_nil]; omega)) ?_
        have : encN b ++ four (crcF (encN b)) = encB b := rfl
        rw [this]
        by_cases hc : 8192 < (encB b).length
        · rw [decide_eq_true (by omega : ((encB b).length : Int) > 8192), if_pos hc]
          rfl
        · rw [decide_eq_false (by omega : ¬ ((encB b).length : Int) > 8192), if_neg hc]
          rfl
  · rw [if_neg h]
    have : (validB b != 0) = true := by simpa using h
    rw [this]
    rfl

end Go.Proofs.Ytgnmhmnglbbamaa
