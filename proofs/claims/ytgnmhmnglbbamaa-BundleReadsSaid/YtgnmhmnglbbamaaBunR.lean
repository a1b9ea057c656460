/-
  A changed byte is seen; a bundle is the same as itself.
  Conditions: none.
-/
import Derived.Test.YtgnmhmnglbbamaaBunC
namespace Go.Proofs.Ytgnmhmnglbbamaa
open Go
set_option linter.unusedSimpArgs false
set_option linter.unusedVariables false

/-! ## The sum tells two byte strings apart that differ in one place -/

def c1N (n : Nat) : Nat := if n % 2 = 1 then n / 2 ^^^ 3988292384 else n / 2
def cXN (c x : Nat) : Nat := itN c1N 8 (c ^^^ x)
def crcN (c : Nat) (l : List Nat) : Nat := l.foldl cXN c

theorem iXor_u32 {a b : Nat} (ha : a < 4294967296) (hb : b < 4294967296) : iXor .u32 (a : Int) (b : Int) = ((a ^^^ b : Nat) : Int) := by
  have h := Nat.xor_lt_two_pow (x := a) (y := b) (n := 32) ha hb
  unfold iXor
  rw [BitVec.toNat_xor, ofNat_toNat (by exact ha), ofNat_toNat (by exact hb), wrap_u32n h]

theorem c1N_lt {n : Nat} (h : n < 4294967296) : c1N n < 4294967296 := by
  unfold c1N
  split
  · exact Nat.xor_lt_two_pow (n := 32) (by omega) (by omega)
  · omega
theorem c1N_int {n : Nat} (h : n < 4294967296) : crc1 (n : Int) = ((c1N n : Nat) : Int) := by
  rw [crc1_ref ⟨by omega, by omega⟩]
  have e1 : ((n : Nat) : Int).tmod 2 = ((n % 2 : Nat) : Int) := tmod_n n 2
  have e2 : ((n : Nat) : Int).tdiv 2 = ((n / 2 : Nat) : Int) := tdiv_n n 2
  rw [e1, e2, wrap_u32n (by omega)]
  unfold c1N
  by_cases hc : n % 2 = 1
  · rw [if_pos hc, hc]
    exact iXor_u32 (b := 3988292384) (by omega) (by omega)
  · rw [if_neg hc, show n % 2 = 0 by omega]
    rfl
theorem xor_back {a b k : Nat} (h : a ^^^ k = b ^^^ k) : a = b := by
  have : a ^^^ k ^^^ k = b ^^^ k ^^^ k := by rw [h]
  rwa [Nat.xor_assoc, Nat.xor_self, Nat.xor_zero, Nat.xor_assoc, Nat.xor_self, Nat.xor_zero] at this
theorem xor_top {a : Nat} (h : a < 2147483648) : 2147483648 ≤ a ^^^ 3988292384 := by
  have h1 : a.testBit 31 = false := Nat.testBit_lt_two_pow h
  have h2 : (a ^^^ 3988292384).testBit 31 = true := by
    rw [Nat.testBit_xor, h1]
    decide
  exact Nat.ge_two_pow_of_testBit h2
theorem c1N_inj {a b : Nat} (ha : a < 4294967296) (hb : b < 4294967296) (h : c1N a = c1N b) : a = b := by
  unfold c1N at h
  by_cases h1 : a % 2 = 1 <;> by_cases h2 : b % 2 = 1
  · rw [if_pos h1, if_pos h2] at h
    have := xor_back h
    omega
  · rw [if_pos h1, if_neg h2] at h
    have := xor_top (a := a / 2) (by omega)
    omega
  · rw [if_neg h1, if_pos h2] at h
    have := xor_top (a := b / 2) (by omega)
    omega
  · rw [if_neg h1, if_neg h2] at h
    omega
theorem itN_c1 : ∀ (k n : Nat), n < 4294967296 → itN crc1 k (n : Int) = ((itN c1N k n : Nat) : Int) ∧ itN c1N k n < 4294967296
  | 0, n, h => ⟨rfl, h⟩
  | k + 1, n, h => by
    obtain ⟨h1, h2⟩ := itN_c1 k n h
    simp only [itN]
    rw [h1, c1N_int h2]
    exact ⟨rfl, c1N_lt h2⟩
theorem itN_inj : ∀ (k a b : Nat), a < 4294967296 → b < 4294967296 → itN c1N k a = itN c1N k b → a = b
  | 0, a, b, _, _, h => h
  | k + 1, a, b, ha, hb, h => itN_inj k a b ha hb (c1N_inj (itN_c1 k a ha).2 (itN_c1 k b hb).2 h)
theorem cXN_lt {c x : Nat} (hc : c < 4294967296) (hx : x < 256) : cXN c x < 4294967296 := (itN_c1 8 _ (Nat.xor_lt_two_pow (n := 32) hc (by omega))).2
theorem cXN_int {c x : Nat} (hc : c < 4294967296) (hx : x < 256) : crcX (c : Int) (x : Int) = ((cXN c x : Nat) : Int) := by
  unfold crcX cXN
  rw [wrap_u32n (by omega), iXor_u32 hc (by omega)]
  exact (itN_c1 8 _ (Nat.xor_lt_two_pow (n := 32) hc (by omega))).1
theorem cXN_state {c d x : Nat} (hc : c < 4294967296) (hd : d < 4294967296) (hx : x < 256) (h : cXN c x = cXN d x) : c = d :=
  xor_back (itN_inj 8 _ _ (Nat.xor_lt_two_pow (n := 32) hc (by omega)) (Nat.xor_lt_two_pow (n := 32) hd (by omega)) h)
theorem cXN_byte {c x y : Nat} (hc : c < 4294967296) (hx : x < 256) (hy : y < 256) (h : cXN c x = cXN c y) : x = y := by
  have := itN_inj 8 _ _ (Nat.xor_lt_two_pow (n := 32) hc (by omega)) (Nat.xor_lt_two_pow (n := 32) hc (by omega)) h
  rw [Nat.xor_comm c x, Nat.xor_comm c y] at this
  exact xor_back this
theorem crcN_int : ∀ (l : List Nat) (c : Nat), lt256 l → c < 4294967296 → (iz l).foldl crcX (c : Int) = ((crcN c l : Nat) : Int) ∧ crcN c l < 4294967296
  | [], c, _, h => ⟨rfl, h⟩
  | x :: l, c, hl, h => by
    have hx := hl x (by simp)
    rw [iz_cons, List.foldl_cons, cXN_int h hx]
    exact crcN_int l _ (fun y hy => hl y (by simp [hy])) (cXN_lt h hx)
theorem crcN_inj : ∀ (l : List Nat) (c d : Nat), lt256 l → c < 4294967296 → d < 4294967296 → crcN c l = crcN d l → c = d
  | [], c, d, _, _, _, h => h
  | x :: l, c, d, hl, hc, hd, h => by
    have hx := hl x (by simp)
    exact cXN_state hc hd hx (crcN_inj l _ _ (fun y hy => hl y (by simp [hy])) (cXN_lt hc hx) (cXN_lt hd hx) h)
theorem crcF_N {l : List Nat} (h : lt256 l) : crcF (iz l) = ((4294967295 - crcN 4294967295 l : Nat) : Int) ∧ crcN 4294967295 l < 4294967296 := by
  obtain ⟨h1, h2⟩ := crcN_int l 4294967295 h (by omega)
  refine ⟨?_, h2⟩
  unfold crcF crcAll
  rw [show (4294967295 : Int) = ((4294967295 : Nat) : Int) from rfl, h1, wrap_u32 (by omega) (by omega)]
  omega
theorem crc_sees {l : List Nat} (hl : lt256 l) {q y : Nat} (hq : q < l.length) (hy : y < 256) (hne : y ≠ l[q]) : crcF (iz (l.set q y)) ≠ crcF (iz l) := by
  have hs : l.set q y = l.take q ++ y :: l.drop (q + 1) := List.set_eq_take_append_cons_drop .. |>.trans (by rw [if_pos hq])
  have ho : l = l.take q ++ l[q] :: l.drop (q + 1) := by rw [List.getElem_cons_drop, List.take_append_drop]
  have hx := hl.get hq
  have hl2 : lt256 (l.set q y) := by
    rw [hs]
    exact (hl.take q).app (.cons hy (hl.drop _))
  intro h
  obtain ⟨a1, a2⟩ := crcF_N hl
  obtain ⟨b1, b2⟩ := crcF_N hl2
  rw [a1, b1] at h
  have he : crcN 4294967295 (l.set q y) = crcN 4294967295 l := by omega
  rw [hs] at he
  conv at he => rhs; rw [ho]
  unfold crcN at he
  rw [List.foldl_append, List.foldl_append, List.foldl_cons, List.foldl_cons] at he
  obtain ⟨_, hc⟩ := crcN_int (l.take q) 4294967295 (hl.take q) (by omega)
  have := crcN_inj (l.drop (q + 1)) _ _ (hl.drop _) (cXN_lt hc hy) (cXN_lt hc hx) he
  exact hne (cXN_byte hc hy hx this)

theorem be_inj : ∀ {l m : List Nat}, lt256 l → lt256 m → l.length = m.length → be l = be m → l = m := by
  intro l m hl hm hlen h
  have key : ∀ n, n ≤ l.length → be (l.take n) = be (m.take n) → l.take n = m.take n := by
    intro n
    induction n with
    | zero => intro _ _; rfl
    | succ n ih =>
      intro hn hb
      have hn' : n < l.length := by omega
      have hm' : n < m.length := by omega
      have x1 := hl.get hn'
      have x2 := hm.get hm'
      rw [be_succ hn', be_succ hm'] at hb
      rw [take_succ_get hn', take_succ_get hm', ih (by omega) (by omega), show l[n] = m[n] by omega]
  have := key l.length (Nat.le_refl _)
  rw [List.take_length, hlen, List.take_length] at this
  exact this h

/-- A changed byte: the sum does not fit. -/
theorem dec_changed {b : T_Bundle} (h : validB b = 0) (ho : okU b) {q y : Nat} (hq : q < (encNN b).length) (hy : y < 256) (hne : y ≠ (encNN b)[q]) : (decB ((encNN b).set q y)).2 = 5 := by
  have hlt := lt_encNN ho
  have h1 := encB_len h
  rw [← encNN_len h ho] at h1
  have hl : (encNN b).length = (bodyN b).length + 4 := by unfold encNN; rw [List.length_append]; rfl
  have hl2 : (bodyN b).length - 5 + 5 = (bodyN b).length ∧ 6 ≤ (bodyN b).length := by
    unfold bodyN
    simp only [List.length_append, List.length_cons, List.length_nil]
    omega
  have ht : (encNN b).take ((encNN b).length - 4) = bodyN b := by rw [hl, Nat.add_sub_cancel]; exact List.take_left' rfl
  have hd : (encNN b).drop ((encNN b).length - 4) = fourN (crcF (iz (bodyN b))).toNat := by rw [hl, Nat.add_sub_cancel]; exact List.drop_left' rfl
  have hr := crcF_range (iz (bodyN b))
  have hbe : ((be ((encNN b).drop ((encNN b).length - 4)) : Nat) : Int) = crcF (iz ((encNN b).take ((encNN b).length - 4))) := by
    rw [hd, ht, be_fourN (by omega)]
    omega
  unfold decB
  rw [List.length_set, if_neg (by omega), if_neg (by omega), if_pos]
  intro he
  generalize hE : encNN b = e at *
  by_cases hc : q < e.length - 4
  · rw [List.drop_set_of_lt hc, List.take_set, hbe] at he
    have hq' : q < (e.take (e.length - 4)).length := by rw [List.length_take]; omega
    refine crc_sees (hlt.take _) hq' hy ?_ he.symm
    rw [List.getElem_take]
    exact hne
  · rw [List.take_set, List.set_eq_of_length_le (l := e.take (e.length - 4)) (by rw [List.length_take]; omega), List.drop_set, if_neg hc, ← hbe] at he
    have hq' : q - (e.length - 4) < (e.drop (e.length - 4)).length := by rw [List.length_drop]; omega
    have hset : lt256 ((e.drop (e.length - 4)).set (q - (e.length - 4)) y) := fun z hz => by
      rcases List.mem_or_eq_of_mem_set hz with hz | rfl
      · exact hlt.drop _ z hz
      · exact hy
    have := be_inj hset (hlt.drop _) (by rw [List.length_set]) (by omega)
    have h3 : ((e.drop (e.length - 4)).set (q - (e.length - 4)) y)[q - (e.length - 4)]? = (e.drop (e.length - 4))[q - (e.length - 4)]? := by rw [this]
    rw [List.getElem?_set_self hq', List.getElem?_drop, show e.length - 4 + (q - (e.length - 4)) = q by omega, List.getElem?_eq_getElem hq] at h3
    injection h3 with h3
    exact hne h3

theorem sameNeeds_refl (l : List T_Need) (h : l.length ≤ 1000000) : m_ref28_SameNeeds l l = some true := by
  unfold m_ref28_SameNeeds
  rw [cnd_f (by simp)]
  refine bnd_loop (fun i => (i : Int)) l.length (.inr ()) rfl (fun i hi => ?_) (by simp) rfl
  rw [decide_eq_true (by omega : (i : Int) < (l.length : Int)), cond_true]
  refine bnd_eq (elt_lt hi) ?_
  refine bnd_eq (elt_lt hi) ?_
  rw [cnd_f (by simp), wrap_succ hi (by omega)]
theorem sameImage_refl (i : T_Image) : m_ref28_SameImage i i = some true := by
  unfold m_ref28_SameImage
  simp
theorem same_refl (b : T_Bundle) (h : b.Images.length ≤ 1000000) (h2 : b.Needs.length ≤ 1000000) : m_ref28_Same b b = some true := by
  unfold m_ref28_Same
  rw [cnd_f (by simp), sameNeeds_refl _ h2, bnd_some, bnd_some, Bool.not_true, cond_false]
  refine bnd_loop (fun i => (i : Int)) b.Images.length (.inr ()) rfl (fun i hi => ?_) (by simp) rfl
  rw [decide_eq_true (by omega : (i : Int) < (b.Images.length : Int)), cond_true]
  refine bnd_eq (elt_lt hi) ?_
  refine bnd_eq (elt_lt hi) ?_
  rw [sameImage_refl, bnd_some, Bool.not_true, cond_false, wrap_succ hi (by omega)]

end Go.Proofs.Ytgnmhmnglbbamaa
