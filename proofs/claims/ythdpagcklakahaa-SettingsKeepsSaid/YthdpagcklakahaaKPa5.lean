/-
  Texts of this seat, put together: rules, walks, plain laws.
  Conditions: none.
-/
import Derived.Test.YthdpagcklakahaaKPa4
section
namespace Go.Proofs.Ythdpagcklakahaa
open Go
set_option linter.unusedSimpArgs false
set_option linter.unusedVariables false
theorem genF_gen4 {g : Int} (h0 : 0 ≤ g) (h1 : g ≤ 2147483648) (q : List Int) : genF (gen4 g ++ q) = g := by
  obtain ⟨n, rfl⟩ : ∃ n : Nat, g = (n : Int) := ⟨g.toNat, by omega⟩
  have e8 : (8 : Int) = ((8 : Nat) : Int) := rfl
  have e16 : (16 : Int) = ((16 : Nat) : Int) := rfl
  have e24 : (24 : Int) = ((24 : Nat) : Int) := rfl
  have p8 : 2 ^ 8 = 256 := rfl
  have p16 : 2 ^ 16 = 65536 := rfl
  have p24 : 2 ^ 24 = 16777216 := rfl
  have hb : IntKind.bits .i64 = 64 := rfl
  unfold gen4
  rw [e8, e16, e24, iShr_n (by omega), iShr_n (by omega), iShr_n (by omega), wrap_u8_modn, wrap_u8_modn, wrap_u8_modn, wrap_u8_modn, p8, p16, p24]
  show ((n % 256 : Nat) : Int) + 256 * ((n / 256 % 256 : Nat) : Int) + 65536 * ((n / 65536 % 256 : Nat) : Int) + 16777216 * ((n / 16777216 % 256 : Nat) : Int) = (n : Int)
  omega
theorem genF_congr {b c : List Int} (h : ∀ j, j < 4 → b.getD j 0 = c.getD j 0) : genF b = genF c := by
  unfold genF
  rw [h 0 (by omega), h 1 (by omega), h 2 (by omega), h 3 (by omega)]
theorem secF_new {z : Nat} (hz : 1024 ≤ z) {g : Int} (h0 : 1 ≤ g) (h1 : g ≤ 2147483648) {N : List T_Setting} (hN : OkK N) {b : List Int} (hb : b = spl (spl (spl (List.replicate z 255) 0 (gen4 g)) 5 (if N = [] then [] else encF N)) 4 [0]) :
    secF b = some (g, N, 5 + (if N = [] then [] else encF N).length) ∧ blankF (b.drop (5 + (if N = [] then [] else encF N).length)) = true := by
  obtain ⟨w, hw⟩ : ∃ w, (if N = [] then [] else encF N) = w := ⟨_, rfl⟩
  rw [hw] at hb ⊢
  have hel := enc_len hN.len hN.ok
  have hwl : w.length ≤ 962 := by
    rw [← hw]
    split
    · simp
    · exact hel.2
  have hwr : rng w := by
    rw [← hw]
    split
    · exact rng.nil
    · exact enc_rng hN.len hN.ok
  have hgl : (gen4 g).length = 4 := rfl
  have hrl : (List.replicate z (255 : Int)).length = z := by simp
  obtain ⟨b1, hb1⟩ : ∃ b1, spl (List.replicate z 255) 0 (gen4 g) = b1 := ⟨_, rfl⟩
  have l1 : b1.length = z := by rw [← hb1, spl_len (by rw [hgl, hrl]; omega), hrl]
  obtain ⟨b2, hb2⟩ : ∃ b2, spl b1 5 w = b2 := ⟨_, rfl⟩
  have l2 : b2.length = z := by rw [← hb2, spl_len (by omega), l1]
  rw [hb1, hb2] at hb
  have hlen : b.length = z := by rw [hb, spl_len (by simp; omega), l2]
  have hget : ∀ j, b[j]? = if j < 4 then (gen4 g)[j]? else if j = 4 then some 0 else if j < 5 + w.length then w[j - 5]? else if j < z then some 255 else none := by
    intro j
    rw [hb, spl_get (by simp; omega), ← hb2, spl_get (by omega), ← hb1, spl_get (by rw [hgl, hrl]; omega), List.getElem?_replicate]
    simp only [List.length_singleton, hgl, Nat.not_lt_zero, if_false, Nat.zero_add, Nat.sub_zero]
    by_cases c1 : j < 4
    · simp only [c1, if_true, show j < 5 by omega]
    · by_cases c2 : j = 4
      · subst c2; simp
      · by_cases c3 : j < 5 + w.length
        · simp only [c1, c2, c3, if_true, if_false, show ¬ j < 4 + 1 by omega, show ¬ j < 5 by omega]
        · simp only [c1, c2, c3, if_true, if_false, show ¬ j < 4 + 1 by omega, show ¬ j < 5 by omega]
  have hdrop : b.drop 5 = w ++ List.replicate (z - (5 + w.length)) 255 := by
    apply List.ext_getElem?
    intro j
    rw [List.getElem?_drop, hget, if_neg (by omega), if_neg (by omega)]
    by_cases c : j < w.length
    · rw [if_pos (by omega), List.getElem?_append_left c]
      congr 1
      omega
    · rw [if_neg (by omega), List.getElem?_append_right (by omega), List.getElem?_replicate]
      by_cases c2 : 5 + j < z
      · rw [if_pos c2, if_pos (by omega)]
      · rw [if_neg c2, if_neg (by omega)]
  have h4 : b.getD 4 0 = 0 := by
    rw [List.getD_eq_getElem?_getD, hget, if_neg (by omega), if_pos rfl]
    rfl
  have hgen : genF b = g := by
    have := genF_gen4 (q := []) (show 0 ≤ g by omega) h1
    rw [← this]
    refine genF_congr fun j hj => ?_
    rw [List.getD_eq_getElem?_getD, List.getD_eq_getElem?_getD, hget, if_pos hj, List.append_nil]
  have hrd : readK (b.drop 5) [] 5 = (N, 5 + w.length) := by
    rw [hdrop, readK_eq (hwr.app (rng.rep (by decide))), ← hw]
    by_cases hne : N = []
    · rw [if_pos hne, List.nil_append, batchF_ff, hne]
      rfl
    · rw [if_neg hne]
      have hpos := List.length_pos_iff.2 hne
      rw [batchF_enc hpos hN.len hN.ok]
      have hall : allK [] N = N := by
        refine asc_ext (allK_asc List.Pairwise.nil) hN.asc (allK_nd fun x h => (by cases h)) hN.nd fun k => ?_
        rw [look_allK]
        have key : ∀ (L : List T_Setting) (o : Option (List Int)), Asc L → Nd L → lastS L k o = (look L k).or o := by
          intro L
          induction L with
          | nil => intro o _ _; rfl
          | cons x r ih =>
            intro o ha hn
            have hp := List.pairwise_cons.1 ha
            have hx := hn x (by simp)
            unfold lastS
            rw [List.foldl_cons, look_cons]
            by_cases hk : k = x.Key
            · rw [if_pos hk, hx, if_neg (by decide), if_pos hk.symm]
              have := ih (some x.Value) hp.2 (fun y hy => hn y (by simp [hy]))
              unfold lastS at this
              rw [this, look_none.2 (fun y hy => by have := hp.1 y hy; omega)]
              rfl
            · rw [if_neg hk, if_neg (fun e => hk e.symm)]
              exact ih o hp.2 (fun y hy => hn y (by simp [hy]))
        rw [key N _ hN.asc hN.nd, look_nil]
        cases look N k <;> rfl
      simp only
      rw [hall, if_neg (by have := hN.len; omega), List.drop_left, readK_eq (rng.rep (by decide)), batchF_ff]
  constructor
  · unfold secF
    rw [h4, hgen, if_neg (by simp only [not_or]; exact ⟨by simp, by omega, by omega⟩), hrd]
  · rw [← List.drop_drop, hdrop, List.drop_left, blankF_iff]
    simp
theorem secF_st {b : List Int} (h : b.getD 4 0 ≠ 0) : secF b = none := if_pos (.inl h)
theorem sel_oth {b0 b1 c : List Int} {o : OS} (h : selF b0 b1 = o) (hc : secF c = none) : (o.act = 0 → selF b0 c = o) ∧ (o.act ≠ 0 → selF c b1 = o) := by
  rcases sel_cases b0 b1 with ⟨h0, h1, e⟩ | ⟨g, K, t, h0, h1, e⟩ | ⟨g, K, t, h1, h0, e⟩
  · rw [e] at h
    subst h
    exact ⟨fun ha => (by cases ha), fun _ => sel_none hc h1⟩
  · rw [e] at h
    subst h
    exact ⟨fun _ => sel0 h0 fun p hp => (by rw [hc] at hp; cases hp), fun ha => absurd rfl ha⟩
  · rw [e] at h
    subst h
    exact ⟨fun ha => (by cases ha), fun _ => sel1 h1 fun p hp => by rw [hc] at hp; cases hp⟩
theorem sel_new {b0 b1 c : List Int} {o : OS} (h : selF b0 b1 = o) {N : List T_Setting} {t : Nat} (hc : secF c = some (o.gen + 1, N, t)) : (o.act = 0 → selF b0 c = osOf 1 c (o.gen + 1) N t) ∧ (o.act ≠ 0 → selF c b1 = osOf 0 c (o.gen + 1) N t) := by
  rcases sel_cases b0 b1 with ⟨h0, h1, e⟩ | ⟨g, K, t', h0, h1, e⟩ | ⟨g, K, t', h1, h0, e⟩
  · rw [e] at h
    subst h
    exact ⟨fun ha => (by cases ha), fun _ => sel0 hc fun p hp => by rw [h1] at hp; cases hp⟩
  · rw [e] at h
    subst h
    refine ⟨fun _ => sel1 hc fun p hp => ?_, fun ha => absurd rfl ha⟩
    rw [h0] at hp
    injection hp with hp
    subst hp
    show g < g + 1
    omega
  · rw [e] at h
    subst h
    refine ⟨fun ha => (by cases ha), fun _ => sel0 hc fun p hp => ?_⟩
    rw [h1] at hp
    injection hp with hp
    subst hp
    show g ≤ g + 1
    omega
structure Turn (d e : T_Device) (k : Nat) (c : List Int) : Prop where
  ok : OkD e
  size : e.size = d.size
  wear : e.wear.length = d.wear.length
  torn : e.torn = d.torn
  len : e.bytes.length = d.bytes.length
  at_ : sect e k = c
  oth : ∀ j, j ≠ k → j < d.wear.length → sect e j = sect d j
theorem Turn.refl {d : T_Device} (h : OkD d) (k : Nat) : Turn d d k (sect d k) := ⟨h, rfl, rfl, rfl, rfl, rfl, fun _ _ _ => rfl⟩
theorem Turn.write {d e : T_Device} {k : Nat} {c : List Int} (ht : Turn d e k c) (h : OkD d) (hk : k < d.wear.length) {e' : T_Device} {t : Nat} {w : List Int} (he' : OkD e') (hs : e'.size = e.size) (hw : e'.wear.length = e.wear.length) (htn : e'.torn = e.torn) (hb : e'.bytes = spl e.bytes (k * d.size.toNat + t) w) (hl : t + w.length ≤ d.size.toNat) : Turn d e' k (spl c t w) := by
  have hle := sector_le h hk
  have hz : e.size.toNat = d.size.toNat := by rw [ht.size]
  refine ⟨he', hs.trans ht.size, hw.trans ht.wear, htn.trans ht.torn, ?_, ?_, fun j hj hjw => ?_⟩
  · rw [hb, spl_len (by rw [ht.len]; omega), ht.len]
  · rw [sect_spl (k0 := k) hs (by rw [hz]; exact hb) (by rw [hz]; exact hl) (by rw [hz, ht.len]; exact hle) (by rw [hz, ht.len]; exact hle), if_pos rfl, ht.at_]
  · rw [sect_spl (k0 := k) hs (by rw [hz]; exact hb) (by rw [hz]; exact hl) (by rw [hz, ht.len]; exact hle) (by rw [hz, ht.len]; exact sector_le h hjw), if_neg hj, ht.oth j hj hjw]
theorem Turn.prog {d e : T_Device} {k : Nat} {c : List Int} (ht : Turn d e k c) (h : OkD d) (hk : k < d.wear.length) (hd : e.down = false) {t : Nat} {w : List Int} (hr : rng w) (hl : t + w.length ≤ d.size.toNat) (hbl : ∀ j, t ≤ j → j < t + w.length → c[j]? = some 255) :
    ((programF e ((k * d.size.toNat + t : Nat) : Int) w).2 = 0 ∧ (programF e ((k * d.size.toNat + t : Nat) : Int) w).1.down = false ∧ Turn d (programF e ((k * d.size.toNat + t : Nat) : Int) w).1 k (spl c t w)) ∨
    ((programF e ((k * d.size.toNat + t : Nat) : Int) w).2 = 10 ∧ (programF e ((k * d.size.toNat + t : Nat) : Int) w).1.down = true ∧ ∃ n, n < w.length ∧ Turn d (programF e ((k * d.size.toNat + t : Nat) : Int) w).1 k (spl c t (w.take n ++ [iOr .u8 (w.getD n 0) d.torn]))) := by
  have hle := sector_le h hk
  have hz : e.size.toNat = d.size.toNat := by rw [ht.size]
  have her : erasedP e.bytes (k * d.size.toNat + t) w.length := fun j h1 h2 => by
    have := hbl (j - k * d.size.toNat) (by omega) (by omega)
    rw [← ht.at_, sect_get, hz, if_pos (by omega)] at this
    rw [← this]
    congr 1
    omega
  obtain ⟨p1, p2, p3, p4, p5⟩ := progF_ok ht.ok hr ((k * d.size.toNat + t : Nat) : Int)
  rcases programF_spec (i := k * d.size.toNat + t) ht.ok hd hr (by rw [ht.len]; omega) her with ⟨h1, h2, h3⟩ | ⟨h1, h2, n, hn, h3⟩
  · exact .inl ⟨h1, h3, ht.write h hk p1 p2 p3 p5 h2 hl⟩
  · refine .inr ⟨h1, h2, n, hn, ?_⟩
    rw [ht.torn] at h3
    exact ht.write h hk p1 p2 p3 p5 h3 (by simp; omega)
theorem sect_erase {d : T_Device} (h : OkD d) {k : Nat} (hk : k < d.wear.length) (hd : d.down = false) :
    ((eraseF d (k : Int)).2 = 0 ∧ (eraseF d (k : Int)).1.down = false ∧ Turn d (eraseF d (k : Int)).1 k (List.replicate d.size.toNat 255)) ∨
    ((eraseF d (k : Int)).2 = 10 ∧ (eraseF d (k : Int)).1.down = true ∧ Turn d (eraseF d (k : Int)).1 k ((sect d k).map fun x => iOr .u8 x d.torn)) := by
  have hle := sector_le h hk
  have hsl := sect_len h hk
  obtain ⟨p1, p2, p3, p4, p5⟩ := eraseF_ok h (k : Int)
  have key : ∀ v, orP d.bytes (k * d.size.toNat) d.size.toNat v = spl d.bytes (k * d.size.toNat + 0) ((sect d k).map fun x => iOr .u8 x v) := fun v => by
    unfold orP spl sect
    rw [Nat.add_zero]
    simp only [List.length_map, List.length_take, List.length_drop]
    congr 2
    omega
  have hstep : (stepF (wrW d k)).1.down = (stepF (wrW d k)).2 := stepF_down hd
  have e1 : ((k : Int)).toNat = k := rfl
  cases hf : (stepF (wrW d k)).2
  · left
    have ee : eraseF d (k : Int) = (wrA (stepF (wrW d k)).1 (orP d.bytes (k * d.size.toNat) d.size.toNat 255), 0) := by
      unfold eraseF
      rw [if_neg (by simp [hd]), if_neg (by omega), e1, hf]
      rfl
    rw [ee] at p1 p2 p3 p5 ⊢
    rw [hf] at hstep
    refine ⟨rfl, hstep, ?_⟩
    have := (Turn.refl h k).write h hk (e' := wrA (stepF (wrW d k)).1 (orP d.bytes (k * d.size.toNat) d.size.toNat 255)) (t := 0) (w := (sect d k).map fun x => iOr .u8 x 255) p1 p2 p3 p5 (key 255) (by simp [hsl])
    have e2 : spl (sect d k) 0 ((sect d k).map fun x => iOr .u8 x 255) = List.replicate d.size.toNat 255 := by
      unfold spl
      rw [List.take_zero, List.nil_append, Nat.zero_add, List.drop_eq_nil_of_le (by simp), List.append_nil, List.eq_replicate_iff]
      refine ⟨by simp [hsl], fun x hx => ?_⟩
      obtain ⟨y, hy, rfl⟩ := List.mem_map.1 hx
      exact or_ff (sect_rng h k y hy)
    rw [e2] at this
    exact this
  · right
    have ee : eraseF d (k : Int) = (wrA (stepF (wrW d k)).1 (orP d.bytes (k * d.size.toNat) d.size.toNat d.torn), 10) := by
      unfold eraseF
      rw [if_neg (by simp [hd]), if_neg (by omega), e1, hf]
      rfl
    rw [ee] at p1 p2 p3 p5 ⊢
    rw [hf] at hstep
    refine ⟨rfl, hstep, ?_⟩
    have := (Turn.refl h k).write h hk (e' := wrA (stepF (wrW d k)).1 (orP d.bytes (k * d.size.toNat) d.size.toNat d.torn)) (t := 0) (w := (sect d k).map fun x => iOr .u8 x d.torn) p1 p2 p3 p5 (key d.torn) (by simp [hsl])
    have e2 : spl (sect d k) 0 ((sect d k).map fun x => iOr .u8 x d.torn) = (sect d k).map fun x => iOr .u8 x d.torn := by
      unfold spl
      rw [List.take_zero, List.nil_append, Nat.zero_add, List.drop_eq_nil_of_le (by simp), List.append_nil]
    rw [e2] at this
    exact this
theorem move_spec {o : OS} {d : T_Device} (h : OkD d) (hd : d.down = false) (hz : 1024 ≤ d.size) {f : Nat} (hf : f + 1 < d.wear.length) {N : List T_Setting} (hN : OkK N) :
    ((moveD o d f N).2 = 0 ∧ (moveD o d f N).1.down = false ∧ Turn d (moveD o d f N).1 (f + othF o) (spl (spl (spl (List.replicate d.size.toNat 255) 0 (gen4 (o.gen + 1))) 5 (if N = [] then [] else encF N)) 4 [0])) ∨
    ((moveD o d f N).2 = 10 ∧ (moveD o d f N).1.down = true ∧ ∃ c, Turn d (moveD o d f N).1 (f + othF o) c ∧ (c = spl (spl (spl (List.replicate d.size.toNat 255) 0 (gen4 (o.gen + 1))) 5 (if N = [] then [] else encF N)) 4 [0] ∨ secF c = none ∨ c = sect d (f + othF o))) := by
  have hw := h.wear
  have hsz := h.size
  have hot1 : othF o ≤ 1 := by unfold othF; split <;> omega
  have hk : f + othF o < d.wear.length := by omega
  obtain ⟨k, hkk⟩ : ∃ k, f + othF o = k := ⟨_, rfl⟩
  rw [hkk] at hk ⊢
  have hle := sector_le h hk
  obtain ⟨z, hzz⟩ : ∃ z, d.size.toNat = z := ⟨_, rfl⟩
  have hz' : 1024 ≤ z := by omega
  have hel := enc_len hN.len hN.ok
  obtain ⟨w, hwe⟩ : ∃ w, (if N = [] then [] else encF N) = w := ⟨_, rfl⟩
  have hwl : w.length ≤ 962 := by
    rw [← hwe]
    split
    · simp
    · exact hel.2
  have hwr : rng w := by
    rw [← hwe]
    split
    · exact rng.nil
    · exact enc_rng hN.len hN.ok
  have hgl : (gen4 (o.gen + 1)).length = 4 := rfl
  have hgr := gen4_rng (o.gen + 1)
  unfold moveD
  simp only
  rw [hkk, hzz, hwe]
  -- the first stage: erased
  obtain ⟨r1, hr1⟩ : ∃ r1, (if blankF (sect d k) then (d, 0) else eraseF d (k : Int)) = r1 := ⟨_, rfl⟩
  rw [hr1]
  have s1 : (r1.2 = 0 ∧ r1.1.down = false ∧ Turn d r1.1 k (List.replicate z 255)) ∨ (r1.2 = 10 ∧ r1.1.down = true ∧ Turn d r1.1 k ((sect d k).map fun x => iOr .u8 x d.torn)) := by
    rw [← hr1]
    split
    · rename_i hb
      left
      refine ⟨rfl, hd, ?_⟩
      have := Turn.refl h k
      rw [blankF_iff.1 hb, sect_len h hk, hzz] at this
      exact this
    · have := sect_erase h hk hd
      rw [hzz] at this
      exact this
  rcases s1 with ⟨a1, a2, a3⟩ | ⟨a1, a2, a3⟩
  case inr =>
    right
    have e1 : (andD (andD (andD r1 fun d1 => programF d1 ((k * z : Nat) : Int) (gen4 (o.gen + 1))) fun d2 => if N = [] then (d2, 0) else programF d2 (((k * z : Nat) : Int) + 5) (encF N)) fun d3 => programF d3 (((k * z : Nat) : Int) + 4) [0]) = r1 := by
      have hne : ¬ r1.2 = 0 := by rw [a1]; decide
      unfold andD
      rw [if_neg hne, if_neg hne, if_neg hne]
    rw [e1]
    refine ⟨a1, a2, _, a3, ?_⟩
    by_cases ht : d.torn = 0
    · right; right
      rw [ht]
      conv => rhs; rw [← List.map_id (sect d k)]
      apply List.map_congr_left
      intro x hx
      exact or_z (sect_rng h k x hx)
    · right; left
      refine secF_st ?_
      rw [List.getD_eq_getElem?_getD, List.getElem?_map]
      have h4 : 4 < (sect d k).length := by rw [sect_len h hk]; omega
      rw [List.getElem?_eq_getElem h4]
      show iOr .u8 (sect d k)[4] d.torn ≠ 0
      intro e
      exact ht ((or_zero (sect_rng h k _ (List.getElem_mem h4)) h.torn).1 e).2
  -- the generation
  have hff : ∀ j, j < z → (List.replicate z (255 : Int))[j]? = some 255 := fun j hj => by rw [List.getElem?_replicate, if_pos hj]
  have e2 : (andD r1 fun d1 => programF d1 ((k * z : Nat) : Int) (gen4 (o.gen + 1))) = programF r1.1 ((k * z : Nat) : Int) (gen4 (o.gen + 1)) := by unfold andD; rw [if_pos a1]
  rw [e2]
  have s2 := a3.prog h hk a2 (t := 0) hgr (by rw [hzz, hgl]; omega) (fun j _ hj => hff j (by rw [hgl] at hj; omega))
  rw [hzz, Nat.add_zero] at s2
  obtain ⟨r2, hr2⟩ : ∃ r2, programF r1.1 ((k * z : Nat) : Int) (gen4 (o.gen + 1)) = r2 := ⟨_, rfl⟩
  rw [hr2] at s2 ⊢
  have hst : ∀ (u : List Int), u.length ≤ 4 → (spl (List.replicate z (255 : Int)) 0 u).getD 4 0 = 255 := fun u hu => by
    rw [List.getD_eq_getElem?_getD, spl_get (by simp; omega), if_neg (by omega), if_neg (by omega), hff 4 (by omega)]
    rfl
  rcases s2 with ⟨b1, b2, b3⟩ | ⟨b1, b2, n, hn, b3⟩
  case inr =>
    right
    have e3 : (andD (andD r2 fun d2 => if N = [] then (d2, 0) else programF d2 (((k * z : Nat) : Int) + 5) (encF N)) fun d3 => programF d3 (((k * z : Nat) : Int) + 4) [0]) = r2 := by
      have hne : ¬ r2.2 = 0 := by rw [b1]; decide
      unfold andD
      rw [if_neg hne, if_neg hne]
    rw [e3]
    refine ⟨b1, b2, _, b3, .inr (.inl (secF_st ?_))⟩
    rw [hst _ (by rw [hgl] at hn; simp [hgl]; omega)]
    decide
  -- the settings
  obtain ⟨c1, hc1⟩ : ∃ c1, spl (List.replicate z (255 : Int)) 0 (gen4 (o.gen + 1)) = c1 := ⟨_, rfl⟩
  rw [hc1] at b3 ⊢
  have hc1l : c1.length = z := by rw [← hc1, spl_len (by simp [hgl]; omega)]; simp
  have hc1g : ∀ j, 4 ≤ j → j < z → c1[j]? = some 255 := fun j h4 hj => by rw [← hc1, spl_get (by simp [hgl]; omega), if_neg (by omega), if_neg (by rw [hgl]; omega), hff j hj]
  have e4 : (andD r2 fun d2 => if N = [] then (d2, 0) else programF d2 (((k * z : Nat) : Int) + 5) (encF N)) = if N = [] then (r2.1, 0) else programF r2.1 (((k * z : Nat) : Int) + 5) (encF N) := by unfold andD; rw [if_pos b1]
  rw [e4]
  have s3 : ∃ r3, (if N = [] then (r2.1, 0) else programF r2.1 (((k * z : Nat) : Int) + 5) (encF N)) = r3 ∧ ((r3.2 = 0 ∧ r3.1.down = false ∧ Turn d r3.1 k (spl c1 5 w)) ∨ (r3.2 = 10 ∧ r3.1.down = true ∧ ∃ n, n < w.length ∧ Turn d r3.1 k (spl c1 5 (w.take n ++ [iOr .u8 (w.getD n 0) d.torn])))) := by
    refine ⟨_, rfl, ?_⟩
    by_cases hne : N = []
    · rw [if_pos hne]
      left
      rw [if_pos hne] at hwe
      rw [← hwe, spl_nil]
      exact ⟨rfl, b2, b3⟩
    · rw [if_neg hne]
      rw [if_neg hne] at hwe
      have e5 : ((k * z : Nat) : Int) + 5 = ((k * z + 5 : Nat) : Int) := by omega
      have := b3.prog h hk b2 (t := 5) hwr (by rw [hzz]; omega) (fun j h1 h2 => hc1g j (by omega) (by omega))
      rw [hzz] at this
      rw [e5, hwe]
      exact this
  obtain ⟨r3, hr3, s3⟩ := s3
  rw [hr3]
  rcases s3 with ⟨g1, g2, g3⟩ | ⟨g1, g2, n, hn, g3⟩
  case inr =>
    right
    have e6 : (andD r3 fun d3 => programF d3 (((k * z : Nat) : Int) + 4) [0]) = r3 := by
      have hne : ¬ r3.2 = 0 := by rw [g1]; decide
      unfold andD
      rw [if_neg hne]
    rw [e6]
    refine ⟨g1, g2, _, g3, .inr (.inl (secF_st ?_))⟩
    rw [List.getD_eq_getElem?_getD, spl_get (by simp; omega), if_pos (by omega), hc1g 4 (by omega) (by omega)]
    decide
  -- the status
  have e7 : (andD r3 fun d3 => programF d3 (((k * z : Nat) : Int) + 4) [0]) = programF r3.1 (((k * z : Nat) : Int) + 4) [0] := by unfold andD; rw [if_pos g1]
  rw [e7]
  have e8 : ((k * z : Nat) : Int) + 4 = ((k * z + 4 : Nat) : Int) := by omega
  rw [e8]
  have hst4 : ∀ j, 4 ≤ j → j < 4 + [(0 : Int)].length → (spl c1 5 w)[j]? = some 255 := fun j h1 h2 => by
    simp only [List.length_singleton] at h2
    rw [spl_get (by omega), if_pos (by omega), hc1g j h1 (by omega)]
  have s4 := g3.prog h hk g2 (t := 4) (w := [0]) (rng.cons (by decide) rng.nil) (by rw [hzz]; simp; omega) hst4
  rw [hzz] at s4
  rcases s4 with ⟨i1, i2, i3⟩ | ⟨i1, i2, n, hn, i3⟩
  · exact .inl ⟨i1, i2, i3⟩
  · right
    refine ⟨i1, i2, _, i3, ?_⟩
    have hn0 : n = 0 := by simp at hn; exact hn
    subst hn0
    have e9 : (([0] : List Int).take 0 ++ [iOr .u8 (([0] : List Int).getD 0 0) d.torn]) = [iOr .u8 0 d.torn] := rfl
    rw [e9]
    by_cases ht : d.torn = 0
    · left
      rw [ht, or_z (by decide)]
    · right; left
      refine secF_st ?_
      rw [List.getD_eq_getElem?_getD, spl_get (by rw [spl_len (by omega)]; simp; omega), if_neg (by omega), if_pos (by simp)]
      show iOr .u8 0 d.torn ≠ 0
      intro e
      exact ht ((or_zero (by decide) h.torn).1 e).2
end Go.Proofs.Ythdpagcklakahaa
end
section
namespace Go.Proofs.Ythdpagcklakahaa
open Go
set_option linter.unusedSimpArgs false
set_option linter.unusedVariables false
structure Like (d e : T_Device) : Prop where
  ok : OkD e
  size : e.size = d.size
  wear : e.wear.length = d.wear.length
  torn : e.torn = d.torn
  len : e.bytes.length = d.bytes.length
theorem Like.refl {d : T_Device} (h : OkD d) : Like d d := ⟨h, rfl, rfl, rfl, rfl⟩
theorem Turn.like {d e : T_Device} {k : Nat} {c : List Int} (h : Turn d e k c) : Like d e := ⟨h.ok, h.size, h.wear, h.torn, h.len⟩
structure UpdOk (o : OS) (d : T_Device) (f : Nat) (l : List T_Setting) (r : Option OS × T_Device × Int) : Prop where
  like : Like d r.2.1
  cases : (r.2.2 = 0 ∧ r.2.1.down = false ∧ r.1 = some (openF r.2.1 f) ∧ chkF l = 0 ∧ (openF r.2.1 f).K = allK o.K l ∧ (openF r.2.1 f).gen ≤ o.gen + 1) ∨
    ((r.2.2 = 1 ∨ r.2.2 = 3 ∨ r.2.2 = 7) ∧ r.1 = some o ∧ r.2.1 = d) ∨
    (r.2.2 = 10 ∧ r.2.1.down = true ∧ r.1 = none ∧ chkF l = 0 ∧ ((openF r.2.1 f).K = o.K ∨ (openF r.2.1 f).K = allK o.K l) ∧ (openF r.2.1 f).gen ≤ o.gen + 1)
theorem okC_of {l : List T_Setting} (hl : ∀ x ∈ l, 0 ≤ x.Key ∧ x.Key ≤ 255 ∧ rng x.Value) (h : chkF l = 0) : ∀ x ∈ l, OkC x := fun x hx =>
  have hc := (chkF_ok h).2 x hx
  ⟨⟨(hl x hx).1, (hl x hx).2.1⟩, hc.1, (hl x hx).2.2, hc.2⟩
theorem openF_okO {d : T_Device} (h : OkD d) (hz : 1024 ≤ d.size) {f : Nat} (hf : f + 1 < d.wear.length) : OkO (openF d f) := by
  have hs := h.size
  rw [openF_sel]
  exact selF_ok (sect_rng h _) (sect_rng h _) (by rw [sect_len h (by omega)]; omega) (by rw [sect_len h hf]; omega)
theorem append_ok {o : OS} {d : T_Device} {f : Nat} {l : List T_Setting} (h : OkD d) (hd : d.down = false) (hz : 1024 ≤ d.size) (hf : f + 1 < d.wear.length) (ho : openF d f = o) (hc0 : chkF l = 0) (hnil : l ≠ []) (hlok : ∀ x ∈ l, OkC x) (h32 : (allK o.K l).length ≤ 32)
    (ha : 0 ≤ o.act) (hcl : o.clean = true) (hlen : ((encF l).length : Int) ≤ d.size - o.tail) :
    UpdOk o d f l (finU o ⟨o.act, o.gen, allK o.K l, o.tail + (encF l).length, o.clean⟩ (programF d (((f + o.act.toNat) * d.size.toNat : Nat) + o.tail) (encF l))) := by
  have hco := chkF_ok hc0
  have hpos : 1 ≤ l.length := List.length_pos_iff.2 hnil
  have her := enc_rng hco.1 hlok
  have hsz := h.size
  -- the active sector
  have key : ∃ (a : Nat) (t : Nat), o.act = (a : Int) ∧ a ≤ 1 ∧ o.tail = (t : Int) ∧ secF (sect d (f + a)) = some (o.gen, o.K, t) ∧ blankF ((sect d (f + a)).drop t) = true ∧
      (∀ (e : T_Device) (K' : List T_Setting) (t' : Nat), secF (sect e (f + a)) = some (o.gen, K', t') → (∀ j, j ≠ f + a → j < d.wear.length → sect e j = sect d j) → openF e f = ⟨(a : Int), o.gen, K', (t' : Int), blankF ((sect e (f + a)).drop t')⟩) := by
    rw [openF_sel] at ho
    rcases sel_cases (sect d f) (sect d (f + 1)) with ⟨_, _, e⟩ | ⟨g, K, t, h0, h1, e⟩ | ⟨g, K, t, h1, h0, e⟩
    · rw [e] at ho
      subst ho
      exact absurd ha (by decide)
    · rw [e] at ho
      subst ho
      refine ⟨0, t, rfl, by omega, rfl, h0, hcl, fun e K' t' h2 h3 => ?_⟩
      rw [openF_sel, h3 (f + 1) (by omega) hf]
      exact sel0 h2 h1
    · rw [e] at ho
      subst ho
      refine ⟨1, t, rfl, by omega, rfl, h1, hcl, fun e K' t' h2 h3 => ?_⟩
      rw [openF_sel, h3 f (by omega) (by omega)]
      exact sel1 h2 h0
  obtain ⟨a, t, e1, ha1, e2, hs, hb, hopen⟩ := key
  have hk : f + a < d.wear.length := by omega
  have hle := sector_le h hk
  rw [e2] at hlen
  have hpa : ((f + o.act.toNat) * d.size.toNat : Nat) + o.tail = (((f + a) * d.size.toNat + t : Nat) : Int) := by
    rw [e1, e2]
    have : ((a : Int)).toNat = a := rfl
    rw [this]
    omega
  rw [hpa]
  have htl : t + (encF l).length ≤ d.size.toNat := by omega
  have hlen2 : (sect d (f + a)).length = d.size.toNat := sect_len h hk
  have hbg : ∀ j, t ≤ j → j < t + (encF l).length → (sect d (f + a))[j]? = some 255 := fun j h1 h2 => by
    have := erased_sect hle hb htl ((f + a) * d.size.toNat + j) (by omega) (by omega)
    rw [sect_get, if_pos (by omega)]
    exact this
  obtain ⟨r, hr⟩ : ∃ r, programF d (((f + a) * d.size.toNat + t : Nat) : Int) (encF l) = r := ⟨_, rfl⟩
  have hp := (Turn.refl h (f + a)).prog h hk hd her htl hbg
  rw [hr] at hp ⊢
  rcases hp with ⟨p1, p2, p3⟩ | ⟨p1, p2, n, hn, p3⟩
  · have h2 := secF_full (sect_rng h _) hs hb hpos hco.1 hlok h32 (by rw [hlen2]; exact htl)
    have h3 := hopen r.1 (allK o.K l) (t + (encF l).length) (by rw [p3.at_]; exact h2) p3.oth
    have hcl' : blankF ((sect r.1 (f + a)).drop (t + (encF l).length)) = true := by
      rw [p3.at_, drop_spl2 (by rw [hlen2]; exact htl), blank_drop hb, blankF_iff]
      simp
    rw [hcl'] at h3
    unfold finU
    rw [if_pos p1]
    refine ⟨p3.like, .inl ⟨rfl, p2, ?_, hc0, by rw [h3], by rw [h3]; show o.gen ≤ o.gen + 1; omega⟩⟩
    rw [h3, e1, e2, hcl]
    congr 2
  · have hne : ¬ r.2 = 0 := by rw [p1]; decide
    unfold finU
    rw [if_neg hne, if_pos p1]
    refine ⟨p3.like, .inr (.inr ⟨rfl, p2, rfl, hc0, ?_⟩)⟩
    rcases secF_part (sect_rng h _) hs hb hpos hco.1 hlok h32 (by rw [hlen2]; exact htl) h.torn hn with h2 | h2
    · have h3 := hopen r.1 _ _ (by rw [p3.at_]; exact h2) p3.oth
      rw [h3]
      exact ⟨.inl rfl, by show o.gen ≤ o.gen + 1; omega⟩
    · have h3 := hopen r.1 _ _ (by rw [p3.at_]; exact h2) p3.oth
      rw [h3]
      exact ⟨.inr rfl, by show o.gen ≤ o.gen + 1; omega⟩
theorem move_ok {o : OS} {d : T_Device} {f : Nat} {l : List T_Setting} (h : OkD d) (hd : d.down = false) (hz : 1024 ≤ d.size) (hf : f + 1 < d.wear.length) (ho : openF d f = o) (hc0 : chkF l = 0) (hK : OkK (allK o.K l)) (hg : o.gen ≠ 2147483648) :
    UpdOk o d f l (finU o (moveO o (allK o.K l)) (moveD o d f (allK o.K l))) := by
  have hoO := openF_okO h hz hf
  rw [ho] at hoO
  have hgb := hoO.gen
  have hot1 : othF o ≤ 1 := by unfold othF; split <;> omega
  have hact := hoO.act
  obtain ⟨N, hN⟩ : ∃ N, allK o.K l = N := ⟨_, rfl⟩
  rw [hN] at hK
  have hz2 : 1024 ≤ d.size.toNat := by omega
  -- what the sectors say when the other one was turned
  have key : ∀ (e : T_Device) (c : List Int), Turn d e (f + othF o) c → (secF c = none → openF e f = o) ∧ (∀ t, secF c = some (o.gen + 1, N, t) → openF e f = osOf (othF o : Int) c (o.gen + 1) N t) ∧ (c = sect d (f + othF o) → openF e f = o) := by
    intro e c ht
    rw [openF_sel] at ho
    have h1 := fun hc => sel_oth (c := c) ho hc
    have h2 := fun (t : Nat) (hc : secF c = some (o.gen + 1, N, t)) => sel_new (c := c) ho hc
    rw [openF_sel]
    by_cases ha : o.act = 0
    · have hof : othF o = 1 := by unfold othF; rw [if_pos ha]
      rw [hof] at ht ⊢
      rw [ht.oth f (by omega) (by omega), ht.at_]
      exact ⟨fun hc => (h1 hc).1 ha, fun t hc => (h2 t hc).1 ha, fun hc => by rw [hc]; exact ho⟩
    · have hof : othF o = 0 := by unfold othF; rw [if_neg ha]
      rw [hof] at ht ⊢
      rw [Nat.add_zero] at ht ⊢
      rw [ht.oth (f + 1) (by omega) hf, ht.at_]
      exact ⟨fun hc => (h1 hc).2 ha, fun t hc => (h2 t hc).2 ha, fun hc => by rw [hc]; exact ho⟩
  rw [hN]
  have hnew := secF_new hz2 (g := o.gen + 1) (by omega) (by omega) hK rfl
  obtain ⟨r, hr⟩ : ∃ r, moveD o d f N = r := ⟨_, rfl⟩
  have hms := move_spec (o := o) h hd hz hf hK
  rw [hr] at hms ⊢
  have hmo : osOf (othF o : Int) (spl (spl (spl (List.replicate d.size.toNat 255) 0 (gen4 (o.gen + 1))) 5 (if N = [] then [] else encF N)) 4 [0]) (o.gen + 1) N (5 + (if N = [] then [] else encF N).length) = moveO o N := by
    unfold osOf moveO
    rw [hnew.2]
    congr 1
    by_cases hne : N = []
    · rw [if_pos hne, if_pos hne]; rfl
    · rw [if_neg hne, if_neg hne]; omega
  rcases hms with ⟨p1, p2, p3⟩ | ⟨p1, p2, c, p3, p4⟩
  · have h3 := (key r.1 _ p3).2.1 _ hnew.1
    rw [hmo] at h3
    unfold finU
    rw [if_pos p1]
    exact ⟨p3.like, .inl ⟨rfl, p2, by rw [h3], hc0, by rw [h3, hN]; rfl, by rw [h3]; exact Int.le_refl _⟩⟩
  · have hne : ¬ r.2 = 0 := by rw [p1]; decide
    unfold finU
    rw [if_neg hne, if_pos p1]
    refine ⟨p3.like, .inr (.inr ⟨rfl, p2, rfl, hc0, ?_⟩)⟩
    rcases p4 with p4 | p4 | p4
    · rw [p4] at p3
      have h3 := (key r.1 _ p3).2.1 _ hnew.1
      rw [hmo] at h3
      rw [h3]
      exact ⟨.inr hN.symm, Int.le_refl _⟩
    · rw [(key r.1 _ p3).1 p4]
      exact ⟨.inl rfl, by omega⟩
    · rw [(key r.1 _ p3).2.2 p4]
      exact ⟨.inl rfl, by omega⟩
theorem upd_ok {o : OS} {d : T_Device} {f : Nat} {l : List T_Setting} (h : OkD d) (hd : d.down = false) (hz : 1024 ≤ d.size) (hf : f + 1 < d.wear.length) (ho : openF d f = o) (hl : ∀ x ∈ l, 0 ≤ x.Key ∧ x.Key ≤ 255 ∧ rng x.Value) : UpdOk o d f l (updF o d f l) := by
  unfold updF
  rw [if_neg (by simp [hd])]
  by_cases hc : chkF l ≠ 0
  · rw [if_pos hc]
    refine ⟨Like.refl h, .inr (.inl ⟨?_, rfl, rfl⟩)⟩
    rcases chkF_val l with e | e | e | e
    · exact absurd e hc
    · exact .inl e
    · exact .inr (.inr e)
    · exact .inr (.inl e)
  · have hc0 : chkF l = 0 := by omega
    rw [if_neg hc]
    by_cases hnil : l = []
    · rw [if_pos hnil]
      refine ⟨Like.refl h, .inl ⟨rfl, hd, by rw [ho], hc0, by rw [ho, hnil]; rfl, by rw [ho]; show o.gen ≤ o.gen + 1; omega⟩⟩
    · rw [if_neg hnil]
      by_cases h32 : (allK o.K l).length > 32
      · rw [if_pos h32]
        exact ⟨Like.refl h, .inr (.inl ⟨.inr (.inl rfl), rfl, rfl⟩)⟩
      · rw [if_neg h32]
        have hlok := okC_of hl hc0
        have hoO := openF_okO h hz hf
        rw [ho] at hoO
        by_cases hap : 0 ≤ o.act ∧ o.clean = true ∧ ((encF l).length : Int) ≤ d.size - o.tail
        · rw [if_pos hap]
          exact append_ok h hd hz hf ho hc0 hnil hlok (by omega) hap.1 hap.2.1 hap.2.2
        · rw [if_neg hap]
          by_cases hg : o.gen = 2147483648
          · rw [if_pos hg]
            exact ⟨Like.refl h, .inr (.inl ⟨.inr (.inl rfl), rfl, rfl⟩)⟩
          · rw [if_neg hg]
            exact move_ok h hd hz hf ho hc0 (hoO.K.all hlok (by omega)) hg
theorem upd_done {o : OS} {d : T_Device} {f : Nat} {l : List T_Setting} (h : OkD d) (hd : d.down = false) (hz : 1024 ≤ d.size) (hf : f + 1 < d.wear.length) (ho : openF d f = o) (hl : ∀ x ∈ l, 0 ≤ x.Key ∧ x.Key ≤ 255 ∧ rng x.Value) (hc : chkF l = 0) (h32 : (allK o.K l).length ≤ 32) (hg : o.gen < 2147483648) :
    (updF o d f l).2.2 = 0 ∨ (updF o d f l).2.2 = 10 := by
  have hlok := okC_of hl hc
  have hoO := openF_okO h hz hf
  rw [ho] at hoO
  have hK := hoO.K.all hlok h32
  unfold updF
  rw [if_neg (by simp [hd]), if_neg (by simp [hc])]
  split
  · exact .inl rfl
  · rename_i hnil
    rw [if_neg (by omega)]
    split
    · rename_i hap
      rcases (append_ok h hd hz hf ho hc hnil hlok h32 hap.1 hap.2.1 hap.2.2).cases with hh | hh | hh
      · exact .inl hh.1
      · exfalso
        obtain ⟨h1, h2, h3⟩ := hh
        unfold finU at h1 h2
        split at h1
        · rcases h1 with h1 | h1 | h1 <;> cases h1
        · split at h1
          · rcases h1 with h1 | h1 | h1 <;> cases h1
          · rename_i h4 h5
            -- programF over an erased part is never refused
            have := append_ok h hd hz hf ho hc hnil hlok h32 hap.1 hap.2.1 hap.2.2
            simp only at h1
            unfold programF at h1 h4 h5
            rw [if_neg (by simp [hd])] at h1 h4 h5
            split at h1
            · rename_i h6
              rw [if_pos h6] at h4 h5
              rcases progL_err (encF l) d (((f + o.act.toNat) * d.size.toNat : Nat) + o.tail).toNat with h7 | h7
              · exact h4 h7
              · exact h5 h7
            · rename_i h6
              have hoa := hoO.act
              have hle := sector_le h (show f + o.act.toNat < d.wear.length by omega)
              have hsz := h.size
              have ht := hoO.tail
              exact h6 ⟨by omega, by omega, by omega, by omega⟩
      · exact .inr hh.1
    · rw [if_neg (by omega)]
      have hms := move_spec (o := o) h hd hz hf hK
      unfold finU
      rcases hms with ⟨p1, _⟩ | ⟨p1, _⟩
      · rw [if_pos p1]; exact .inl rfl
      · rw [if_neg (by rw [p1]; decide), if_pos p1]; exact .inr rfl
theorem stepF_calm {d : T_Device} (h : d.left = 0) (hd : d.down = false) : (stepF d).2 = false ∧ (stepF d).1.left = 0 ∧ (stepF d).1.down = false := by
  unfold stepF
  rw [if_neg (by omega)]
  exact ⟨hd, h, hd⟩
theorem progL_calm : ∀ (b : List Int) (d : T_Device) (i : Nat), d.left = 0 → d.down = false → (progL d i b).2 = 0 ∧ (progL d i b).1.left = 0 ∧ (progL d i b).1.down = false
  | [], d, i, h, hd => ⟨rfl, h, hd⟩
  | x :: b, d, i, h, hd => by
    obtain ⟨h1, h2, h3⟩ := stepF_calm h hd
    unfold progL
    rw [if_neg (by rw [h1]; decide)]
    exact progL_calm b (wrB (stepF d).1 i _) (i + 1) h2 h3
theorem programF_calm {d : T_Device} (h : d.left = 0) (hd : d.down = false) (at_ : Int) (b : List Int) : (programF d at_ b).2 ≠ 10 ∧ (programF d at_ b).1.left = 0 ∧ (programF d at_ b).1.down = false := by
  unfold programF
  rw [if_neg (by simp [hd])]
  split
  · obtain ⟨h1, h2, h3⟩ := progL_calm b d at_.toNat h hd
    exact ⟨by rw [h1]; decide, h2, h3⟩
  · exact ⟨by simp, h, hd⟩
theorem eraseF_calm {d : T_Device} (h : d.left = 0) (hd : d.down = false) (s : Int) : (eraseF d s).2 ≠ 10 ∧ (eraseF d s).1.left = 0 ∧ (eraseF d s).1.down = false := by
  unfold eraseF
  rw [if_neg (by simp [hd])]
  split
  · exact ⟨by simp, h, hd⟩
  · obtain ⟨h1, h2, h3⟩ := stepF_calm (d := wrW d s.toNat) h hd
    rw [h1]
    exact ⟨by simp, h2, h3⟩
theorem andD_calm {r : T_Device × Int} {g : T_Device → T_Device × Int} (hr : r.2 ≠ 10 ∧ r.1.left = 0 ∧ r.1.down = false) (hg : ∀ e : T_Device, e.left = 0 → e.down = false → (g e).2 ≠ 10 ∧ (g e).1.left = 0 ∧ (g e).1.down = false) : (andD r g).2 ≠ 10 ∧ (andD r g).1.left = 0 ∧ (andD r g).1.down = false := by
  unfold andD
  split
  · exact hg _ hr.2.1 hr.2.2
  · exact hr
theorem moveD_calm {d : T_Device} (h : d.left = 0) (hd : d.down = false) (o : OS) (f : Nat) (N : List T_Setting) : (moveD o d f N).2 ≠ 10 ∧ (moveD o d f N).1.left = 0 ∧ (moveD o d f N).1.down = false := by
  unfold moveD
  refine andD_calm (andD_calm (andD_calm ?_ fun e a b => programF_calm a b _ _) fun e a b => ?_) fun e a b => programF_calm a b _ _
  · split
    · exact ⟨by simp, h, hd⟩
    · exact eraseF_calm h hd _
  · split
    · exact ⟨by simp, a, b⟩
    · exact programF_calm a b _ _
theorem finU_calm {o o' : OS} {r : T_Device × Int} (h : r.2 ≠ 10 ∧ r.1.left = 0 ∧ r.1.down = false) : (finU o o' r).2.2 ≠ 10 ∧ (finU o o' r).2.1.left = 0 ∧ (finU o o' r).2.1.down = false := by
  unfold finU
  split
  · exact ⟨by simp, h.2.1, h.2.2⟩
  · rw [if_neg h.1]
    exact h
theorem updF_calm {d : T_Device} (h : d.left = 0) (hd : d.down = false) (o : OS) (f : Nat) (l : List T_Setting) : (updF o d f l).2.2 ≠ 10 ∧ (updF o d f l).2.1.left = 0 ∧ (updF o d f l).2.1.down = false := by
  unfold updF
  rw [if_neg (by simp [hd])]
  split
  · refine ⟨?_, h, hd⟩
    rcases chkF_val l with e | e | e | e <;> simp [e]
  · split
    · exact ⟨by simp, h, hd⟩
    · split
      · exact ⟨by simp, h, hd⟩
      · split
        · exact finU_calm (programF_calm h hd _ _)
        · split
          · exact ⟨by simp, h, hd⟩
          · exact finU_calm (moveD_calm h hd o f _)
end Go.Proofs.Ythdpagcklakahaa
end
section
namespace Go.Proofs.Ythdpagcklakahaa
open Go
set_option linter.unusedSimpArgs false
set_option linter.unusedVariables false
theorem shr32 {n : Nat} (h : n < 4294967296) : iShr .u64 (n : Int) 32 = 0 := by
  have e : iShr .u64 (n : Int) ((32 : Nat) : Int) = ((n / 2 ^ 32 : Nat) : Int) := iShr_n (by show 32 ≤ 64; omega)
  rw [Nat.div_eq_of_lt (by omega)] at e
  exact e
theorem and32 {n : Nat} (h : n < 4294967296) : iAnd .u64 (n : Int) 4294967295 = (n : Int) := by
  have e : iAnd .u64 (n : Int) ((4294967295 : Nat) : Int) = ((n &&& 4294967295 : Nat) : Int) := by
    unfold iAnd
    have := Nat.and_le_left (n := n) (m := 4294967295)
    rw [BitVec.toNat_and, ofNat_toNat (by show n < 2 ^ 64; omega), ofNat_toNat (by show 4294967295 < 2 ^ 64; omega), wrap_u64n (by omega)]
  rw [show (4294967295 : Nat) = 2 ^ 32 - 1 from rfl, Nat.and_two_pow_sub_one_eq_mod, Nat.mod_eq_of_lt (by omega)] at e
  exact e
theorem mul_one {n : Nat} (h : n < 4294967296) : m_math_bits_Mul 1 (n : Int) = some (0, (n : Int)) := by
  unfold m_math_bits_Mul m_math_bits_Mul64
  have h1 : iShr .u64 1 32 = 0 := shr32 (n := 1) (by omega)
  have h2 : iAnd .u64 1 4294967295 = 1 := and32 (n := 1) (by omega)
  have h0 : iShr .u64 0 32 = 0 := shr32 (n := 0) (by omega)
  have h3 : iAnd .u64 0 4294967295 = 0 := and32 (n := 0) (by omega)
  have w0 : IntKind.wrap .u64 0 = 0 := wrap_u64 (by omega) (by omega)
  have wn : IntKind.wrap .u64 (n : Int) = (n : Int) := wrap_u64 (by omega) (by omega)
  simp only [h1, h2, shr32 h, and32 h, Int.mul_zero, Int.zero_mul, Int.one_mul, w0, wn, h0, h3, Int.add_zero, Int.zero_add, bnd_some]
noncomputable def repStep : Int × List Int → Option (Step (Int × List Int) (List Int)) :=
  (fun (s1 : Int × List Int) => bif decide (s1.1 < (s1.2.length : Int)) then (bnd (partM s1.2.length s1.1 (s1.2.length : Int)) fun n1 => bnd (partM s1.2.length 0 s1.1) fun n2 => bnd (Go.Proofs.Ythdpagcklakahaa.sub s1.2 ((Int.toNat 0 : Nat) : Int) ((Int.toNat 0 + n2 : Nat) : Int)) fun l3 => bnd (copyM s1.2 (Int.toNat s1.1) n1 l3) fun l4 => some (.next (IntKind.wrap .i64 (s1.1 + ((min l3.length n1 : Nat) : Int)), l4))) else (some (.done s1.2)))
theorem rep_step {n : Nat} (hn : n ≤ 1000000) (s : Int × List Int) (hI : ∃ (j m : Nat), s = ((j : Int), List.replicate j 255 ++ List.replicate m 0) ∧ 1 ≤ j ∧ j + m = n) : (∃ s', repStep s = some (.next s') ∧ (∃ (j m : Nat), s' = ((j : Int), List.replicate j 255 ++ List.replicate m 0) ∧ 1 ≤ j ∧ j + m = n) ∧ (n : Int) - s'.1 < n - s.1 ∧ s'.1 ≤ n) ∨ ∃ t, repStep s = some (.done t) ∧ t = List.replicate n 255 := by
  obtain ⟨j, m, rfl, h1, h2⟩ := hI
  unfold repStep
  have hl : (List.replicate j (255 : Int) ++ List.replicate m 0).length = j + m := by simp
  simp only [hl]
  by_cases hm : m = 0
  · right
    subst hm
    rw [cnd_f (by simp)]
    refine ⟨_, rfl, ?_⟩
    rw [← h2]; simp
  · left
    rw [cnd_t (by simp; omega)]
    have e1 : partM (j + m) (j : Int) ((j + m : Nat) : Int) = some m := by
      unfold partM
      rw [if_pos (by omega)]
      congr 1
      omega
    have e2 : partM (j + m) 0 (j : Int) = some j := by
      unfold partM
      rw [if_pos (by omega)]
      simp
    rw [e1, bnd_some, e2, bnd_some]
    have e3 : Go.Proofs.Ythdpagcklakahaa.sub (List.replicate j (255 : Int) ++ List.replicate m 0) ((Int.toNat 0 : Nat) : Int) ((Int.toNat 0 + j : Nat) : Int) = some (List.replicate j 255) := by
      rw [show Int.toNat 0 = 0 from rfl, sub_nat (by omega) (by rw [hl]; omega)]
      simp
    rw [e3, bnd_some]
    have e4 : copyM (List.replicate j (255 : Int) ++ List.replicate m 0) (j : Int).toNat m (List.replicate j 255) = some (List.replicate (j + min j m) 255 ++ List.replicate (m - min j m) 0) := by
      unfold copyM
      rw [Int.toNat_natCast, if_pos (by rw [hl]; omega)]
      congr 1
      simp only [List.length_replicate, List.take_replicate]
      rw [List.take_append_of_le_length (by simp), List.drop_append, List.drop_eq_nil_of_le (by simp), List.take_of_length_le (by simp)]
      simp only [List.length_replicate, List.nil_append, List.drop_replicate, List.replicate_append_replicate]
      congr 1
      · congr 1; omega
      · congr 1; omega
    rw [e4, bnd_some]
    refine ⟨_, rfl, ⟨j + min j m, m - min j m, ?_, by omega, by omega⟩, ?_, ?_⟩
    · rw [wrap_i64 (by simp; omega) (by simp; omega)]
      simp
    · simp only [List.length_replicate]
      rw [wrap_i64 (by omega) (by omega)]
      omega
    · simp only [List.length_replicate]
      rw [wrap_i64 (by omega) (by omega)]
      omega
theorem repeat_eq {n : Nat} (h1 : 1 ≤ n) (h2 : n ≤ 1000000) : m_slices_Repeat__byte_byte [255] (n : Int) = some (List.replicate n 255) := by
  unfold m_slices_Repeat__byte_byte
  rw [cnd_f (by simp)]
  have e1 : IntKind.wrap .u64 ((([255] : List Int).length : Nat) : Int) = 1 := wrap_u64 (by simp) (by simp)
  rw [e1, wrap_u64n (by omega), mul_one (by omega), bnd_some]
  simp only
  rw [cnd_f (by simp), wrap_i64n (by omega)]
  rw [show decide ((n : Int) > 9223372036854775807) = false from by simp; omega, bnd_some, cnd_f rfl]
  have e2 : mkS 1 (0 : Int) (n : Int) (n : Int) = some (List.replicate n 0) := by
    unfold mkS
    rw [if_pos (by omega)]
    simp
  rw [e2, bnd_some]
  have e3 : copyM (List.replicate n (0 : Int)) 0 (List.replicate n (0 : Int)).length [255] = some (List.replicate 1 255 ++ List.replicate (n - 1) 0) := by
    unfold copyM
    rw [if_pos (by simp)]
    have e : ([255] : List Int).take n = [255] := List.take_of_length_le (by simp; omega)
    have e' : min 1 n = 1 := by omega
    simp [e, e']
  rw [e3, bnd_some]
  have hm : ((min ([255] : List Int).length (List.replicate n (0 : Int)).length : Nat) : Int) = ((1 : Nat) : Int) := by
    simp; omega
  rw [hm]
  obtain ⟨t, h3, h4⟩ := loop_inv (m := repStep) (fun s => (∃ (j m : Nat), s = ((j : Int), List.replicate j 255 ++ List.replicate m 0) ∧ 1 ≤ j ∧ j + m = n) ∧ s.1 ≤ n) (fun s => ((n : Int) - s.1).toNat) (fun t => t = List.replicate n 255) (fun s hs => by
    rcases rep_step h2 s hs.1 with ⟨s', a, b, c, d⟩ | h
    · exact .inl ⟨s', a, ⟨b, d⟩, by omega⟩
    · exact .inr h) (((1 : Nat) : Int), List.replicate 1 255 ++ List.replicate (n - 1) 0) ⟨⟨1, n - 1, rfl, by omega, by omega⟩, by simp; omega⟩
  show bnd (loopM repStep _) _ = _
  rw [h3, h4]
  rfl
def newD (n m : Nat) : T_Device := ⟨(m : Int), List.replicate (n * m) 255, List.replicate n 0, 0, 0, 0, false⟩
theorem new_eq {n m : Nat} (hn : 1 ≤ n ∧ n ≤ 16) (hm : 64 ≤ m ∧ m ≤ 1024) : m_flash_New (n : Int) (m : Int) = some (some (newD n m), 0) := by
  unfold m_flash_New
  rw [cnd_f (by simp; omega), cnd_f (by simp; omega), cnd_f (by simp; omega), show decide ((m : Int) > 1024) = false from by simp; omega, bnd_some, cnd_f rfl]
  have h1 : n * m ≤ 16 * 1024 := Nat.mul_le_mul hn.2 hm.2
  have h2 : 1 * 64 ≤ n * m := Nat.mul_le_mul hn.1 hm.1
  have e : (n : Int) * (m : Int) = ((n * m : Nat) : Int) := by simp
  rw [e, wrap_i64n (by omega), repeat_eq (by omega) (by omega), bnd_some]
  have e2 : mkS 8 (0 : Int) (n : Int) (n : Int) = some (List.replicate n 0) := by
    unfold mkS
    rw [if_pos (by omega)]
    simp
  rw [e2]
  rfl
theorem newD_ok {n m : Nat} (hn : 1 ≤ n ∧ n ≤ 16) (hm : 64 ≤ m ∧ m ≤ 1024) : OkD (newD n m) := ⟨by show 64 ≤ (m : Int) ∧ (m : Int) ≤ 1024; omega, by show 1 ≤ (List.replicate n (0 : Int)).length ∧ (List.replicate n (0 : Int)).length ≤ 16; simpa using hn, by show ((List.replicate (n * m) (255 : Int)).length : Int) = ((List.replicate n (0 : Int)).length : Int) * (m : Int); simp, rng.rep (by omega), by show (0 : Int) ≤ 0 ∧ (0 : Int) ≤ 255; omega, by show (0 : Int) ≤ 0 ∧ (0 : Int) ≤ 9223372036854775807; omega⟩
theorem newD_sect {n m k : Nat} (h : k < n) : sect (newD n m) k = List.replicate m 255 := by
  unfold sect newD
  simp only [Int.toNat_natCast, List.drop_replicate, List.take_replicate]
  have : (k + 1) * m ≤ n * m := Nat.mul_le_mul (by omega) (Nat.le_refl m)
  rw [Nat.add_mul] at this
  congr 1
  omega
theorem secF_ff {m : Nat} (h : 5 ≤ m) : secF (List.replicate m 255) = none := by
  refine secF_st ?_
  rw [List.getD_eq_getElem?_getD, List.getElem?_replicate, if_pos (by omega)]
  simp
theorem newD_open {n m f : Nat} (hm : 5 ≤ m) (h : f + 1 < n) : openF (newD n m) f = os0 := by
  rw [openF_sel, newD_sect (by omega), newD_sect h, sel_none (secF_ff hm) (secF_ff hm)]
theorem device_eq : m_law06_device = some (some (newD 3 1024)) := by
  unfold m_law06_device
  rw [show m_flash_New 3 1024 = _ from new_eq (n := 3) (m := 1024) (by omega) (by omega)]
  rfl
end Go.Proofs.Ythdpagcklakahaa
end
section
namespace Go.Proofs.Ythdpagcklakahaa
open Go
set_option linter.unusedSimpArgs false
set_option linter.unusedVariables false
theorem wrapS {i : Nat} (h : i ≤ 1000000000) : IntKind.wrap .i64 ((i : Int) + 1) = ((i + 1 : Nat) : Int) := by
  rw [wrap_i64 (by omega) (by omega)]; rfl
theorem set_iff (x y : T_Setting) : x = y ↔ x.Key = y.Key ∧ x.Delete = y.Delete ∧ x.Value = y.Value := by
  cases x; cases y; simp only [T_Setting.mk.injEq]
  exact ⟨fun h => ⟨h.1, h.2.2, h.2.1⟩, fun h => ⟨h.1, h.2.2, h.2.1⟩⟩
instance : DecidableEq T_Setting := fun x y => decidable_of_iff _ (set_iff x y).symm
theorem copyJ {l : List Int} (hl : l.length ≤ 1000000) : m_ref01_Copy l = some l := by
  unfold m_ref01_Copy
  refine bnd_loop (fun i => (l.take i, (i : Int))) l.length l rfl (fun i hi => ?_) ?_ rfl
  · simp only
    rw [cnd_t (by simpa using hi), elt_lt hi, bnd_some, app_eq (by simp; omega) (by simp; omega), bnd_some, wrapS (by omega), List.take_append_getElem hi]
  · simp only
    rw [cnd_f (by simp)]
    simp
theorem any_ne {α : Type} {n : Nat} {a b : List α} (p : Nat → Bool) (ha : a.length = n) (hb : b.length = n) (hp : ∀ i (hi : i < n), p i = false ↔ a[i]'(by omega) = b[i]'(by omega)) : (List.range n).any p = false ↔ a = b := by
  rw [List.any_eq_false]
  constructor
  · intro h
    refine List.ext_getElem (by omega) fun i h1 h2 => ?_
    have := h i (List.mem_range.2 (by omega))
    exact (hp i (by omega)).1 (by simpa using this)
  · intro h i hi
    have := (hp i (List.mem_range.1 hi)).2 (by subst h; rfl)
    simp [this]
theorem sameI {a b : List Int} (hl : a.length ≤ 1000000) : m_ref01_Same a b = some (decide (a = b)) := by
  unfold m_ref01_Same
  by_cases h : a.length = b.length
  · rw [cnd_f (by simp [h])]
    refine bnd_loop_any (fun i => (i : Int)) a.length (fun i => a[i]? != b[i]?) (.inl false) (.inr ()) rfl (fun i hi => ?_) ?_ ?_
    · have hi2 : i < b.length := by omega
      rw [cnd_t (by simpa using hi), elt_lt hi, bnd_some, elt_lt hi2, bnd_some, List.getElem?_eq_getElem hi, List.getElem?_eq_getElem hi2, wrapS (by omega)]
      have e : (some a[i] != some b[i]) = (a[i] != b[i]) := by simp [bne]
      rw [e]
      cases a[i] != b[i] <;> rfl
    · rw [cnd_f (by simp)]
    · have h1 := any_ne (a := a) (b := b) (fun i => a[i]? != b[i]?) rfl h.symm (fun i hi => by
        have hi2 : i < b.length := by omega
        simp only [List.getElem?_eq_getElem hi, List.getElem?_eq_getElem hi2]
        simp [bne])
      cases hh : (List.range a.length).any (fun i => a[i]? != b[i]?) with
      | false => rw [decide_eq_true (h1.1 hh)]; rfl
      | true =>
        have : ¬ a = b := fun e => by rw [h1.2 e] at hh; cases hh
        rw [decide_eq_false this]; rfl
  · rw [cnd_t (by simp only [bne_iff_ne, ne_eq]; omega), decide_eq_false (fun e => h (by rw [e]))]
def okV (l : List T_Setting) : Prop := l.length ≤ 1000000 ∧ ∀ x ∈ l, x.Value.length ≤ 1000000
theorem sameL {a b : List T_Setting} (hl : okV a) : m_ref06_Same a b = some (decide (a = b)) := by
  unfold m_ref06_Same
  by_cases h : a.length = b.length
  · rw [cnd_f (by simp [h])]
    refine bnd_loop_any (fun i => (i : Int)) a.length (fun i => decide (a[i]? ≠ b[i]?)) (.inl false) (.inr ()) rfl (fun i hi => ?_) ?_ ?_
    · have hi2 : i < b.length := by omega
      have := hl.1
      rw [cnd_t (by simpa using hi), elt_lt hi, bnd_some, elt_lt hi2, bnd_some, List.getElem?_eq_getElem hi, List.getElem?_eq_getElem hi2, wrapS (by omega), sameI (hl.2 _ (List.getElem_mem hi))]
      by_cases h1 : a[i].Key = b[i].Key
      · rw [cnd_f (by simp [h1])]
        by_cases h2 : a[i].Delete = b[i].Delete
        · rw [cnd_f (by simp [h2])]
          by_cases h3 : a[i].Value = b[i].Value
          · have e : a[i] = b[i] := (set_iff _ _).2 ⟨h1, h2, h3⟩
            simp [e]
          · have e : a[i] ≠ b[i] := fun e => h3 (by rw [e])
            simp [h3, e]
        · rw [cnd_t (by simp [h2])]
          rw [decide_eq_true (by simp; exact fun e => h2 (by rw [e]))]
          rfl
      · rw [cnd_t (by simp [h1])]
        rw [decide_eq_true (by simp; exact fun e => h1 (by rw [e]))]
        rfl
    · rw [cnd_f (by simp)]
    · have h1 := any_ne (a := a) (b := b) (fun i => decide (a[i]? ≠ b[i]?)) rfl h.symm (fun i hi => by
        have hi2 : i < b.length := by omega
        simp only [List.getElem?_eq_getElem hi, List.getElem?_eq_getElem hi2]
        simp)
      cases hh : (List.range a.length).any (fun i => decide (a[i]? ≠ b[i]?)) with
      | false => rw [decide_eq_true (h1.1 hh)]; rfl
      | true =>
        have : ¬ a = b := fun e => by rw [h1.2 e] at hh; cases hh
        rw [decide_eq_false this]; rfl
  · rw [cnd_t (by simp only [bne_iff_ne, ne_eq]; omega), decide_eq_false (fun e => h (by rw [e]))]
theorem copyL {l : List T_Setting} (hl : okV l) : m_ref06_Copy l = some l := by
  unfold m_ref06_Copy
  have := hl.1
  refine bnd_loop (fun i => (l.take i, (i : Int))) l.length l rfl (fun i hi => ?_) ?_ rfl
  · simp only
    rw [cnd_t (by simpa using hi), elt_lt hi, bnd_some, copyJ (hl.2 _ (List.getElem_mem hi)), bnd_some]
    have e : (⟨l[i].Key, l[i].Value, l[i].Delete⟩ : T_Setting) = l[i] := rfl
    rw [e, app_eq (by simp; omega) (by simp; omega), bnd_some, wrapS (by omega), List.take_append_getElem hi]
  · simp only
    rw [cnd_f (by simp)]
    simp
def appG (c : T_Setting) : Bool → List T_Setting → List T_Setting
  | true, r => r.filter fun x => x.Key != c.Key
  | false, [] => [c]
  | false, x :: r => if c.Key < x.Key then c :: x :: r.filter (fun x => x.Key != c.Key) else if x.Key ≠ c.Key then x :: appG c false r else c :: r.filter fun x => x.Key != c.Key
noncomputable def appStep (l_p0 : List T_Setting) (c_p1 : T_Setting) : List T_Setting × Bool × Int → Option (Step (List T_Setting × Bool × Int) (List T_Setting × Bool)) :=
  (fun (s1 : List T_Setting × Bool × Int) => bif decide (s1.2.2 < (l_p0.length : Int)) then (bnd ((bnd ((bif !s1.2.1 then (bnd (elt l_p0 s1.2.2) fun x1 => some (decide (c_p1.Key < x1.Key))) else (some false) : Option Bool)) fun o3 => bif o3 then (bnd (app 40 s1.1 [c_p1]) fun l1 => some (l1, true)) else (some (s1.1, s1.2.1)) : Option (List T_Setting × Bool))) fun o2 => bnd (elt l_p0 s1.2.2) fun x2 => bif (x2.Key != c_p1.Key) then (bnd (app 40 o2.1 [x2]) fun l2 => some (.next (l2, o2.2, IntKind.wrap .i64 (s1.2.2 + 1)))) else (bif !o2.2 then (bnd (app 40 o2.1 [c_p1]) fun l3 => some (.next (l3, true, IntKind.wrap .i64 (s1.2.2 + 1)))) else (some (.next (o2.1, o2.2, IntKind.wrap .i64 (s1.2.2 + 1)))))) else (some (.done (s1.1, s1.2.1))))
theorem app_loop {K : List T_Setting} (hK : K.length ≤ 1000000) (c : T_Setting) : ∀ (r : List T_Setting) (i : Nat) (o : List T_Setting) (d : Bool), K.drop i = r → i + r.length = K.length → o.length ≤ i + 1 → (d = false → o.length ≤ i) → ∃ o' d', loopM (appStep K c) (o, d, (i : Int)) = some (o', d') ∧ o'.length ≤ K.length + 1 ∧ (if d' = true then o' else o' ++ [c]) = o ++ appG c d r
  | [], i, o, d, h1, h2, h3, h3' => by
    simp only [List.length_nil] at h2
    refine ⟨o, d, loop_done ?_, by omega, ?_⟩
    · unfold appStep
      simp only
      rw [cnd_f (by simp; omega)]
    · cases d <;> simp [appG]
  | x :: r, i, o, d, h1, h2, h3, h3' => by
    simp only [List.length_cons] at h2
    have hi : i < K.length := by omega
    have hx : K[i] = x := by
      have := List.getElem?_drop (xs := K) (i := i) (j := 0)
      rw [h1] at this
      simp only [List.getElem?_cons_zero, Nat.add_zero, List.getElem?_eq_getElem hi] at this
      exact (Option.some.inj this).symm
    have hr : K.drop (i + 1) = r := by rw [← List.drop_drop, h1]; rfl
    have happ : ∀ (q : List T_Setting) (y : T_Setting), q.length ≤ i + 2 → app 40 q [y] = some (q ++ [y]) := fun q y hq => app_eq (by simp; omega) (by simp; omega)
    have step : ∀ s', appStep K c (o, d, (i : Int)) = some (.next s') → (∃ o2 d2, s' = (o2, d2, ((i + 1 : Nat) : Int)) ∧ o2.length ≤ i + 2 ∧ (d2 = false → o2.length ≤ i + 1) ∧ o2 ++ appG c d2 r = o ++ appG c d (x :: r)) → ∃ o' d', loopM (appStep K c) (o, d, (i : Int)) = some (o', d') ∧ o'.length ≤ K.length + 1 ∧ (if d' = true then o' else o' ++ [c]) = o ++ appG c d (x :: r) := by
      intro s' h4 ⟨o2, d2, h5, h6, h6', h7⟩
      subst h5
      obtain ⟨o', d', h8, h9, h10⟩ := app_loop hK c r (i + 1) o2 d2 hr (by omega) (by omega) h6'
      exact ⟨o', d', loop_next h4 h8, h9, by rw [h10, h7]⟩
    unfold appStep at step
    simp only at step
    rw [cnd_t (by simpa using hi), elt_lt hi, hx, wrapS (by omega), bnd_some] at step
    cases d with
    | true =>
      rw [cnd_f (by rfl), bnd_some, cnd_f rfl, bnd_some, bnd_some] at step
      by_cases hk : x.Key = c.Key
      · rw [cnd_f (by simp [hk]), cnd_f (by rfl)] at step
        exact step _ rfl ⟨o, true, by simp, by omega, by simp, by simp [appG, hk]⟩
      · rw [cnd_t (by simp [hk]), happ _ _ (by first | omega | (simp only; omega)), bnd_some] at step
        exact step _ rfl ⟨o ++ [x], true, by simp, by simp; omega, by simp, by simp [appG, hk]⟩
    | false =>
      rw [cnd_t (by rfl), bnd_some] at step
      by_cases hlt : c.Key < x.Key
      · rw [cnd_t (by simp [hlt]), happ _ _ (by first | omega | (simp only; omega)), bnd_some, bnd_some, bnd_some] at step
        have hk : ¬ x.Key = c.Key := by omega
        rw [cnd_t (by simp [hk]), happ _ _ (by simp; omega), bnd_some] at step
        have := h3' rfl
        exact step _ rfl ⟨o ++ [c] ++ [x], true, by simp, by simp; omega, by simp, by simp [appG, hlt]⟩
      · rw [cnd_f (by simp [hlt]), bnd_some, bnd_some] at step
        by_cases hk : x.Key = c.Key
        · rw [cnd_f (by simp [hk]), cnd_t (by rfl), happ _ _ (by first | omega | (simp only; omega)), bnd_some] at step
          exact step _ rfl ⟨o ++ [c], true, by simp, by simp; omega, by simp, by simp [appG, hlt, hk]⟩
        · rw [cnd_t (by simp [hk]), happ _ _ (by first | omega | (simp only; omega)), bnd_some] at step
          exact step _ rfl ⟨o ++ [x], false, by simp, by simp; omega, fun _ => by simp; exact h3' rfl, by simp [appG, hlt, hk]⟩
theorem filter_all {c : T_Setting} {r : List T_Setting} {p : T_Setting → Bool} (h : ∀ x ∈ r, p x = true) : r.filter p = r := List.filter_eq_self.2 h
theorem filter_no {r : List T_Setting} {p : T_Setting → Bool} (h : ∀ x ∈ r, p x = false) : r.filter p = [] := List.filter_eq_nil_iff.2 fun x hx => by simp [h x hx]
theorem appG_put {c : T_Setting} : ∀ {K : List T_Setting}, Asc K → appG c false K = (K.filter fun x => decide (x.Key < c.Key)) ++ c :: K.filter fun x => decide (c.Key < x.Key)
  | [], _ => rfl
  | x :: r, h => by
    have hp := List.pairwise_cons.1 h
    unfold appG
    by_cases h1 : c.Key < x.Key
    · rw [if_pos h1, List.filter_cons, List.filter_cons, if_neg (by simp; omega), if_pos (by simpa using h1), filter_no (p := fun x => decide (x.Key < c.Key)) (fun y hy => by have := hp.1 y hy; simp; omega), filter_all (c := c) (p := fun x => x.Key != c.Key) (fun y hy => by have := hp.1 y hy; simp; omega), filter_all (c := c) (p := fun x => decide (c.Key < x.Key)) (fun y hy => by have := hp.1 y hy; simp; omega)]
      rfl
    · rw [if_neg h1]
      by_cases h2 : x.Key = c.Key
      · rw [if_neg (by simpa using h2), List.filter_cons, List.filter_cons, if_neg (by simp; omega), if_neg (by simpa using h1), filter_no (p := fun x => decide (x.Key < c.Key)) (fun y hy => by have := hp.1 y hy; simp; omega), filter_all (c := c) (p := fun x => x.Key != c.Key) (fun y hy => by have := hp.1 y hy; simp; omega), filter_all (c := c) (p := fun x => decide (c.Key < x.Key)) (fun y hy => by have := hp.1 y hy; simp; omega)]
        rfl
      · rw [if_pos h2, List.filter_cons, List.filter_cons, if_pos (by simp; omega), if_neg (by simpa using h1), appG_put hp.2]
        rfl
theorem appG_eq {c : T_Setting} {K : List T_Setting} (h : Asc K) : appG c c.Delete K = appK K c := by
  unfold appK
  cases hd : c.Delete
  · rw [if_neg (by simp)]
    exact appG_put h
  · rw [if_pos rfl]
    cases K <;> rfl
theorem apply_eq {K : List T_Setting} (h : Asc K) (hK : K.length ≤ 1000000) (c : T_Setting) : m_ref06_Apply K c = some (appK K c) := by
  obtain ⟨o, d, h1, h2, h3⟩ := app_loop hK c K 0 [] c.Delete rfl (by simp) (by simp) (by simp)
  rw [appG_eq h, List.nil_append] at h3
  unfold m_ref06_Apply
  show bnd (loopM (appStep K c) _) _ = _
  rw [show (([], c.Delete, 0) : List T_Setting × Bool × Int) = ([], c.Delete, ((0 : Nat) : Int)) from rfl, h1, bnd_some, ← h3]
  cases d
  · simp only [Bool.not_false, cond_true]
    rw [app_eq (by simp; omega) (by simp; omega)]
    rfl
  · rfl
theorem appK_len (K : List T_Setting) (c : T_Setting) : (appK K c).length ≤ K.length + 1 := by
  unfold appK
  split
  · have := List.length_filter_le (fun x : T_Setting => x.Key != c.Key) K; omega
  · rw [List.length_append, List.length_cons]
    have e : ∀ L : List T_Setting, (L.filter fun x => decide (x.Key < c.Key)).length + (L.filter fun x => decide (c.Key < x.Key)).length ≤ L.length := fun L => by
      induction L with
      | nil => simp
      | cons x r ih =>
        rw [List.filter_cons, List.filter_cons, List.length_cons]
        by_cases h1 : x.Key < c.Key
        · rw [if_pos (by simpa using h1), if_neg (by simp; omega), List.length_cons]; omega
        · rw [if_neg (by simpa using h1)]
          split
          · rw [List.length_cons]; omega
          · omega
    have := e K
    omega
theorem allK_len : ∀ (l K : List T_Setting), (allK K l).length ≤ K.length + l.length
  | [], K => by simp [allK]
  | c :: l, K => by
    have h1 := allK_len l (appK K c)
    have h2 := appK_len K c
    unfold allK at h1 ⊢
    rw [List.foldl_cons, List.length_cons]
    omega
theorem allK_take {K l : List T_Setting} {i : Nat} (h : i < l.length) : appK (allK K (l.take i)) l[i] = allK K (l.take (i + 1)) := by
  unfold allK
  rw [← List.take_append_getElem h, List.foldl_append]
  rfl
theorem applyAll_eq {K l : List T_Setting} (h : Asc K) (hK : K.length + l.length ≤ 1000000) : m_ref06_ApplyAll K l = some (allK K l) := by
  unfold m_ref06_ApplyAll
  refine bnd_loop (fun i => (allK K (l.take i), (i : Int))) l.length (allK K l) rfl (fun i hi => ?_) ?_ rfl
  · simp only
    have := allK_len (l.take i) K
    rw [List.length_take] at this
    rw [cnd_t (by simpa using hi), elt_lt hi, bnd_some, apply_eq (allK_asc h) (by omega), bnd_some, wrapS (by omega), allK_take hi]
  · simp only
    rw [cnd_f (by simp), List.take_length]
theorem all_eq {s : T_settings_Store} {f : Nat} {o : OS} (hs : RelO s f o) (ho : OkK o.K) (d : T_Device) : m_settings_Store_All s d = some o.K := by
  obtain ⟨m, h1, h2, h3⟩ := hs.all
  unfold m_settings_Store_All
  have hl : m.length ≤ 1000 := by
    have := toL_len m
    have := ho.len
    rw [h3] at *
    omega
  rw [h1, sorted_eq h2 hl (fun k v hk => by have := (mgetS_ok h3 ho k v hk).1; omega), h3]
  rfl
theorem get_eq {s : T_settings_Store} {f : Nat} {o : OS} (hs : RelO s f o) (ho : OkK o.K) (k : Int) (d : T_Device) : m_settings_Store_Get s k d = some ((look o.K k).getD [], (look o.K k).isSome) := by
  obtain ⟨m, h1, h2, h3⟩ := hs.all
  unfold m_settings_Store_Get
  have e : mget (kint .u8).eq (s.all.getD []) k = look o.K k := by
    rw [h1, ← h3, look_toL]
    rfl
  rw [e, clone_eq]
  · rfl
  · cases hk : look o.K k with
    | none => simp
    | some v =>
      have := (mgetS_ok h3 ho k v (by rw [← look_toL, h3]; exact hk)).1
      simp; omega
theorem put_eq (s : T_settings_Store) (k : Int) (v : List Int) (d : T_Device) : m_settings_Store_Put s k v d = m_settings_Store_Update s [⟨k, v, false⟩] d := by
  unfold m_settings_Store_Put
  cases m_settings_Store_Update s [⟨k, v, false⟩] d <;> rfl
end Go.Proofs.Ythdpagcklakahaa
end
section
namespace Go.Proofs.Ythdpagcklakahaa
open Go
set_option linter.unusedSimpArgs false
set_option linter.unusedVariables false
def Fair (d : T_Dice) : Prop := 0 ≤ d.At ∧ d.L.length ≤ 600
theorem mod_some (x n : Int) (hn : 0 < n) (hb : n ≤ 4611686018427387904) : ∃ r, m_made_Mod x n = some r ∧ 0 ≤ r ∧ r < n ∧ r = x % n := by
  unfold m_made_Mod remM
  have h0 : ¬ n = 0 := by omega
  rw [if_neg h0]
  simp only [bnd_some]
  have h1 := Int.lt_tmod_of_pos x hn
  have h2 := Int.tmod_lt_of_pos x hn
  have h3 : x.tmod n = x % n ∨ x.tmod n = x % n - n := by
    rw [Int.tmod_eq_emod]
    split
    · left; omega
    · right
      have : (n.natAbs : Int) = n := by omega
      omega
  have h4 := Int.emod_nonneg x h0
  have h5 := Int.emod_lt_of_pos x hn
  by_cases h : x.tmod n < 0
  · rw [show decide (x.tmod n < 0) = true from by simp [h], cond_true, wrap_i64 (by omega) (by omega)]
    exact ⟨_, rfl, by omega, by omega, by omega⟩
  · rw [show decide (x.tmod n < 0) = false from by simp [h], cond_false]
    exact ⟨_, rfl, by omega, by omega, by omega⟩
theorem next_some (d : T_Dice) (n : Int) (hd : Fair d) (hn : 0 < n) (hb : n ≤ 4611686018427387904) : ∃ d' r, m_made_Dice_Next d n = some (d', r) ∧ Fair d' ∧ 0 ≤ r ∧ r < n := by
  obtain ⟨h1, h2⟩ := hd
  unfold m_made_Dice_Next
  by_cases h : d.At ≥ (d.L.length : Int)
  · rw [show decide (d.At ≥ (d.L.length : Int)) = true from by simp [h], cond_true]
    exact ⟨_, _, rfl, ⟨h1, h2⟩, by omega, by omega⟩
  · rw [show decide (d.At ≥ (d.L.length : Int)) = false from by simp [h], cond_false, wrap_i64 (x := d.At + 1) (by omega) (by omega), wrap_i64 (by omega) (by omega)]
    obtain ⟨i, hi⟩ := Int.eq_ofNat_of_zero_le h1
    have e : d.At + 1 - 1 = (i : Int) := by omega
    have hi2 : i < d.L.length := by omega
    obtain ⟨r, hr, r1, r2, _⟩ := mod_some d.L[i] n hn hb
    rw [e, elt_lt hi2, bnd_some, hr, bnd_some]
    exact ⟨_, _, rfl, ⟨by simp only; omega, h2⟩, r1, r2⟩
theorem bool_some (d : T_Dice) (n : Int) (hd : Fair d) (hn : 0 < n) (hb : n ≤ 4611686018427387904) : ∃ d' r, m_made_Dice_Bool d n = some (d', r) ∧ Fair d' := by
  obtain ⟨d', r, h, hf, _⟩ := next_some d n hd hn hb
  unfold m_made_Dice_Bool
  rw [h]
  exact ⟨_, _, rfl, hf⟩
theorem roll_fair (l : List Int) (h : l.length ≤ 600) : Fair ⟨l, 0⟩ := ⟨by simp, h⟩
theorem bool_ex (d : T_Dice) (n : Int) (hd : Fair d) (hn : 0 < n) (hb : n ≤ 4611686018427387904) : ∃ x, m_made_Dice_Bool d n = some x ∧ Fair x.1 := by
  obtain ⟨d', r, h, k⟩ := bool_some d n hd hn hb
  exact ⟨_, h, k⟩
theorem next_ex (d : T_Dice) (n : Int) (hd : Fair d) (hn : 0 < n) (hb : n ≤ 4611686018427387904) : ∃ x, m_made_Dice_Next d n = some x ∧ Fair x.1 ∧ 0 ≤ x.2 ∧ x.2 < n := by
  obtain ⟨d', r, h, k⟩ := next_some d n hd hn hb
  exact ⟨_, h, k⟩
theorem byte_ex (d : T_Dice) (hd : Fair d) : ∃ x, m_made_Dice_Byte d = some x ∧ Fair x.1 ∧ ∃ n : Nat, n < 256 ∧ x.2 = (n : Int) := by
  unfold m_made_Dice_Byte
  refine bnd_ex (bool_ex d 3 hd (by omega) (by omega)) fun a ha => ?_
  cases a.2
  · rw [cond_false]
    refine bnd_ex (next_ex a.1 256 ha (by omega) (by omega)) fun c ⟨h1, h2, h3⟩ => ?_
    refine ⟨_, rfl, h1, c.2.toNat, by omega, ?_⟩
    show IntKind.wrap .u8 c.2 = _
    rw [wrap_u8 (by omega) (by omega)]
    omega
  · rw [cond_true]
    refine bnd_ex (next_ex a.1 8 ha (by omega) (by omega)) fun c ⟨h1, h2, h3⟩ => ?_
    obtain ⟨k, hk⟩ : ∃ k : Nat, c.2 = (k : Int) := ⟨c.2.toNat, by omega⟩
    have hk8 : k < 8 := by omega
    have he : ∀ k : Nat, k < 8 → elt ([0, 1, 127, 128, 254, 255, 15, 240] : List Int) (k : Int) = some ((([0, 1, 127, 128, 254, 255, 15, 240] : List Nat).getD k 0 : Nat) : Int) ∧ ([0, 1, 127, 128, 254, 255, 15, 240] : List Nat).getD k 0 < 256 := by decide +kernel
    rw [hk, (he k hk8).1, bnd_some]
    exact ⟨_, rfl, h1, _, (he k hk8).2, rfl⟩
theorem bytes_ex (d : T_Dice) (n : Int) (hd : Fair d) (hn : 0 ≤ n) (hb : n ≤ 1000) : ∃ x, m_made_Dice_Bytes d n = some x ∧ Fair x.1 ∧ ∃ l : List Nat, lt256 l ∧ (l.length : Int) ≤ n ∧ x.2 = iz l := by
  unfold m_made_Dice_Bytes
  rw [wrap_i64 (by omega) (by omega)]
  refine bnd_ex (next_ex d (n + 1) hd (by omega) (by omega)) fun a ⟨h1, h2, h3⟩ => ?_
  refine bnd_loop_inv (fun s => Fair ⟨s.2.2.1, s.2.2.2⟩ ∧ 0 ≤ s.2.1 ∧ ∃ l : List Nat, lt256 l ∧ (l.length : Int) + s.2.1 ≤ n ∧ s.1 = iz l) (fun s => s.2.1.toNat) (fun t => Fair ⟨t.2.1, t.2.2⟩ ∧ ∃ l : List Nat, lt256 l ∧ (l.length : Int) ≤ n ∧ t.1 = iz l)
    ⟨h1, h2, [], lt256.nil, by simp; omega, rfl⟩ (fun s ⟨i1, i2, l, i3, i4, i5⟩ => ?_) (fun t ⟨t1, l, t2, t3, t4⟩ => ⟨_, rfl, t1, l, t2, t3, t4⟩)
  by_cases hs : s.2.1 > 0
  · rw [decide_eq_true hs, cond_true]
    obtain ⟨x, hx, hf, b, hb256, hbe⟩ := byte_ex ⟨s.2.2.1, s.2.2.2⟩ i1
    have ha : app 1 s.1 [x.2] = some (iz (l ++ [b])) := by
      rw [i5, hbe]
      have := app_iz (l := l) (m := [b]) (b := 1) (by simp; omega) (by simp; omega)
      rw [iz_cons, iz_nil] at this
      exact this
    rw [hx, bnd_some, ha, bnd_some, wrap_i64 (by omega) (by omega)]
    refine .inl ⟨_, rfl, ⟨hf, by show 0 ≤ s.2.1 - 1; omega, l ++ [b], i3.app (lt256.cons hb256 lt256.nil), ?_, rfl⟩, ?_⟩
    · simp; omega
    · show (s.2.1 - 1).toNat < s.2.1.toNat
      omega
  · rw [decide_eq_false hs, cond_false]
    exact .inr ⟨_, rfl, i1, l, i3, by omega, i5⟩
end Go.Proofs.Ythdpagcklakahaa
end
section
namespace Go.Proofs.Ythdpagcklakahaa
open Go
set_option linter.unusedSimpArgs false
set_option linter.unusedVariables false
theorem iz_rng {l : List Nat} (h : lt256 l) : rng (iz l) := fun x hx => by
  obtain ⟨n, h1, h2⟩ := List.mem_map.1 hx
  have := h n h1
  omega
theorem value_ex (d : T_Dice) (hd : Fair d) : ∃ x, m_made_Dice_Value d = some x ∧ Fair x.1 ∧ rng x.2 ∧ x.2.length ≤ 29 := by
  unfold m_made_Dice_Value
  refine bnd_ex (bool_ex d 30 hd (by omega) (by omega)) fun a ha => ?_
  cases a.2
  · rw [cond_false]
    refine bnd_ex (bytes_ex a.1 6 ha (by omega) (by omega)) fun c ⟨h1, l, h2, h3, h4⟩ => ?_
    refine ⟨_, rfl, h1, ?_, ?_⟩
    · show rng c.2
      rw [h4]; exact iz_rng h2
    · show c.2.length ≤ 29
      rw [h4, iz_len]; omega
  · rw [cond_true]
    refine bnd_ex (next_ex a.1 2 ha (by omega) (by omega)) fun c ⟨h1, h2, h3⟩ => ?_
    rw [wrap_i64 (x := 28 + c.2) (by omega) (by omega)]
    have e : mkS 1 (0 : Int) (28 + c.2) (28 + c.2) = some (List.replicate (28 + c.2).toNat 0) := by
      unfold mkS
      rw [if_pos (by omega)]
    rw [e, bnd_some]
    exact ⟨_, rfl, h1, rng.rep (by omega), by simp; omega⟩
def okR (b : Int) (l : List T_Setting) : Prop := ∀ x ∈ l, (0 ≤ x.Key ∧ x.Key ≤ b) ∧ rng x.Value ∧ x.Value.length ≤ 29
theorem okR.add {b : Int} {l : List T_Setting} (h : okR b l) {x : T_Setting} (hx : (0 ≤ x.Key ∧ x.Key ≤ b) ∧ rng x.Value ∧ x.Value.length ≤ 29) : okR b (l ++ [x]) := fun y hy => by
  rcases List.mem_append.1 hy with hy | hy
  · exact h y hy
  · rw [List.mem_singleton] at hy; subst hy; exact hx
theorem ex_next {σ τ : Type} {X : Option (Step σ τ)} {P : σ → Prop} (h : ∃ r, X = some r ∧ ∃ s', r = .next s' ∧ P s') : ∃ s', X = some (.next s') ∧ P s' := by
  obtain ⟨_, h1, s', rfl, h2⟩ := h
  exact ⟨s', h1, h2⟩
noncomputable def setStep : List T_Setting × Int × Int × List Int × Int → Option (Step (List T_Setting × Int × Int × List Int × Int) (List T_Setting × List Int × Int)) :=
  (fun (s1 : List T_Setting × Int × Int × List Int × Int) => bif decide (s1.2.2.1 > 0) then (bnd ((bnd (m_made_Dice_Bool (⟨s1.2.2.2.1, s1.2.2.2.2⟩ : T_Dice) 4) fun r3 => bif r3.2 then (some ([], true, r3.1.L, r3.1.At)) else (bnd (m_made_Dice_Value r3.1) fun r4 => some (r4.2, false, r4.1.L, r4.1.At)) : Option (List Int × Bool × List Int × Int))) fun o2 => bnd ((bnd (m_made_Dice_Bool (⟨o2.2.2.1, o2.2.2.2⟩ : T_Dice) 40) fun r5 => bif r5.2 then (some (true, r5.1.L, r5.1.At)) else (some (o2.2.1, r5.1.L, r5.1.At)) : Option (Bool × List Int × Int))) fun o3 => bnd (app 40 s1.1 [(⟨IntKind.wrap .u8 s1.2.1, o2.1, o3.1⟩ : T_Setting)]) fun l1 => bnd (m_made_Dice_Next (⟨o3.2.1, o3.2.2⟩ : T_Dice) 3) fun r6 => bnd (m_made_Dice_Bool r6.1 40) fun r7 => bif r7.2 then (bnd (m_made_Dice_Next r7.1 6) fun r8 => some (.next (l1, r8.2, IntKind.wrap .i64 (s1.2.2.1 - 1), r8.1.L, r8.1.At))) else (some (.next (l1, IntKind.wrap .i64 (s1.2.1 + (IntKind.wrap .i64 (1 + r6.2))), IntKind.wrap .i64 (s1.2.2.1 - 1), r7.1.L, r7.1.At)))) else (some (.done (s1.1, s1.2.2.2.1, s1.2.2.2.2))))
def InvS (n : Int) (s : List T_Setting × Int × Int × List Int × Int) : Prop := Fair ⟨s.2.2.2.1, s.2.2.2.2⟩ ∧ 0 ≤ s.2.1 ∧ 0 ≤ s.2.2.1 ∧ s.2.1 + 3 * s.2.2.1 ≤ 5 + 3 * n ∧ (s.1.length : Int) + s.2.2.1 ≤ n ∧ okR (2 + 3 * n) s.1
theorem set_step {n : Int} (hn : n ≤ 80) (s : List T_Setting × Int × Int × List Int × Int) (hI : InvS n s) : (∃ s', setStep s = some (.next s') ∧ InvS n s' ∧ s'.2.2.1.toNat < s.2.2.1.toNat) ∨ ∃ t, setStep s = some (.done t) ∧ (Fair ⟨t.2.1, t.2.2⟩ ∧ (t.1.length : Int) ≤ n ∧ okR (2 + 3 * n) t.1) := by
  obtain ⟨out, k, c, L, at_⟩ := s
  obtain ⟨i1, i2, i3, i4, i5, i6⟩ := hI
  simp only at i1 i2 i3 i4 i5 i6
  unfold setStep
  simp only
  by_cases hc : 0 < c
  · left
    rw [cnd_t (by simpa using hc)]
    refine ex_next ?_
    refine bnd_ex (P := fun (x : List Int × Bool × List Int × Int) => Fair ⟨x.2.2.1, x.2.2.2⟩ ∧ rng x.1 ∧ x.1.length ≤ 29) ?_ fun o2 ⟨g1, g2, g3⟩ => ?_
    · refine bnd_ex (bool_ex ⟨L, at_⟩ 4 i1 (by omega) (by omega)) fun a ha => ?_
      cases a.2
      · rw [cond_false]
        exact bnd_ex (value_ex a.1 ha) fun e ⟨h1, h2, h3⟩ => ⟨_, rfl, h1, h2, h3⟩
      · rw [cond_true]
        exact ⟨_, rfl, ha, rng.nil, by simp⟩
    · refine bnd_ex (P := fun (x : Bool × List Int × Int) => Fair ⟨x.2.1, x.2.2⟩) ?_ fun o3 g4 => ?_
      · refine bnd_ex (bool_ex ⟨o2.2.2.1, o2.2.2.2⟩ 40 g1 (by omega) (by omega)) fun a ha => ?_
        cases a.2
        · exact ⟨_, rfl, ha⟩
        · exact ⟨_, rfl, ha⟩
      · rw [app_eq (by simp; omega) (by simp; omega), bnd_some]
        have hadd : okR (2 + 3 * n) (out ++ [(⟨IntKind.wrap .u8 k, o2.1, o3.1⟩ : T_Setting)]) := i6.add ⟨by rw [wrap_u8 (by omega) (by omega)]; exact ⟨i2, by simp only; omega⟩, g2, g3⟩
        refine bnd_ex (next_ex ⟨o3.2.1, o3.2.2⟩ 3 g4 (by omega) (by omega)) fun r6 ⟨h1, h2, h3⟩ => ?_
        refine bnd_ex (bool_ex r6.1 40 h1 (by omega) (by omega)) fun r7 h4 => ?_
        rw [wrap_i64 (x := c - 1) (by omega) (by omega)]
        cases r7.2
        · rw [cond_false, wrap_i64 (x := 1 + r6.2) (by omega) (by omega), wrap_i64 (x := k + (1 + r6.2)) (by omega) (by omega)]
          refine ⟨_, rfl, _, rfl, ⟨h4, by simp only; omega, by simp only; omega, by simp only; omega, by simp; omega, hadd⟩, by simp only; omega⟩
        · rw [cond_true]
          refine bnd_ex (next_ex r7.1 6 h4 (by omega) (by omega)) fun r8 ⟨h5, h6, h7⟩ => ?_
          refine ⟨_, rfl, _, rfl, ⟨h5, h6, by simp only; omega, ?_, by simp; omega, hadd⟩, by simp only; omega⟩
          simp only
          omega
  · right
    rw [cnd_f (by simpa using hc)]
    exact ⟨_, rfl, i1, by simp only; omega, i6⟩
theorem settings_ex (d : T_Dice) (n : Int) (hd : Fair d) (hn : 0 ≤ n ∧ n ≤ 80) : ∃ x, m_made_Dice_Settings d n = some x ∧ Fair x.1 ∧ (x.2.length : Int) ≤ n ∧ okR (2 + 3 * n) x.2 := by
  unfold m_made_Dice_Settings
  refine bnd_ex (next_ex d 6 hd (by omega) (by omega)) fun r1 ⟨h1, h2, h3⟩ => ?_
  rw [wrap_i64 (x := n + 1) (by omega) (by omega)]
  refine bnd_ex (next_ex r1.1 (n + 1) h1 (by omega) (by omega)) fun r2 ⟨h4, h5, h6⟩ => ?_
  obtain ⟨t, h7, h8⟩ := loop_inv (m := setStep) (InvS n) (fun s => s.2.2.1.toNat) _ (set_step hn.2) ([], r1.2, r2.2, r2.1.L, r2.1.At) ⟨h4, h2, h5, by simp only; omega, by simp only [List.length_nil]; omega, fun x hx => by cases hx⟩
  show ∃ x, bnd (loopM setStep _) _ = _ ∧ _
  rw [h7]
  exact ⟨_, rfl, h8⟩
theorem Like.trans {d e g : T_Device} (h : Like d e) (k : Like e g) : Like d g := ⟨k.ok, k.size.trans h.size, k.wear.trans h.wear, k.torn.trans h.torn, k.len.trans h.len⟩
structure Sto (d : T_Device) (s : T_settings_Store) (f : Nat) : Prop where
  ok : OkD d
  size : 1024 ≤ d.size
  first : f + 1 < d.wear.length
  down : d.down = false
  rel : RelO s f (openF d f)
theorem Sto.okK {d : T_Device} {s : T_settings_Store} {f : Nat} (h : Sto d s f) : OkK (openF d f).K := openF_ok h.ok f
theorem open_sto {d : T_Device} (h : OkD d) (hd : d.down = false) (hz : 1024 ≤ d.size) {f : Nat} (hf : f + 1 < d.wear.length) : ∃ s, m_settings_Open d (f : Int) = some (d, some s, 0) ∧ Sto d s f := by
  obtain ⟨s, h1, h2⟩ := open_eq h hd hz hf
  exact ⟨s, h1, h, hz, hf, hd, h2⟩
theorem Sto.all {d : T_Device} {s : T_settings_Store} {f : Nat} (h : Sto d s f) (e : T_Device) : m_settings_Store_All s e = some (openF d f).K := all_eq h.rel h.okK e
theorem Sto.okV {d : T_Device} {s : T_settings_Store} {f : Nat} (h : Sto d s f) : okV (openF d f).K := ⟨by have := h.okK.len; omega, fun x hx => by have := (h.okK.ok x hx).len; omega⟩
structure UpdS (d : T_Device) (s : T_settings_Store) (f : Nat) (l : List T_Setting) (r : T_settings_Store × T_Device × Int) : Prop where
  like : Like d r.2.1
  val : r.2 = (updF (openF d f) d f l).2
  cases : (r.2.2 = 0 ∧ Sto r.2.1 r.1 f ∧ chkF l = 0 ∧ (openF r.2.1 f).K = allK (openF d f).K l ∧ (openF r.2.1 f).gen ≤ (openF d f).gen + 1) ∨
    ((r.2.2 = 1 ∨ r.2.2 = 3 ∨ r.2.2 = 7) ∧ r.2.1 = d ∧ RelO r.1 f (openF d f)) ∨
    (r.2.2 = 10 ∧ r.2.1.down = true ∧ r.1 = endS ∧ chkF l = 0 ∧ ((openF r.2.1 f).K = (openF d f).K ∨ (openF r.2.1 f).K = allK (openF d f).K l) ∧ (openF r.2.1 f).gen ≤ (openF d f).gen + 1)
  calm : d.left = 0 → r.2.2 ≠ 10 ∧ r.2.1.left = 0
  done : chkF l = 0 → (allK (openF d f).K l).length ≤ 32 → (openF d f).gen < 2147483648 → r.2.2 = 0 ∨ r.2.2 = 10
def okU (l : List T_Setting) : Prop := l.length ≤ 1000000 ∧ ∀ x ∈ l, 0 ≤ x.Key ∧ x.Key ≤ 255 ∧ rng x.Value
theorem okR.okU {b : Int} {l : List T_Setting} (h : okR b l) (hb : b ≤ 255) (hl : l.length ≤ 1000000) : okU l := ⟨hl, fun x hx => by obtain ⟨h1, h2, h3⟩ := h x hx; exact ⟨h1.1, by omega, h2⟩⟩
theorem okR.okV {b : Int} {l : List T_Setting} (h : okR b l) (hl : l.length ≤ 1000000) : okV l := ⟨hl, fun x hx => by have := (h x hx).2.2; omega⟩
theorem Sto.upd {d : T_Device} {s : T_settings_Store} {f : Nat} (h : Sto d s f) {l : List T_Setting} (hl : okU l) : ∃ r, m_settings_Store_Update s l d = some r ∧ UpdS d s f l r := by
  have hO := openF_okO h.ok h.size h.first
  obtain ⟨s', h1, h2⟩ := update_eq h.rel hO h.ok h.size h.first hl.1 hl.2
  have hU := upd_ok h.ok h.down h.size h.first rfl hl.2
  refine ⟨_, h1, hU.like, rfl, ?_, fun hc => ?_, fun h3 h4 h5 => upd_done h.ok h.down h.size h.first rfl hl.2 h3 h4 h5⟩
  · rcases hU.cases with ⟨a1, a2, a3, a4, a5, a6⟩ | ⟨a1, a2, a3⟩ | ⟨a1, a2, a3, a4, a5, a6⟩
    · refine .inl ⟨a1, ⟨hU.like.ok, by rw [hU.like.size]; exact h.size, by rw [hU.like.wear]; exact h.first, a2, ?_⟩, a4, a5, a6⟩
      rw [a3] at h2
      exact h2
    · refine .inr (.inl ⟨a1, a3, ?_⟩)
      rw [a2] at h2
      exact h2
    · refine .inr (.inr ⟨a1, a2, ?_, a4, a5, a6⟩)
      rw [a3] at h2
      exact h2
  · have := updF_calm hc h.down (openF d f) f l
    exact ⟨this.1, this.2.1⟩
structure Fil (d : T_Device) (s : T_settings_Store) (K : List T_Setting) (g : Int) : Prop where
  sto : Sto d s 0
  size : d.size = 1024
  wear : d.wear.length = 3
  left : d.left = 0
  list : (openF d 0).K = K
  gen : (openF d 0).gen ≤ g
  keys : ∀ x ∈ K, x.Key ≤ 26
noncomputable def filStep (n_p1 : Int) : T_Device × T_settings_Store × List T_Setting × Int × List Int × Int → Option (Step (T_Device × T_settings_Store × List T_Setting × Int × List Int × Int) (((Option (T_Device × T_settings_Store)) × (List T_Setting) × Bool) ⊕ (T_Device × T_settings_Store × List T_Setting × List Int × Int))) :=
  (fun (s1 : T_Device × T_settings_Store × List T_Setting × Int × List Int × Int) => bif decide (s1.2.2.2.1 < n_p1) then (bnd (m_made_Dice_Settings (⟨s1.2.2.2.2.1, s1.2.2.2.2.2⟩ : T_Dice) 8) fun r4 => bnd (m_settings_Store_Update s1.2.1 r4.2 s1.1) fun r5 => bif (r5.2.2 == 0) then (bnd (m_ref06_Copy r4.2) fun r6 => bnd (m_ref06_ApplyAll s1.2.2.1 r6) fun r7 => some (.next (r5.2.1, r5.1, r7, IntKind.wrap .i64 (s1.2.2.2.1 + 1), r4.1.L, r4.1.At))) else (bif (r5.2.2 == 10) then (some (.done (.inl (none, [], false)))) else (some (.next (r5.2.1, r5.1, s1.2.2.1, IntKind.wrap .i64 (s1.2.2.2.1 + 1), r4.1.L, r4.1.At))))) else (some (.done (.inr (s1.1, s1.2.1, s1.2.2.1, s1.2.2.2.2.1, s1.2.2.2.2.2)))))
def InvF (n : Int) (s : T_Device × T_settings_Store × List T_Setting × Int × List Int × Int) : Prop := Fair ⟨s.2.2.2.2.1, s.2.2.2.2.2⟩ ∧ 0 ≤ s.2.2.2.1 ∧ s.2.2.2.1 ≤ n ∧ Fil s.1 s.2.1 s.2.2.1 s.2.2.2.1
theorem fil_step {n : Int} (hn : n ≤ 1000) (s : T_Device × T_settings_Store × List T_Setting × Int × List Int × Int) (hI : InvF n s) : (∃ s', filStep n s = some (.next s') ∧ InvF n s' ∧ (n - s'.2.2.2.1).toNat < (n - s.2.2.2.1).toNat) ∨ ∃ t, filStep n s = some (.done t) ∧ ∃ d' s' K' L at_, t = .inr (d', s', K', L, at_) ∧ Fil d' s' K' n := by
  obtain ⟨d, s, K, i, L, at_⟩ := s
  obtain ⟨i1, i2, i3, i4⟩ := hI
  simp only at i1 i2 i3 i4
  unfold filStep
  simp only
  by_cases hc : i < n
  · left
    rw [cnd_t (by simpa using hc)]
    refine ex_next ?_
    refine bnd_ex (settings_ex ⟨L, at_⟩ 8 i1 (by omega)) fun r4 ⟨h1, h2, h3⟩ => ?_
    have hU : okU r4.2 := h3.okU (by omega) (by omega)
    refine bnd_ex (i4.sto.upd hU) fun r5 hr => ?_
    rw [wrap_i64 (x := i + 1) (by omega) (by omega)]
    have hcalm := hr.calm i4.left
    rcases hr.cases with ⟨a1, a2, a3, a4, a5⟩ | ⟨a1, a2, a3⟩ | ⟨a1, _⟩
    · have hK := i4.sto.okK
      rw [i4.list] at hK a4
      have hk32 := hK.len
      rw [cnd_t (by simpa using a1), copyL (h3.okV (by omega)), bnd_some, applyAll_eq hK.asc (by omega), bnd_some]
      refine ⟨_, rfl, _, rfl, ⟨h1, by simp only; omega, by simp only; omega, a2, by rw [hr.like.size]; exact i4.size, by rw [hr.like.wear]; exact i4.wear, hcalm.2, a4, ?_, fun x hx => ?_⟩, by simp only; omega⟩
      · have := i4.gen
        simp only
        omega
      · rcases allK_mem hx with hx | hx
        · exact i4.keys x hx
        · have := (h3 x hx).1.2
          omega
    · rw [cnd_f (by rcases a1 with a1 | a1 | a1 <;> simp [a1]), cnd_f (by rcases a1 with a1 | a1 | a1 <;> simp [a1])]
      refine ⟨_, rfl, _, rfl, ⟨h1, by simp only; omega, by simp only; omega, ?_⟩, by simp only; omega⟩
      simp only
      rw [a2]
      exact ⟨⟨i4.sto.ok, i4.sto.size, i4.sto.first, i4.sto.down, a3⟩, i4.size, i4.wear, i4.left, i4.list, by have := i4.gen; omega, i4.keys⟩
    · exact absurd a1 hcalm.1
  · right
    rw [cnd_f (by simpa using hc)]
    obtain rfl : i = n := by omega
    exact ⟨_, rfl, _, _, _, _, _, rfl, i4⟩
theorem filled_eq {l : List Int} (hl : l.length ≤ 600) {n : Int} (hn : 0 ≤ n ∧ n ≤ 1000) : ∃ d s K, m_law06_filled l n = some (some (d, s), K, true) ∧ Fil d s K n := by
  unfold m_law06_filled
  have hok := newD_ok (n := 3) (m := 1024) (by omega) (by omega)
  obtain ⟨s, h1, h2⟩ := open_sto (f := 0) hok rfl (by show (1024 : Int) ≤ 1024; omega) (by show 0 + 1 < (List.replicate 3 (0 : Int)).length; simp)
  have h1' : m_settings_Open (newD 3 1024) 0 = some (newD 3 1024, some s, 0) := h1
  have ho : openF (newD 3 1024) 0 = os0 := newD_open (by omega) (by omega)
  rw [device_eq, bnd_some]
  show ∃ d s K, bnd (m_settings_Open (newD 3 1024) 0) _ = _ ∧ _
  rw [h1', bnd_some]
  show ∃ d2 s2 K2, bnd (loopM (filStep n) (newD 3 1024, s, [], 0, l, 0)) (fun o1 => retOr o1 fun o2 => some (some (o2.1, o2.2.1), o2.2.2.1, true)) = some (some (d2, s2), K2, true) ∧ Fil d2 s2 K2 n
  obtain ⟨t, h3, d', s', K', L, at_, h4, h5⟩ := loop_inv (m := filStep n) (InvF n) (fun s => (n - s.2.2.2.1).toNat) _ (fil_step hn.2) (newD 3 1024, s, [], 0, l, 0) ⟨roll_fair l hl, by simp, hn.1, h2, rfl, rfl, rfl, by simp only; rw [ho]; rfl, by simp only; rw [ho]; exact Int.le_refl _, fun x hx => by cases hx⟩
  rw [h3, h4]
  exact ⟨d', s', K', rfl, h5⟩
end Go.Proofs.Ythdpagcklakahaa
end
section
namespace Go.Proofs.Ythdpagcklakahaa
open Go
set_option linter.unusedSimpArgs false
set_option linter.unusedVariables false
def exN : List T_Setting := [⟨7, [1, 2], false⟩]
theorem exN_ok : OkK exN := ⟨List.pairwise_cons.2 ⟨(fun _ h => by cases h), List.Pairwise.nil⟩, fun x hx => by simp only [exN, List.mem_singleton] at hx; subst hx; rfl, by decide, fun x hx => by
  simp only [exN, List.mem_singleton] at hx; subst hx
  exact ⟨by decide, by decide, fun y hy => by simp only [List.mem_cons, List.not_mem_nil, or_false] at hy; omega, fun h => by cases h⟩⟩
theorem ex_put {d : T_Device} {s : T_settings_Store} (hd : d = newD 3 1024) (h : Sto d s 1) : ∃ s' d', m_settings_Store_Update s exN d = some (s', d', 0) ∧ RelO s' 1 (moveO os0 exN) ∧ OkD d' ∧ d'.down = false ∧ d'.bytes.length = 3072 ∧ sect d' 1 = spl (spl (spl (List.replicate 1024 255) 0 (gen4 1)) 5 (encF exN)) 4 [0] ∧ d'.size = 1024 := by
  have hO := openF_okO h.ok h.size h.first
  obtain ⟨s', h1, h2⟩ := update_eq (l := exN) h.rel hO h.ok h.size h.first (by decide) (fun x hx => by
    have := exN_ok.ok x hx
    exact ⟨this.key.1, this.key.2, this.rng⟩)
  have ho : openF d 1 = os0 := by rw [hd]; exact newD_open (by omega) (by omega)
  have hN : allK [] exN = exN := rfl
  have hu : updF os0 d 1 exN = finU os0 (moveO os0 exN) (moveD os0 d 1 exN) := by
    unfold updF
    rw [if_neg (by simp [h.down]), if_neg (by decide), if_neg (by decide), if_neg (by decide), if_neg (fun h => absurd h.1 (by decide)), if_neg (by decide)]
    rfl
  have hm := move_spec (o := os0) h.ok h.down h.size h.first exN_ok
  have hc := moveD_calm (d := d) (by rw [hd]; rfl) h.down os0 1 exN
  rw [ho, hu] at h1 h2
  rcases hm with ⟨a1, a2, a3⟩ | ⟨a1, _⟩
  · unfold finU at h1 h2
    rw [if_pos a1] at h1 h2
    refine ⟨s', _, h1, h2, a3.ok, a2, ?_, ?_, ?_⟩
    · rw [a3.len, hd]; show (List.replicate (3 * 1024) (255 : Int)).length = 3072; rw [List.length_replicate]
    · have := a3.at_
      rw [hd] at this ⊢
      exact this
    · rw [a3.size, hd]; rfl
  · exact absurd a1 hc.1
theorem ex_take : (spl (spl (spl (List.replicate 1024 255) 0 (gen4 1)) 5 (encF exN)) 4 [0]).take 12 = [1, 0, 0, 0, 0, 1, 7, 2, 1, 2, 0, 255] := by
  decide +kernel
theorem awake_ok : m_law06_awake = some true := by
  unfold m_law06_awake
  rw [device_eq, bnd_some]
  have hok := newD_ok (n := 3) (m := 1024) (by omega) (by omega)
  obtain ⟨s, h1, h2⟩ := open_sto (f := 1) hok rfl (by show (1024 : Int) ≤ 1024; omega) (by show 1 + 1 < (List.replicate 3 (0 : Int)).length; simp)
  have h1' : m_settings_Open (newD 3 1024) 1 = some (newD 3 1024, some s, 0) := h1
  obtain ⟨s', d', h3, h4, h5, h6, h7, h8, h9⟩ := ex_put rfl h2
  show bnd (m_settings_Open (newD 3 1024) 1) _ = _
  rw [h1', bnd_some]
  show bnd (m_settings_Store_Put s 7 [1, 2] (newD 3 1024)) _ = _
  rw [put_eq]
  show bnd (m_settings_Store_Update s exN (newD 3 1024)) _ = _
  rw [h3, bnd_some]
  have hr : readF d' 1024 12 = ([1, 0, 0, 0, 0, 1, 7, 2, 1, 2, 0, 255], 0) := by
    unfold readF
    rw [if_neg (by simp [h6]), if_pos (by omega), ← ex_take, ← h8]
    unfold sect
    rw [h9, List.take_take]
    rfl
  rw [read_eq h5 1024 12 (by omega), bnd_some, hr, get_eq h4 exN_ok, bnd_some]
  show bnd (bnd (m_ref01_Same [1, 0, 0, 0, 0, 1, 7, 2, 1, 2, 0, 255] [1, 0, 0, 0, 0, 1, 7, 2, 1, 2, 0, 255]) fun r6 => bif r6 then (bnd (m_ref01_Same [1, 2] [1, 2]) fun r7 => some r7) else some false) _ = _
  rw [sameI (by decide), bnd_some, decide_eq_true rfl, cond_true, sameI (by decide), bnd_some, decide_eq_true rfl, bnd_some]
end Go.Proofs.Ythdpagcklakahaa
end
section
namespace Go.Proofs.Ythdpagcklakahaa
open Go
set_option linter.unusedSimpArgs false
set_option linter.unusedVariables false
def okP (l : List T_Setting) : Prop := (∀ x ∈ l, (0 ≤ x.Key ∧ x.Key ≤ 255) ∧ rng x.Value ∧ x.Value.length ≤ 28 ∧ (x.Delete = true → x.Value = [])) ∧ l.Pairwise fun a b => a.Key ≠ b.Key
theorem okP.okU {l : List T_Setting} (h : okP l) (hl : l.length ≤ 1000000) : okU l := ⟨hl, fun x hx => ⟨(h.1 x hx).1.1, (h.1 x hx).1.2, (h.1 x hx).2.1⟩⟩
theorem okP.okV {l : List T_Setting} (h : okP l) (hl : l.length ≤ 1000000) : okV l := ⟨hl, fun x hx => by have := (h.1 x hx).2.2.1; omega⟩
structure Cut (d : T_Device) (f : Nat) (l : List T_Setting) (r : T_settings_Store × T_Device × Int) (t : T_settings_Store) : Prop where
  err : r.2.2 = 0 ∧ r.2.1.down = false ∧ Sto r.2.1 r.1 f ∨ r.2.2 = 10 ∧ r.2.1.down = true ∧ r.1 = endS
  open_ : m_settings_Open (restF r.2.1) (f : Int) = some (restF r.2.1, some t, 0)
  sto : Sto (restF r.2.1) t f
  list : (openF (restF r.2.1) f).K = allK (openF d f).K l ∨ r.2.2 = 10 ∧ (openF (restF r.2.1) f).K = (openF d f).K
  gen : (openF (restF r.2.1) f).gen ≤ (openF d f).gen + 1
  size : r.2.1.size = d.size
  wear : r.2.1.wear.length = d.wear.length
  val : r.2 = (updF (openF d f) d f l).2
theorem Cut.calm {d : T_Device} {f : Nat} {l : List T_Setting} {r : T_settings_Store × T_Device × Int} {t : T_settings_Store} (h : Cut d f l r t) : (restF r.2.1).left = 0 := rfl
end Go.Proofs.Ythdpagcklakahaa
end
section
namespace Go.Proofs.Ythdpagcklakahaa
open Go
set_option linter.unusedSimpArgs false
set_option linter.unusedVariables false
theorem okU.nil : okU [] := ⟨by simp, fun x h => by cases h⟩
theorem Sto.none {d : T_Device} {s : T_settings_Store} {f : Nat} (h : Sto d s f) : ∃ s', m_settings_Store_Update s [] d = some (s', d, 0) ∧ Sto d s' f := by
  obtain ⟨s', h1, h2⟩ := update_eq (l := []) h.rel (openF_okO h.ok h.size h.first) h.ok h.size h.first okU.nil.1 okU.nil.2
  have e : updF (openF d f) d f [] = (some (openF d f), d, 0) := by
    unfold updF
    rw [if_neg (by simp [h.down]), if_neg (by decide), if_pos rfl]
  rw [e] at h1 h2
  exact ⟨s', h1, h.ok, h.size, h.first, h.down, h2⟩
end Go.Proofs.Ythdpagcklakahaa
end
section
namespace Go.Proofs.Ythdpagcklakahaa
open Go
set_option linter.unusedSimpArgs false
set_option linter.unusedVariables false
def seekF (key : Int) (a : Bool × Int × List Int × Bool) (x : T_Setting) : Bool × Int × List Int × Bool := if x.Key = key then (true, x.Key, x.Value, x.Delete) else a
theorem seek_fold {key : Int} : ∀ {K : List T_Setting}, Asc K → ∀ a, (K.foldl (seekF key) a).1 = (a.1 || (look K key).isSome) ∧ (K.foldl (seekF key) a).2.2.1 = (look K key).getD a.2.2.1
  | [], _, a => by simp [look_nil]
  | x :: r, h, a => by
    have hp := List.pairwise_cons.1 h
    rw [List.foldl_cons]
    obtain ⟨h1, h2⟩ := seek_fold (key := key) hp.2 (seekF key a x)
    rw [h1, h2, look_cons]
    unfold seekF
    by_cases hk : x.Key = key
    · have hn : look r key = none := look_none.2 fun y hy => by have := hp.1 y hy; omega
      rw [if_pos hk, if_pos hk, hn]
      simp
    · rw [if_neg hk, if_neg hk]
      exact ⟨rfl, rfl⟩
theorem seek_loop {K : List T_Setting} (hK : K.length ≤ 1000) (key : Int) : loopM (τ := Bool × Int × List Int × Bool) (fun (s1 : Bool × Int × Int × List Int × Bool) => bif decide (s1.2.1 < (K.length : Int)) then (bnd (elt K s1.2.1) fun x1 => bif (x1.Key == key) then (some (.next (true, IntKind.wrap .i64 (s1.2.1 + 1), x1.Key, x1.Value, x1.Delete))) else (some (.next (s1.1, IntKind.wrap .i64 (s1.2.1 + 1), s1.2.2.1, s1.2.2.2.1, s1.2.2.2.2)))) else (some (.done (s1.1, s1.2.2.1, s1.2.2.2.1, s1.2.2.2.2)))) (false, 0, 0, [], false) = some (K.foldl (seekF key) (false, 0, [], false)) := by
  have := loop_run (m := fun (s1 : Bool × Int × Int × List Int × Bool) => bif decide (s1.2.1 < (K.length : Int)) then (bnd (elt K s1.2.1) fun x1 => bif (x1.Key == key) then (some (.next (true, IntKind.wrap .i64 (s1.2.1 + 1), x1.Key, x1.Value, x1.Delete))) else (some (.next (s1.1, IntKind.wrap .i64 (s1.2.1 + 1), s1.2.2.1, s1.2.2.2.1, s1.2.2.2.2)))) else (some (.done (s1.1, s1.2.2.1, s1.2.2.2.1, s1.2.2.2.2)) : Option (Step (Bool × Int × Int × List Int × Bool) (Bool × Int × List Int × Bool))))
    (fun i => (((K.take i).foldl (seekF key) (false, 0, [], false)).1, (i : Int), ((K.take i).foldl (seekF key) (false, 0, [], false)).2.1, ((K.take i).foldl (seekF key) (false, 0, [], false)).2.2.1, ((K.take i).foldl (seekF key) (false, 0, [], false)).2.2.2)) K.length (t := K.foldl (seekF key) (false, 0, [], false)) (fun i hi => ?_) ?_
  · exact this
  · dsimp only
    rw [cnd_t (by simp; omega), elt_lt hi, bnd_some, wrap_succ hi (by omega)]
    have e : (K.take (i + 1)).foldl (seekF key) (false, 0, [], false) = seekF key ((K.take i).foldl (seekF key) (false, 0, [], false)) K[i] := by
      rw [take_succ_get hi, List.foldl_append]
      rfl
    rw [e]
    unfold seekF
    by_cases hk : K[i].Key = key
    · rw [cnd_t (by simpa using hk), if_pos hk]
    · rw [cnd_f (by simpa using hk), if_neg hk]
  · dsimp only
    rw [cnd_f (by simp), List.take_length]
noncomputable def turnIn (i : Int) : List T_Setting × Int → Option (Step (List T_Setting × Int) (List T_Setting)) :=
  (fun (s3 : List T_Setting × Int) => bnd (elt s3.1 i) fun x2 => bif decide (s3.2 < (x2.Value.length : Int)) then (bnd (elt s3.1 i) fun x3 => bnd (elt x3.Value s3.2) fun x4 => bnd (setE x3.Value s3.2 (iXor .u8 x4 255)) fun l1 => bnd (setE s3.1 i (⟨x3.Key, l1, x3.Delete⟩ : T_Setting)) fun l2 => some (.next (l2, IntKind.wrap .i64 (s3.2 + 1)))) else (some (.done s3.1)))
noncomputable def turnOut (n : Nat) : List T_Setting × Int → Option (Step (List T_Setting × Int) (List T_Setting)) :=
  (fun (s2 : List T_Setting × Int) => bif decide (s2.2 < (n : Int)) then (bnd (loopM (τ := List T_Setting) (turnIn s2.2) (s2.1, 0)) fun z1 => some (.next (z1, IntKind.wrap .i64 (s2.2 + 1)))) else (some (.done s2.1)))
def tame (xs : List T_Setting) : Prop := ∀ x ∈ xs, x.Value.length ≤ 28
theorem turn_in {n i : Nat} (hi : i < n) {xs : List T_Setting} (hl : xs.length = n) (ht : tame xs) : ∃ out, loopM (turnIn (i : Int)) (xs, 0) = some out ∧ out.length = n ∧ tame out := by
  have hi' : i < xs.length := by omega
  refine loop_inv (m := turnIn (i : Int)) (fun s => s.1.length = n ∧ tame s.1 ∧ 0 ≤ s.2 ∧ ∃ y, s.1[i]? = some y ∧ y.Value.length = xs[i].Value.length ∧ s.2 ≤ xs[i].Value.length) (fun s => ((xs[i].Value.length : Int) - s.2).toNat) _ (fun s hs => ?_) (xs, 0) ⟨hl, ht, by show (0 : Int) ≤ 0; omega, xs[i], List.getElem?_eq_getElem hi', rfl, by show (0 : Int) ≤ _; omega⟩
  obtain ⟨a1, a2, a3, y, a4, a5, a6⟩ := hs
  have hm : xs[i].Value.length ≤ 28 := ht _ (List.getElem_mem hi')
  have he : elt s.1 (i : Int) = some y := by rw [elt_nat, a4]
  unfold turnIn
  rw [he, bnd_some]
  by_cases hk : s.2 < (y.Value.length : Int)
  · obtain ⟨k, hk2⟩ : ∃ k : Nat, s.2 = (k : Int) := ⟨s.2.toNat, by omega⟩
    have hkl : k < y.Value.length := by omega
    left
    rw [cnd_t (by simpa using hk), bnd_some, hk2, elt_lt hkl, bnd_some, setE_nat hkl, bnd_some, setE_nat (by omega), bnd_some, wrap_succ hkl (by omega)]
    refine ⟨_, rfl, ⟨by simp; omega, fun x hx => ?_, by show (0 : Int) ≤ ((k + 1 : Nat) : Int); omega, (⟨y.Key, y.Value.set k (iXor .u8 y.Value[k] 255), y.Delete⟩ : T_Setting), ?_, ?_, by show ((k + 1 : Nat) : Int) ≤ _; omega⟩, by show ((xs[i].Value.length : Int) - ((k + 1 : Nat) : Int)).toNat < _; omega⟩
    · rcases List.mem_or_eq_of_mem_set hx with hx | rfl
      · exact a2 x hx
      · show (List.set _ _ _).length ≤ 28
        rw [List.length_set]
        omega
    · show (s.1.set i _)[i]? = _
      rw [List.getElem?_set, if_pos rfl, if_pos (by omega)]
    · show (List.set _ _ _).length = _
      rw [List.length_set]
      exact a5
  · right
    rw [cnd_f (by simpa using hk)]
    exact ⟨_, rfl, a1, a2⟩
theorem turn_out {n : Nat} (hn : n ≤ 1000) {xs : List T_Setting} (hl : xs.length = n) (ht : tame xs) : ∃ out, loopM (turnOut n) (xs, 0) = some out ∧ True := by
  refine loop_inv (m := turnOut n) (fun s => s.1.length = n ∧ tame s.1 ∧ 0 ≤ s.2 ∧ s.2 ≤ n) (fun s => ((n : Int) - s.2).toNat) _ (fun s hs => ?_) (xs, 0) ⟨hl, ht, by show (0 : Int) ≤ 0; omega, by show (0 : Int) ≤ _; omega⟩
  obtain ⟨a1, a2, a3, a4⟩ := hs
  unfold turnOut
  by_cases hk : s.2 < (n : Int)
  · obtain ⟨k, hk2⟩ : ∃ k : Nat, s.2 = (k : Int) := ⟨s.2.toNat, by omega⟩
    obtain ⟨out, h1, h2, h3⟩ := turn_in (n := n) (i := k) (by omega) a1 a2
    left
    rw [cnd_t (by simpa using hk), hk2, h1, bnd_some, wrapS (by omega)]
    exact ⟨_, rfl, ⟨h2, h3, by show (0 : Int) ≤ ((k + 1 : Nat) : Int); omega, by show ((k + 1 : Nat) : Int) ≤ _; omega⟩, by show ((n : Int) - ((k + 1 : Nat) : Int)).toNat < _; omega⟩
  · right
    rw [cnd_f (by simpa using hk)]
    exact ⟨_, rfl, trivial⟩
theorem keeps_true (l : List Int) (updates key : Int) (_ : okL (inK .i64) l) (_ : inK .i64 updates) (_ : inK .u8 key) : m_law06_SettingsKeeps l updates key = some true := by
  unfold m_law06_SettingsKeeps m_made_Light
  rw [bnd_some]
  by_cases hl : l.length ≤ 600
  · rw [cnd_f (by simp; omega)]
    obtain ⟨q, eq, q0, q1, _⟩ := mod_some updates 60 (by omega) (by omega)
    obtain ⟨d, s, K, e4, hF⟩ := filled_eq hl (n := q) (by omega)
    rw [eq, bnd_some, e4, bnd_some]
    have hok := hF.sto.okK
    rw [hF.list] at hok
    obtain ⟨t, o1, o2⟩ := open_sto hF.sto.ok hF.sto.down hF.sto.size (f := 0) hF.sto.first
    have o1' : m_settings_Open d 0 = some (d, some t, 0) := o1
    have hV : okV K := ⟨by have := hok.len; omega, fun x hx => by have := (hok.ok x hx).len; omega⟩
    have aT : m_settings_Store_All t d = some K := by rw [o2.all, hF.list]
    have aS : m_settings_Store_All s d = some K := by rw [hF.sto.all, hF.list]
    have gT : m_settings_Store_Get t key d = some ((look K key).getD [], (look K key).isSome) := by rw [get_eq o2.rel o2.okK, hF.list]
    show bnd (m_settings_Open d 0) _ = _
    rw [o1', bnd_some]
    show bnd (m_settings_Store_All t d) _ = _
    rw [aT, bnd_some, sameL hV, bnd_some, decide_eq_true rfl, cnd_f (by rfl)]
    show bnd (bnd (m_settings_Store_All s d) _) _ = _
    rw [aS, bnd_some, sameL hV, bnd_some, decide_eq_true rfl, cnd_f (by rfl)]
    unfold m_settings_Store_Generation
    rw [bnd_some, bnd_some, bnd_some, hF.sto.rel.gen, o2.rel.gen, cnd_f (by simp)]
    obtain ⟨f1, f2⟩ := seek_fold (key := key) hok.asc (false, 0, [], false)
    show bnd (loopM _ (false, 0, 0, [], false)) _ = _
    rw [seek_loop (K := K) (by have := hok.len; omega) key, bnd_some]
    show bnd (m_settings_Store_Get t key d) _ = _
    rw [gT, bnd_some, f1, f2]
    have hv : ((look K key).getD []).length ≤ 1000000 := by
      cases hk : look K key with
      | none => simp
      | some v =>
        unfold look at hk
        obtain ⟨x, hx, hxv⟩ := Option.map_eq_some_iff.1 hk
        have := (hok.ok x (List.mem_of_find?_eq_some hx)).len
        rw [← hxv]
        simp only [Option.getD_some]
        omega
    dsimp only
    rw [Bool.false_or, cnd_f (by simp), sameI hv, bnd_some, decide_eq_true rfl, bnd_some, cnd_f (by rfl)]
    obtain ⟨out, h1, _⟩ := turn_out (n := K.length) (by have := hok.len; omega) rfl (fun x hx => (hok.ok x hx).len)
    show bnd (loopM (turnOut K.length) (K, 0)) _ = _
    rw [h1, bnd_some]
    rw [bnd_some, sameL hV, bnd_some, decide_eq_true rfl, cond_true, awake_ok]
    rfl
  · rw [cnd_t (by simp; omega), awake_ok]
    rfl
end Go.Proofs.Ythdpagcklakahaa
end
