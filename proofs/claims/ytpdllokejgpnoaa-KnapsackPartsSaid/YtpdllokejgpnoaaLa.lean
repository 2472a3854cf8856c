import Derived.Test.YtpdllokejgpnoaaFb
import Derived.Test.YtpdllokejgpnoaaLw
set_option linter.unusedVariables false
namespace Go.AB
open Go

def okI (x : R27) : Prop := 1 ≤ x.Size ∧ x.Size ≤ 4000 ∧ 0 ≤ x.Value ∧ x.Value ≤ 1073741824 ∧ 0 ≤ x.Most ∧ x.Most ≤ 1000
/-- the best value of an item and what comes behind it -/
def W (x : R27) (f : Nat → Int) (c : Nat) : Int := mx (fun n => (n : Int) * x.Value + f (c - n * x.Size.toNat)) (min x.Most.toNat (c / x.Size.toNat))
def row (f : Nat → Int) (cap : Nat) : List Int := (List.range (cap + 1)).map f
theorem row_len (f : Nat → Int) (cap : Nat) : (row f cap).length = cap + 1 := by simp [row]
theorem row_at {f : Nat → Int} {cap i : Nat} (h : i ≤ cap) : (row f cap)[i]? = some (f i) := by
  unfold row
  rw [List.getElem?_map, List.getElem?_range (by omega)]; rfl
/-- values within bounds -/
def bdd (f : Nat → Int) (cap : Nat) : Prop := ∀ c, c ≤ cap → 0 ≤ f c ∧ f c ≤ 8796093022208

def casts (l : List Nat) : List Int := l.map fun b : Nat => (b : Int)
theorem casts_len (l : List Nat) : (casts l).length = l.length := by simp [casts]
theorem casts_at {l : List Nat} {i b : Nat} (h : l[i]? = some b) : (casts l)[i]? = some (b : Int) := by simp [casts, h]
theorem casts_append (a b : List Nat) : casts (a ++ b) = casts a ++ casts b := by simp [casts]

section
variable {f : Nat → Int} {cap r S : Nat} {V : Int}
/-- what index j is worth -/
def wat (f : Nat → Int) (r S : Nat) (V : Int) (j : Nat) : Int := f (r + j * S) - (j : Int) * V

theorem le_of_mul {j S c : Nat} (hS : 1 ≤ S) (h : j * S ≤ c) : j ≤ c := Nat.le_trans (by rw [← Nat.mul_one j]; exact Nat.mul_le_mul (by omega) hS) h

theorem m42_val {n : Nat} {M : Int} {j : Nat} (hf : bdd f cap) (hcap : cap ≤ 4000) (hS : 1 ≤ S) (hV : 0 ≤ V ∧ V ≤ 1073741824) (h : r + j * S ≤ cap) :
    m42 n (j : Int) (row f cap) (r : Int) (S : Int) V M = some (wat f r S V j) := by
  have hj : j ≤ 4000 := le_of_mul hS (by omega : j * S ≤ 4000)
  unfold m42
  have e1 : ((j : Int) * (S : Int)) = ((j * S : Nat) : Int) := by simp
  rw [e1, wrap64 (x := ((j * S : Nat) : Int)) (by omega) (by omega), wrap64 (by omega) (by omega), show ((r : Int) + ((j * S : Nat) : Int)) = ((r + j * S : Nat) : Int) by simp, getIdx_q rfl (row_at h)]
  simp only [Option.bind_some, letM_eq]
  obtain ⟨h1, h2⟩ := mulB (a := (j : Int)) (A := 4000) (by omega) (by omega) hV.1 hV.2
  obtain ⟨h3, h4⟩ := hf _ h
  rw [wrap64 (x := (j : Int) * V) (by omega) (by omega), wrap64 (by omega) (by omega)]
  rfl

theorem L13 {n : Nat} {x : R27} {k : Nat} {o1 : List Int} {o2 : List Int × List Int} (hx : x.Size = (S : Int) ∧ x.Value = V) (hf : bdd f cap) (hcap : cap ≤ 4000) (hS : 1 ≤ S) (hV : 0 ≤ V ∧ V ≤ 1073741824) (hk : r + k * S ≤ cap)
    {bs : List Nat} (hbs : ∀ b, b ∈ bs → b < k) (kk : List Int → Option (List Int)) (hbl : bs.length ≤ 1000000) (hn : bs.length < n) :
    ∃ bs' rest, bs = bs' ++ rest ∧ (∀ b, b ∈ rest → wat f r S V b ≤ wat f r S V k) ∧ (∀ i b, bs' = i ++ [b] → wat f r S V k < wat f r S V b) ∧
      loopM (m39_L13 n x (row f cap) ((r : Int), o1) ((k : Int), o2) kk) n (casts bs) = kk (casts bs') := by
  have key := loopM_ind (body := m39_L13 n x (row f cap) ((r : Int), o1) ((k : Int), o2) kk)
    (fun i xs => ∃ bs' rest, xs = casts bs' ∧ i = bs'.length ∧ bs = bs' ++ rest ∧ ∀ b, b ∈ rest → wat f r S V b ≤ wat f r S V k)
    (fun o => ∃ bs' rest, bs = bs' ++ rest ∧ (∀ b, b ∈ rest → wat f r S V b ≤ wat f r S V k) ∧ (∀ i b, bs' = i ++ [b] → wat f r S V k < wat f r S V b) ∧ o = kk (casts bs'))
    (fun i xs => ?_) n bs.length (casts bs) ⟨bs, [], rfl, rfl, by simp, fun b h => by cases h⟩ hn
  · obtain ⟨bs', rest, h1, h2, h3, h4⟩ := key
    exact ⟨bs', rest, h1, h2, h3, h4⟩
  · rintro ⟨bs', rest, rfl, rfl, hb, hr⟩
    rcases List.eq_nil_or_concat bs' with rfl | ⟨ini, b, rfl⟩
    · right
      refine ⟨_, ⟨[], rest, hb, hr, fun i b h => by simp at h, rfl⟩, fun nx => ?_⟩
      simp [m39_L13, casts, gdO]
    · rw [List.concat_eq_append] at *
      have hbk : b < k := hbs b (by rw [hb]; simp)
      have hlen : (casts (ini ++ [b])).length = ini.length + 1 := by rw [casts_len]; simp
      have hpos : (decide ((0 : Int) < ((casts (ini ++ [b])).length : Int))) = true := by rw [hlen]; simp
      have hlast : getIdx (casts (ini ++ [b])) (IntKind.wrap .i64 (((casts (ini ++ [b])).length : Int) - 1)) = some (b : Int) := by
        have hil : ini.length + 1 ≤ bs.length := by rw [hb]; simp
        rw [hlen, wrap64 (by omega) (by omega)]
        exact getIdx_q (k := ini.length) (by omega) (casts_at (by simp))
      have hjb : r + b * S ≤ cap := Nat.le_trans (Nat.add_le_add_left (Nat.mul_le_mul_right _ (by omega)) _) hk
      have hm1 := m42_val (n := n) (M := x.Most) (j := b) hf hcap hS hV hjb
      have hm2 := m42_val (n := n) (M := x.Most) (j := k) hf hcap hS hV hk
      by_cases hc : wat f r S V b ≤ wat f r S V k
      · left
        refine ⟨ini.length, casts ini, by simp, ⟨ini, b :: rest, rfl, rfl, by rw [hb]; simp, fun c h => ?_⟩, fun nx => ?_⟩
        · rcases List.mem_cons.1 h with rfl | h
          · exact hc
          · exact hr c h
        · unfold m39_L13
          rw [hpos, gdO_true, hlast]
          simp only [Option.bind_some, gdO_true, hx.1, hx.2, hm1, hm2, hc, decide_true, Bool.and_self, if_true]
          have hil : ini.length + 1 ≤ bs.length := by rw [hb]; simp
          have hs : slc (casts (ini ++ [b])) 0 (IntKind.wrap .i64 (((ini.length + 1 : Nat) : Int) - 1)) = some (casts ini) := by
            rw [wrap64 (by omega) (by omega), slc_val (l := 0) (i := 0) (j := ini.length) rfl (by omega) (Nat.zero_le _) (by rw [hlen]; omega)]
            simp [casts]
          rw [hlen, hs]
          rfl
      · right
        refine ⟨_, ⟨ini ++ [b], rest, hb, hr, fun i c h => ?_, rfl⟩, fun nx => ?_⟩
        · have := List.append_inj_right' h rfl
          simp at this
          subst this
          omega
        · unfold m39_L13
          rw [hpos, gdO_true, hlast]
          simp only [Option.bind_some, gdO_true, hx.1, hx.2, hm1, hm2, hc, decide_false, Bool.and_false, Bool.false_eq_true, if_false]

theorem g_eq {n k : Nat} (h : n ≤ k) : (n : Int) * V + f (r + k * S - n * S) = wat f r S V (k - n) + (k : Int) * V := by
  obtain ⟨d, rfl⟩ : ∃ d, k = d + n := ⟨k - n, by omega⟩
  unfold wat
  rw [Nat.add_mul, Nat.add_sub_cancel, ← Nat.add_assoc, Nat.add_sub_cancel, Int.natCast_add, Int.add_mul]
  omega
theorem W_of {x : R27} {k b2 : Nat} (hx : x.Size = (S : Int) ∧ x.Value = V) (hr : r < S) (hb : b2 ≤ k) (hw : k ≤ b2 + x.Most.toNat)
    (hmax : ∀ j, j ≤ k → k ≤ j + x.Most.toNat → wat f r S V j ≤ wat f r S V b2) : W x f (r + k * S) = wat f r S V b2 + (k : Int) * V := by
  unfold W
  rw [hx.1, hx.2, Int.toNat_natCast]
  have hd : (r + k * S) / S = k := by rw [Nat.add_mul_div_right _ _ (by omega), Nat.div_eq_of_lt hr, Nat.zero_add]
  rw [hd]
  refine mx_eq (i := k - b2) (by omega) ?_ fun j hj => ?_
  · rw [g_eq (by omega), show k - (k - b2) = b2 by omega]
  · rw [g_eq (by omega)]
    have := hmax (k - j) (by omega) (by omega)
    omega

theorem head_max {bs : List Nat} {b : Nat} (hp : (b :: bs).Pairwise (fun a c => a < c ∧ wat f r S V c < wat f r S V a)) : ∀ c, c ∈ b :: bs → b ≤ c ∧ wat f r S V c ≤ wat f r S V b := fun c hc => by
  rcases List.mem_cons.1 hc with rfl | hc
  · exact ⟨Nat.le_refl _, Int.le_refl _⟩
  · have := (List.pairwise_cons.1 hp).1 c hc
    omega

theorem L12 {n : Nat} {x : R27} {o : List Int} (hx : x.Size = (S : Int) ∧ x.Value = V) (hM : 0 ≤ x.Most ∧ x.Most ≤ 1000) (hf : bdd f cap) (hcap : cap ≤ 4000) (hr : r < S) (hS4 : S ≤ 4000) (hrc : r ≤ cap) (hV : 0 ≤ V ∧ V ≤ 1073741824)
    (kk : List Int → Option (List Int)) {out0 : List Int} (hl0 : out0.length = cap + 1) (hn : cap + 2 < n) :
    ∃ out, out.length = cap + 1 ∧ (∀ p, p ≤ cap → p % S = r → out[p]? = some (W x f p)) ∧ (∀ p, p % S ≠ r → out[p]? = out0[p]?) ∧
      loopM (m39_L12 n x (row f cap) ((r : Int), o) kk) n ((0 : Int), out0, ([] : List Int)) = kk out := by
  have hS : 1 ≤ S := by omega
  have hMn : x.Most = (x.Most.toNat : Int) := by omega
  refine loopM_ind (body := m39_L12 n x (row f cap) ((r : Int), o) kk)
    (fun i st => ∃ (k : Nat) (bs : List Nat), st.1 = (k : Int) ∧ st.2.2 = casts bs ∧ i = cap + 1 - k ∧ k ≤ cap + 1 ∧ bs.length ≤ k ∧ bs.Pairwise (fun a c => a < c ∧ wat f r S V c < wat f r S V a) ∧
      (∀ b, b ∈ bs → b < k ∧ k ≤ b + x.Most.toNat + 1) ∧ (∀ j : Nat, j < k → k ≤ j + x.Most.toNat + 1 → ∃ b, b ∈ bs ∧ j ≤ b ∧ wat f r S V j ≤ wat f r S V b) ∧
      st.2.1.length = cap + 1 ∧ (∀ j : Nat, j < k → r + j * S ≤ cap → st.2.1[r + j * S]? = some (W x f (r + j * S))) ∧ ∀ p, p % S ≠ r → st.2.1[p]? = out0[p]?)
    (fun oo => ∃ out, out.length = cap + 1 ∧ (∀ p, p ≤ cap → p % S = r → out[p]? = some (W x f p)) ∧ (∀ p, p % S ≠ r → out[p]? = out0[p]?) ∧ oo = kk out)
    (fun i st => ?_) n (cap + 1) ((0 : Int), out0, ([] : List Int)) ⟨0, [], rfl, rfl, by omega, by omega, by simp, List.Pairwise.nil, (fun b h => by cases h), fun j h => absurd h (Nat.not_lt_zero _), hl0, fun j h => absurd h (Nat.not_lt_zero _), fun p _ => rfl⟩ (by omega)
  rintro ⟨k, bs, h1, h2, hi, hk, hbl, hp, hw, hcov, hlen, hdone, hsame⟩
  obtain ⟨k0, out, bst⟩ := st
  simp only at h1 h2 hlen hdone hsame
  subst h1 h2
  by_cases hgo : r + k * S ≤ cap
  · left
    have hkc : k ≤ cap := le_of_mul hS (by omega)
    have hcond : (decide ((IntKind.wrap .i64 ((r : Int) + (IntKind.wrap .i64 ((k : Int) * x.Size)))) < ((row f cap).length : Int))) = true := by
      rw [hx.1, show ((k : Int) * (S : Int)) = ((k * S : Nat) : Int) by simp, wrap64 (x := ((k * S : Nat) : Int)) (by omega) (by omega), wrap64 (by omega) (by omega), row_len]
      simp; omega
    have hpos : IntKind.wrap .i64 ((r : Int) + (IntKind.wrap .i64 ((k : Int) * x.Size))) = ((r + k * S : Nat) : Int) := by
      rw [hx.1, show ((k : Int) * (S : Int)) = ((k * S : Nat) : Int) by simp, wrap64 (x := ((k * S : Nat) : Int)) (by omega) (by omega), wrap64 (by omega) (by omega)]
      simp
    -- the queue behind the pops
    have hlt : ∀ b, b ∈ bs → b < k := fun b hb => (hw b hb).1
    have hL13 := fun kq => L13 (n := n) (x := x) (o1 := o) (o2 := (out, casts bs)) hx hf hcap hS hV hgo hlt kq (by omega) (by omega : bs.length < n)
    obtain ⟨bs', rest, e1, hrest, hlast, _⟩ := hL13 (fun _ => none)
    have hpop : ∀ kq, loopM (m39_L13 n x (row f cap) ((r : Int), o) ((k : Int), out, casts bs) kq) n (casts bs) = kq (casts bs') := by
      intro kq
      obtain ⟨bs'', rest', e2, hrest', hlast', hq⟩ := hL13 kq
      have : bs'' = bs' := by
        have hll : bs''.length = bs'.length := by
          rcases Nat.lt_trichotomy bs''.length bs'.length with h | h | h
          · exfalso
            rcases List.eq_nil_or_concat bs' with rfl | ⟨ini, b, rfl⟩
            · simp at h
            · rw [List.concat_eq_append] at *
              have hb1 := hlast ini b rfl
              have : b ∈ rest' := by
                have e3 : bs'' ++ rest' = (ini ++ [b]) ++ rest := by rw [← e2, e1]
                have hg := congrArg (fun l => l[ini.length]?) e3
                rw [List.getElem?_append_right (by simp at h; omega), List.getElem?_append_left (by simp), List.getElem?_append_right (by simp)] at hg
                simp at hg
                exact List.mem_of_getElem? hg
              have := hrest' b this
              omega
          · exact h
          · exfalso
            rcases List.eq_nil_or_concat bs'' with rfl | ⟨ini, b, rfl⟩
            · simp at h
            · rw [List.concat_eq_append] at *
              have hb1 := hlast' ini b rfl
              have : b ∈ rest := by
                have e3 : bs' ++ rest = (ini ++ [b]) ++ rest' := by rw [← e2, e1]
                have hg := congrArg (fun l => l[ini.length]?) e3
                rw [List.getElem?_append_right (by simp at h; omega), List.getElem?_append_left (by simp), List.getElem?_append_right (by simp)] at hg
                simp at hg
                exact List.mem_of_getElem? hg
              have := hrest b this
              omega
        have e3 : bs'' ++ rest' = bs' ++ rest := by rw [← e2, e1]
        exact (List.append_inj e3 hll).1
      rw [hq, this]
    have hbs'l : bs'.length ≤ bs.length := by rw [e1]; simp
    have hsub : ∀ b, b ∈ bs' → b ∈ bs := fun b hb => by rw [e1]; simp [hb]
    have hp1 : (bs' ++ [k]).Pairwise (fun a c => a < c ∧ wat f r S V c < wat f r S V a) := by
      rw [List.pairwise_append]
      refine ⟨?_, List.pairwise_singleton _ _, fun a ha c hc => ?_⟩
      · rw [e1] at hp
        exact (List.pairwise_append.1 hp).1
      · simp at hc
        subst hc
        refine ⟨hlt a (hsub a ha), ?_⟩
        rcases List.eq_nil_or_concat bs' with rfl | ⟨ini, b, rfl⟩
        · cases ha
        · rw [List.concat_eq_append] at *
          have h3 := hlast ini b rfl
          rcases List.mem_append.1 ha with h4 | h4
          · rw [e1, List.append_assoc] at hp
            have := (List.pairwise_append.1 hp).2.2 a h4 b (by simp)
            omega
          · simp at h4; subst h4; exact h3
    -- the front
    obtain ⟨h0, tl, e3⟩ : ∃ h0 tl, bs' ++ [k] = h0 :: tl := by
      cases hb : bs' ++ [k] with
      | nil => simp at hb
      | cons a b => exact ⟨a, b, rfl⟩
    have hwin : ∀ b, b ∈ bs' ++ [k] → b ≤ k ∧ k ≤ b + x.Most.toNat + 1 := fun b hb => by
      rcases List.mem_append.1 hb with h | h
      · have := hw b (hsub b h); omega
      · simp at h; omega
    have hcov1 : ∀ j, j ≤ k → k ≤ j + x.Most.toNat → ∃ b, b ∈ bs' ++ [k] ∧ j ≤ b ∧ wat f r S V j ≤ wat f r S V b := fun j hj hjw => by
      by_cases hjk : j = k
      · exact ⟨k, by simp, by omega, by rw [hjk]; exact Int.le_refl _⟩
      · obtain ⟨b, hb, h5, h6⟩ := hcov j (by omega) (by omega)
        rw [e1] at hb
        rcases List.mem_append.1 hb with h | h
        · exact ⟨b, by simp [h], h5, h6⟩
        · exact ⟨k, by simp, by omega, Int.le_trans h6 (hrest b h)⟩
    have key : ∃ bs2 b2 t2, bs2 = b2 :: t2 ∧ bs2.length ≤ k + 1 ∧ bs2.Pairwise (fun a c => a < c ∧ wat f r S V c < wat f r S V a) ∧ (∀ b, b ∈ bs2 → b ≤ k ∧ k ≤ b + x.Most.toNat) ∧
        (∀ j, j ≤ k → k ≤ j + x.Most.toNat → ∃ b, b ∈ bs2 ∧ j ≤ b ∧ wat f r S V j ≤ wat f r S V b) ∧
        ∀ (kq : List Int → Option (List Int)), (if (decide ((h0 : Int) < (IntKind.wrap .i64 ((k : Int) - x.Most)))) = true then ((slc (casts (bs' ++ [k])) (1 : Int) ((casts (bs' ++ [k])).length : Int)).bind fun l5 => (kq l5)) else (kq (casts (bs' ++ [k])))) = kq (casts bs2) := by
      have hl1 : (bs' ++ [k]).length = bs'.length + 1 := by simp
      have hwr : IntKind.wrap .i64 ((k : Int) - x.Most) = (k : Int) - x.Most := wrap64 (by omega) (by omega)
      by_cases hc : (h0 : Int) < (k : Int) - x.Most
      · have htl : tl ≠ [] := by
          rintro rfl
          have : h0 = k := by
            cases bs' with
            | nil => simp at e3; exact e3.symm
            | cons a b => simp at e3
          omega
        obtain ⟨b2, t2, rfl⟩ := List.exists_cons_of_ne_nil htl
        rw [e3] at hp1 hwin hcov1 hl1
        have hpc := List.pairwise_cons.1 hp1
        refine ⟨b2 :: t2, b2, t2, rfl, by simp at hl1 ⊢; omega, hpc.2, fun b hb => ?_, fun j hj hjw => ?_, fun kq => ?_⟩
        · have h4 := hwin b (List.mem_cons_of_mem _ hb)
          have h5 := hwin h0 (by simp)
          have h6 := (hpc.1 b hb).1
          omega
        · obtain ⟨b, hb, h5, h6⟩ := hcov1 j hj hjw
          rcases List.mem_cons.1 hb with rfl | hb
          · omega
          · exact ⟨b, hb, h5, h6⟩
        · rw [hwr, if_pos (by simpa using hc), e3, slc_val (l := 1) (i := 1) (j := (h0 :: b2 :: t2).length) rfl (by rw [casts_len]) (by simp) (by rw [casts_len]; exact Nat.le_refl _)]
          simp [casts]
          rw [List.take_of_length_le (by simp)]
      · rw [e3] at hp1 hwin hcov1 hl1
        have hpc := List.pairwise_cons.1 hp1
        refine ⟨h0 :: tl, h0, tl, rfl, by omega, hp1, fun b hb => ?_, hcov1, fun kq => ?_⟩
        · have h4 := hwin b hb
          rcases List.mem_cons.1 hb with rfl | hb'
          · omega
          · have h6 := (hpc.1 b hb').1
            omega
        · rw [hwr, if_neg (by simpa using hc), e3]
    obtain ⟨bs2, b2, t2, e4, hl2, hp2, hw2, hcov2, hq2⟩ := key
    subst e4
    have hb2 := hw2 b2 (by simp)
    have hmax : ∀ j, j ≤ k → k ≤ j + x.Most.toNat → wat f r S V j ≤ wat f r S V b2 := fun j hj hjw => by
      obtain ⟨b, hb, _, h6⟩ := hcov2 j hj hjw
      exact Int.le_trans h6 (head_max hp2 b hb).2
    have hW := W_of hx hr hb2.1 hb2.2 hmax
    have hb2pos : r + b2 * S ≤ cap := Nat.le_trans (Nat.add_le_add_left (Nat.mul_le_mul_right _ hb2.1) _) hgo
    have hm := m42_val (n := n) (M := x.Most) (j := b2) hf hcap hS hV hb2pos
    obtain ⟨v1, v2⟩ := mulB (a := (k : Int)) (A := 4000) (by omega) (by omega) hV.1 hV.2
    obtain ⟨v3, v4⟩ := mulB (a := (b2 : Int)) (A := 4000) (by omega) (by omega) hV.1 hV.2
    obtain ⟨v5, v6⟩ := hf _ hb2pos
    have hval : IntKind.wrap .i64 (wat f r S V b2 + IntKind.wrap .i64 ((k : Int) * x.Value)) = W x f (r + k * S) := by
      rw [hW, hx.2, wrap64 (x := (k : Int) * V) (by omega) (by omega)]
      unfold wat
      rw [wrap64 (by omega) (by omega)]
    refine ⟨cap + 1 - (k + 1), (((k + 1 : Nat) : Int), out.set (r + k * S) (W x f (r + k * S)), casts (b2 :: t2)), by omega, ⟨k + 1, b2 :: t2, rfl, rfl, rfl, by omega, hl2, hp2, fun b hb => ?_, fun j hj hjw => ?_, by simpa using hlen, fun j hj hjc => ?_, fun p hpm => ?_⟩, fun nx => ?_⟩
    · have := hw2 b hb; omega
    · exact hcov2 j (by omega) (by omega)
    · by_cases hjk : j = k
      · subst hjk
        rw [List.getElem?_set_self (by omega)]
      · have hne : r + k * S ≠ r + j * S := by
          intro h
          have : k * S = j * S := by omega
          exact hjk (Nat.eq_of_mul_eq_mul_right (by omega) this).symm
        rw [List.getElem?_set_ne hne]
        exact hdone j (by omega) hjc
    · have hne : r + k * S ≠ p := by
        intro h
        apply hpm
        rw [← h, Nat.add_mul_mod_self_right, Nat.mod_eq_of_lt hr]
      rw [List.getElem?_set_ne hne]
      exact hsame p hpm
    · unfold m39_L12
      rw [hcond, if_pos rfl, jn, hpop]
      rw [apd_val (by rw [casts_len]; simp; omega), show casts bs' ++ [(k : Int)] = casts (bs' ++ [k]) by simp [casts]]
      simp only [Option.bind_some]
      rw [getIdx_q (i := 0) (k := 0) (y := (h0 : Int)) rfl (by rw [e3]; rfl)]
      simp only [Option.bind_some]
      rw [jn]
      refine (hq2 _).trans ?_
      rw [getIdx_q (i := 0) (k := 0) (y := (b2 : Int)) rfl rfl]
      simp only [Option.bind_some]
      rw [hx.1, hx.2] at *
      rw [hm]
      simp only [Option.bind_some]
      rw [hpos, getIdx_at (k := r + k * S) rfl (by omega)]
      simp only [Option.bind_some]
      rw [setIdx_at (k := r + k * S) rfl (by omega), hval]
      simp only [Option.bind_some, letM_eq]
      rw [wrap64 (x := (k : Int) + 1) (by omega) (by omega)]
      rfl
  · right
    refine ⟨_, ⟨out, hlen, fun p hp hpm => ?_, hsame, rfl⟩, fun nx => ?_⟩
    · have e := Nat.div_add_mod p S
      rw [hpm] at e
      have hpe : p = r + (p / S) * S := by rw [Nat.mul_comm]; omega
      have hlt : p / S < k := by
        rcases Nat.lt_or_ge (p / S) k with h | h
        · exact h
        · exfalso
          have := Nat.mul_le_mul_right S h
          omega
      have := hdone (p / S) hlt (by omega)
      rw [← hpe] at this
      exact this
    · have hkS : k * S ≤ 4001 * 4000 := Nat.mul_le_mul (by omega) hS4
      have hcond : (decide ((IntKind.wrap .i64 ((r : Int) + (IntKind.wrap .i64 ((k : Int) * x.Size)))) < ((row f cap).length : Int))) = false := by
        rw [hx.1, show ((k : Int) * (S : Int)) = ((k * S : Nat) : Int) by simp, wrap64 (x := ((k * S : Nat) : Int)) (by omega) (by omega), wrap64 (by omega) (by omega), row_len]
        simp; omega
      unfold m39_L12
      rw [hcond]
      simp only [Bool.false_eq_true, if_false]
end
end Go.AB
