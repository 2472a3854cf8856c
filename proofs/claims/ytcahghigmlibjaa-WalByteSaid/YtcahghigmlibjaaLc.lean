import Derived.Test.YtcahghigmlibjaaLb
namespace Go.AB
open Go

theorem set_drop {α : Type} {l D : List α} {i : Nat} {c : α} (hl : i < l.length) (ht : l.drop (i + 1) = D.drop (i + 1)) (hD : i < D.length) (hc : D[i]? = some c) : (l.set i c).drop i = D.drop i := by
  rw [List.drop_eq_getElem_cons (by simpa using hl), List.drop_eq_getElem_cons hD]
  have h1 : D[i] = c := by rw [List.getElem?_eq_getElem hD] at hc; exact Option.some.inj hc
  rw [List.getElem_set_self, h1, ← ht, List.drop_set_of_lt (by omega)]

theorem m39_val {n v : Nat} (hv : v < 18446744073709551616) (hn : 9 < n) : m39 n (v : Int) = some (B 8 v) := by
  unfold m39 jn
  rw [mk_val (l := (8 : Int)) (c := (8 : Int)) (k := 8) rfl rfl (by decide)]
  simp only [Option.bind_some]
  refine loopM_ind (fun i s => ∃ j l, j ≤ 8 ∧ i = 8 - j ∧ s = (((v / 256 ^ j : Nat) : Int), (7 - (j : Int)), l) ∧ l.length = 8 ∧ l.drop (8 - j) = (B 8 v).drop (8 - j)) (fun o => o = some (B 8 v)) ?_ n 8 _
    ⟨0, _, Nat.zero_le _, rfl, by simp; rfl, by simp, by rw [List.drop_of_length_le (by simp), List.drop_of_length_le (by rw [B_len]; exact Nat.le_refl _)]⟩ (by omega)
  rintro i _ ⟨j, l, hj, rfl, rfl, hl, hd⟩
  rcases Nat.lt_or_ge j 8 with h | h
  · refine .inl ⟨8 - (j + 1), (((v / 256 ^ (j + 1) : Nat) : Int), (7 - ((j + 1 : Nat) : Int)), l.set (7 - j) (UInt8.ofNat (v / 256 ^ j % 256))), by omega, ⟨j + 1, _, h, rfl, rfl, by simp [hl], ?_⟩, fun nx => ?_⟩
    · rw [show 8 - (j + 1) = 7 - j from by omega]
      refine set_drop (by omega) (by rw [show 7 - j + 1 = 8 - j from by omega]; exact hd) (by rw [B_len]; omega) ?_
      rw [B_at 8 v (7 - j) (by omega), show 8 - 1 - (7 - j) = j from by omega]
    · rw [m39_L1]
      have hi : (7 - (j : Int)) = ((7 - j : Nat) : Int) := by omega
      simp only [show (decide ((0 : Int) ≤ 7 - (j : Int))) = true from by simp; omega, if_true, getIdx_at hi (show 7 - j < l.length by omega), setIdx_at hi (show 7 - j < l.length by omega), Option.bind_some, letM]
      have hq : v / 256 ^ j < 18446744073709551616 := Nat.lt_of_le_of_lt (Nat.div_le_self _ _) hv
      rw [show (256 : Int) = ((256 : Nat) : Int) from rfl, tmod_nat, tdiv_nat, wrapN8, wrapN, b8N, Nat.mod_mod, Nat.mod_mod, Nat.mod_eq_of_lt (a := v / 256 ^ j / 256) (by omega),
        wrap64 (by omega) (by omega), Nat.div_div_eq_div_mul, ← Nat.pow_succ]
      congr 3
      omega
  · refine .inr ⟨_, rfl, fun nx => ?_⟩
    have : j = 8 := by omega
    subst this
    rw [m39_L1]
    simp at hd
    simp [hd]

/-- a frame's head -/
def hdr (k : Nat) : List UInt8 := [245, UInt8.ofNat (k / 256), UInt8.ofNat (k % 256), UInt8.ofNat (255 - k / 256), UInt8.ofNat (255 - k % 256)]
/-- a frame -/
def frm (c : Nat) (r : List UInt8) : List UInt8 := hdr r.length ++ r ++ B 8 (nx c r)
theorem frm_len (c : Nat) (r : List UInt8) : (frm c r).length = 13 + r.length := by simp [frm, hdr, B_len]; omega

theorem not8 {x : Nat} (h : x < 256) : xorI .u8 (if IntKind.signed .u8 then -1 else IntKind.max .u8) ((x : Nat) : Int) = ((255 - x : Nat) : Int) := by
  have : ∀ y : Fin 256, xorI .u8 (if IntKind.signed .u8 then -1 else IntKind.max .u8) ((y.val : Nat) : Int) = ((255 - y.val : Nat) : Int) := by decide +kernel
  exact this ⟨x, h⟩
theorem shr8 (x : Nat) : shrI .i64 (x : Int) 8 = ((x / 256 : Nat) : Int) := by
  unfold shrI
  show Int.fdiv (x : Int) (2 ^ min 8 64) = _
  rw [Int.fdiv_eq_ediv_of_nonneg _ (by decide)]
  simp

theorem m29_val {n c : Nat} {r : List UInt8} (hc : c < 18446744073709551616) (hr : r.length ≤ 4000) (hn : 4010 < n) : m29 n (c : Int) r = some (frm c r) := by
  have hh : ([(245 : UInt8), (b8 (IntKind.wrap .u8 (shrI .i64 (r.length : Int) (8 : Int)))), (b8 (IntKind.wrap .u8 (r.length : Int))), (b8 (xorI .u8 (if IntKind.signed .u8 then -1 else IntKind.max .u8) (IntKind.wrap .u8 (shrI .i64 (r.length : Int) (8 : Int))))), (b8 (xorI .u8 (if IntKind.signed .u8 then -1 else IntKind.max .u8) (IntKind.wrap .u8 (r.length : Int))))] : List UInt8) = hdr r.length := by
    rw [shr8, wrapN8, wrapN8, not8 (by omega), not8 (by omega), b8N, b8N, b8N, b8N]
    unfold hdr
    rw [Nat.mod_eq_of_lt (a := r.length / 256) (by omega), Nat.mod_eq_of_lt (a := r.length / 256) (by omega), Nat.mod_mod, Nat.mod_eq_of_lt (a := 255 - r.length / 256) (by omega), Nat.mod_eq_of_lt (a := 255 - r.length % 256) (by omega)]
  unfold m29 letM jn
  rw [hh]
  dsimp only
  rw [apd_val (by simp [hdr]; omega)]
  simp only [Option.bind_some]
  rw [m36_nx hc (by omega) (by omega)]
  simp only [Option.bind_some]
  have hy := nx_lt c r
  generalize hv : nx c r = v at hy
  have hf : frm c r = (hdr r.length ++ r) ++ B 8 v := by rw [frm, hv]
  refine loopM_ind (fun i s => ∃ j, j ≤ 8 ∧ i = 8 - j ∧ s = ((7 - (j : Int)), (hdr r.length ++ r) ++ (B 8 v).take j)) (fun o => o = some (frm c r)) ?_ n 8 _ ⟨0, Nat.zero_le _, rfl, by simp⟩ (by omega)
  rintro i _ ⟨j, hj, rfl, rfl⟩
  rcases Nat.lt_or_ge j 8 with h | h
  · refine .inl ⟨8 - (j + 1), ((7 - ((j + 1 : Nat) : Int)), (hdr r.length ++ r) ++ (B 8 v).take (j + 1)), by omega, ⟨j + 1, h, rfl, rfl⟩, fun nx => ?_⟩
    rw [m29_L1]
    have hi : (7 - (j : Int)) = ((7 - j : Nat) : Int) := by omega
    have hbj : j < (B 8 v).length := by rw [B_len]; exact h
    have hat := B_at 8 v j h
    rw [show 8 - 1 - j = 7 - j from by omega] at hat
    have he : b8 (IntKind.wrap .u8 (shrI .u64 (v : Int) (IntKind.wrap .i64 (8 * (7 - (j : Int)))))) = (B 8 v)[j] := by
      rw [List.getElem?_eq_getElem hbj] at hat
      rw [Option.some.inj hat, hi, sh_byte (by omega)]
    simp only [show (decide ((0 : Int) ≤ 7 - (j : Int))) = true from by simp; omega, if_true]
    rw [he]
    unfold asrt
    rw [if_pos (by rw [wrap64 (by omega) (by omega)]; omega), apd_val (by simp [hdr]; omega)]
    simp only [Option.bind_some, letM]
    rw [wrap64 (by omega) (by omega), List.append_assoc, ← List.take_succ_eq_append_getElem hbj]
    congr 2
    omega
  · refine .inr ⟨_, rfl, fun nx => ?_⟩
    have : j = 8 := by omega
    subst this
    rw [m29_L1, hf]
    simp
    exact List.take_of_length_le (by rw [B_len]; exact Nat.le_refl _)

theorem m31_val {n c : Nat} {r : List UInt8} (hc : c < 18446744073709551616) (hr : r.length ≤ 4000) (hn : 4010 < n) : m31 n (c : Int) r = some (frm c r, ((nx c r : Nat) : Int)) := by
  unfold m31 letM
  have h1 : b8 (IntKind.wrap .u8 (IntKind.wrap .i64 ((r.length : Int).tdiv (256 : Int)))) = UInt8.ofNat (r.length / 256) := by
    rw [show (256 : Int) = ((256 : Nat) : Int) from rfl, tdiv_nat, wrap64 (by omega) (by omega), wrapN8, b8N, Nat.mod_mod, Nat.mod_eq_of_lt (by omega)]
  have h2 : b8 (IntKind.wrap .u8 ((r.length : Int).tmod (256 : Int))) = UInt8.ofNat (r.length % 256) := by
    rw [show (256 : Int) = ((256 : Nat) : Int) from rfl, tmod_nat, wrapN8, b8N, Nat.mod_mod, Nat.mod_mod]
  have h3 : ∀ x : Nat, x < 256 → b8 (IntKind.wrap .u8 ((255 : Int) - ((UInt8.ofNat x).toNat : Int))) = UInt8.ofNat (255 - x) := by
    intro x hx
    have e : (UInt8.ofNat x).toNat = x := by simp; omega
    rw [e, show (255 : Int) - (x : Int) = ((255 - x : Nat) : Int) from by omega, wrapN8, b8N, Nat.mod_mod, Nat.mod_eq_of_lt (by omega)]
  rw [h1, h2]
  dsimp only
  rw [h3 _ (by omega), h3 _ (by omega), m38_nx hc (by omega) (by omega)]
  simp only [Option.bind_some]
  rw [show ([(245 : UInt8), UInt8.ofNat (r.length / 256), UInt8.ofNat (r.length % 256), UInt8.ofNat (255 - r.length / 256), UInt8.ofNat (255 - r.length % 256)] : List UInt8) = hdr r.length from rfl,
    apd_val (by simp [hdr]; omega)]
  simp only [Option.bind_some]
  rw [m39_val (nx_lt _ _) (by omega)]
  simp only [Option.bind_some]
  rw [apd_val (by simp [hdr, B_len]; omega)]
  rfl
end Go.AB
