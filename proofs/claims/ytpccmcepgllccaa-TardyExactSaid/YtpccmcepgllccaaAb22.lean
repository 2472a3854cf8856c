/-
  AB, part 22: what arguments of a type read as, for any type of integers, booleans, strings, rows, structs and arrays.
-/
import Derived.Test.YtpccmcepgllccaaAb21
import Derived.Test.YtpccmcepgllccaaAb20
import Derived.ChangeArms
namespace Go.AB
open Go Go.ChangeShapes Go.WideShapes Go.ChangeAt Go.RowKit

/-- What the cells of a type read as. -/
def OpC (P : Program) (T : TypeId) {α : Type} (enc : α → List AV) (wf : α → Prop) : Prop :=
  ∀ (H : Type) (e : TypeId × Value → H) (W : World) (fuel : Nat) (cs : List Value) (x : DataW H × List MemPlace), DataW.trod e P W 0 (fun _ => true) true fuel T cs = some x →
    ∃ y, wf y ∧ cs.length = (enc y).length ∧ ∀ i (hi : i < (enc y).length), ∃ u, cs[i]? = some u ∧ VR W (oldZ W) noT ((enc y)[i]'hi) u

theorem one_row {W : World} {v : AV} {u : Value} (h : VR W (oldZ W) noT v u) : ∀ i (hi : i < [v].length), ∃ u', [u][i]? = some u' ∧ VR W (oldZ W) noT ([v][i]'hi) u' := fun i hi => by
  have : i = 0 := by simpa using hi
  subst this
  exact ⟨u, rfl, h⟩

theorem OpC.int {P : Program} {T : TypeId} {k : IntKind} (hT : P.underlying T = some (.int k)) : OpC P T (encI k) (fun n => (Lit.int k n).wf = true) := fun H e W fuel cs x h => by
  obtain ⟨n, rfl, _, hw⟩ := DataW.trod_int hT h
  exact ⟨n, hw, rfl, one_row (.sc _ _ _)⟩
theorem OpC.u8 {P : Program} {T : TypeId} (hT : P.underlying T = some (.int .u8)) : OpC P T enc8 (fun _ => True) := fun H e W fuel cs x h => by
  obtain ⟨n, rfl, _, hw⟩ := DataW.trod_int hT h
  have hb : 0 ≤ n ∧ n < 256 := by
    simp [Lit.wf, IntKind.min, IntKind.max, IntKind.signed, IntKind.bits] at hw
    omega
  refine ⟨UInt8.ofNat n.toNat, trivial, rfl, one_row ?_⟩
  have e2 : ((UInt8.ofNat n.toNat).toNat : Int) = n := by rw [UInt8.toNat_ofNat']; omega
  rw [e2]
  exact .sc _ _ _
theorem OpC.bool {P : Program} {T : TypeId} (hT : P.underlying T = some .bool) : OpC P T encB (fun _ => True) := fun H e W fuel cs x h => by
  obtain ⟨b, rfl, _⟩ := DataW.trod_bool hT h
  exact ⟨b, trivial, rfl, one_row (.sc _ _ _)⟩
theorem OpC.str {P : Program} {T : TypeId} (hT : P.underlying T = some .string) : OpC P T encS (fun s => s.length ≤ maxLen) := fun H e W fuel cs x h => by
  obtain ⟨s, rfl, _, hs⟩ := DataW.trod_string hT h
  refine ⟨s.data.toList, by simpa using hs, rfl, one_row ?_⟩
  have : mkS s.data.toList = s := by
    obtain ⟨d⟩ := s
    simp [mkS]
  rw [this]
  exact .sc _ _ _

/-- so many of them, each with what is asked of it -/
theorem list_of {α : Type} {Q : Nat → α → Prop} : ∀ n, (∀ i, i < n → ∃ y, Q i y) → ∃ ys : List α, ys.length = n ∧ ∀ i y, ys[i]? = some y → Q i y
  | 0, _ => ⟨[], rfl, fun i y h => by simp at h⟩
  | n + 1, h => by
    obtain ⟨ys, hl, hq⟩ := list_of n fun i hi => h i (by omega)
    obtain ⟨y, hy⟩ := h n (by omega)
    refine ⟨ys ++ [y], by simp [hl], fun i z hz => ?_⟩
    rcases Nat.lt_or_ge i ys.length with hi | hi
    · rw [List.getElem?_append_left hi] at hz; exact hq i z hz
    · rw [List.getElem?_append_right hi] at hz
      have hi' : i - ys.length < 1 := by
        have := (List.getElem?_eq_some_iff.1 hz).1
        simpa using this
      have e : i = n := by omega
      subst e
      rw [hl, Nat.sub_self] at hz
      simp at hz
      subst hz
      exact hy

/-- A row's cells, element by element. -/
theorem flat_cells {α : Type} {enc : α → List AV} {sz : Nat} (henc : ∀ y, (enc y).length = sz) (hpos : 0 < sz) {W : World} {Z : Zone} {ι : Tags} {f : Nat → Value} {ys : List α}
    (h : ∀ q y, ys[q]? = some y → ∀ r (hr : r < (enc y).length), VR W Z ι ((enc y)[r]'hr) (f (q * sz + r))) : ∀ i (hi : i < (ys.flatMap enc).length), VR W Z ι ((ys.flatMap enc)[i]'hi) (f i) := fun i hi => by
  have hl := flatMap_length henc ys
  have hi' : i < ys.length * sz := by omega
  have hq : i / sz < ys.length := Nat.div_lt_of_lt_mul (by rw [Nat.mul_comm]; exact hi')
  have hr : i % sz < sz := Nat.mod_lt _ hpos
  have hy : ys[i / sz]? = some ys[i / sz] := List.getElem?_eq_getElem hq
  have he := flatMap_at henc ys (i / sz) hy (i % sz) hr
  have hsplit : i / sz * sz + i % sz = i := by rw [Nat.mul_comm]; exact Nat.div_add_mod i sz
  rw [hsplit, List.getElem?_eq_getElem hi, List.getElem?_eq_getElem (by rw [henc]; exact hr)] at he
  rw [Option.some.inj he]
  have := h _ _ hy (i % sz) (by rw [henc]; exact hr)
  rwa [hsplit] at this

theorem OpC.slice {P : Program} {T E : TypeId} {α : Type} {enc : α → List AV} {wf : α → Prop} {sz : Nat} (hT : P.underlying T = some (.slice E)) (hc : P.cellsOf E = sz) (hpos : 0 < sz)
    (henc : ∀ y, (enc y).length = sz) (hE : OpC P E enc wf) : OpC P T (fun ys : List α => [.rd false ys.length (ys.flatMap enc)]) (fun ys => ys.length ≤ maxLen ∧ ∀ y, y ∈ ys → wf y) := fun H e W fuel cs x h => by
  rcases DataW.trod_slice hT h with ⟨rfl, _⟩ | ⟨a, len, cap, elems, rest, n, _, rfl, _, _, hl, hm, hlen, hel, hsp, _⟩
  · exact ⟨[], ⟨Nat.zero_le _, fun y hy => by cases hy⟩, rfl, one_row (.rdnil _ _ _ _)⟩
  · rcases Nat.eq_zero_or_pos cap with h0 | h0
    · subst h0
      have : len = 0 := by omega
      subst this
      exact ⟨[], ⟨Nat.zero_le _, fun y hy => by cases hy⟩, rfl, one_row (.rdnil _ _ _ _)⟩
    · have cell : ∀ q, q < cap → ∀ r, r < sz → ∃ u, W.cell? ((a.add (q * sz)).add r) = some u := by
        intro q hq r hr
        have hb : ∃ c, (W.cells? 0 (a.add (q * P.cellsOf E)) (P.cellsOf E)) = some c := by
          by_cases hi : q < len
          · have h1 := hel q hi
            rw [List.getElem?_eq_getElem (by omega)] at h1
            obtain ⟨c, hcc, _⟩ := Option.bind_eq_some_iff.1 h1
            exact ⟨c, hcc⟩
          · obtain ⟨hrl, hr'⟩ := hsp rfl
            have h1 := hr' (q - len) (by omega)
            rw [List.getElem?_eq_getElem (by omega), show len + (q - len) = q by omega] at h1
            obtain ⟨c, hcc, _⟩ := Option.bind_eq_some_iff.1 h1
            exact ⟨c, hcc⟩
        obtain ⟨c, hcc⟩ := hb
        rw [hc] at hcc
        obtain ⟨_, h2, h3⟩ := World.cells?_some hcc
        have h4 := h3 r hr
        rw [List.getElem?_eq_getElem (by omega)] at h4
        exact ⟨_, h4⟩
      have hspot : a.spot = none := by
        obtain ⟨u, hu⟩ := cell 0 h0 0 hpos
        rw [show (a.add (0 * sz)).add 0 = a by simp [Addr.add]] at hu
        unfold World.cell? at hu
        cases hs : a.spot with
        | none => rfl
        | some s =>
          rw [hs] at hu
          split at hu <;> simp at hu
      obtain ⟨b, off, sp⟩ := a
      simp only at hspot
      subst hspot
      have hq : ∀ q, q < len → ∃ y, wf y ∧ ∀ r (hr : r < (enc y).length), ∃ u, W.cell? ⟨b, off + (q * sz + r), none⟩ = some u ∧ VR W (oldZ W) noT ((enc y)[r]'hr) u := by
        intro q hq
        have h1 := hel q hq
        rw [List.getElem?_eq_getElem (by omega)] at h1
        obtain ⟨c, hcc, ht⟩ := Option.bind_eq_some_iff.1 h1
        obtain ⟨y, hy, hyl, hv⟩ := hE H e W n c _ ht
        refine ⟨y, hy, fun r hr => ?_⟩
        obtain ⟨u, hu, hvr⟩ := hv r hr
        rw [hc] at hcc
        have := (World.cells?_some hcc).2.2 r (by rw [henc] at hr; exact hr)
        refine ⟨u, ?_, hvr⟩
        rw [Addr.add_plain, Addr.add_plain] at this
        rw [← Nat.add_assoc, this, hu]
      obtain ⟨ys, hyl, hys⟩ := list_of len hq
      have hcl := flatMap_length henc ys
      refine ⟨ys, ⟨by rw [hyl]; omega, fun y hy => ?_⟩, rfl, one_row ?_⟩
      · obtain ⟨i, hi⟩ := List.getElem?_of_mem hy
        exact (hys i y hi).1
      · rw [hyl]
        have hcell : ∀ i, i < (ys.flatMap enc).length → W.cell? ⟨b, off + i, none⟩ = some ((W.cell? ⟨b, off + i, none⟩).getD undef) := by
          intro i hi
          have hi' : i < ys.length * sz := by omega
          have hq' : i / sz < len := by rw [← hyl]; exact Nat.div_lt_of_lt_mul (by rw [Nat.mul_comm]; exact hi')
          obtain ⟨u, hu⟩ := cell (i / sz) (by omega) (i % sz) (Nat.mod_lt _ hpos)
          rw [Addr.add_plain, Addr.add_plain, Nat.add_assoc, show i / sz * sz + i % sz = i by rw [Nat.mul_comm]; exact Nat.div_add_mod i sz] at hu
          rw [hu]
          rfl
        refine .rd _ _ false len _ b off cap (fun i => (W.cell? ⟨b, off + i, none⟩).getD undef) (fun hne => ?_) hl hm hcell ?_
        · have : 0 < (ys.flatMap enc).length := by
            rcases Nat.eq_zero_or_pos (ys.flatMap enc).length with h1 | h1
            · exact absurd (List.length_eq_zero_iff.1 h1) hne
            · exact h1
          exact cell_lt (hcell 0 this)
        · refine flat_cells henc hpos fun q y hy r hr => ?_
          obtain ⟨u, hu, hv⟩ := (hys q y hy).2 r hr
          rw [hu]
          exact hv

/-- The types of a struct's fields, one behind the other. -/
inductive OpF (P : Program) : List TypeId → {σ : Type} → (σ → List AV) → (σ → Prop) → Prop
  | nil : OpF P [] (σ := Unit) (fun _ => []) (fun _ => True)
  | cons {T : TypeId} {Ts : List TypeId} {α σ : Type} {enc : α → List AV} {wf : α → Prop} {avs : σ → List AV} {wfs : σ → Prop} (h : OpC P T enc wf) (t : OpF P Ts avs wfs) :
      OpF P (T :: Ts) (σ := α × σ) (fun x => enc x.1 ++ avs x.2) (fun x => wf x.1 ∧ wfs x.2)

/-- fields without gaps, from k on -/
def consec (P : Program) : Nat → List Field → Option Nat
  | k, [] => some k
  | k, f :: fs => if f.offset = k then consec P (k + P.cellsOf f.type) fs else none

theorem consec_le {P : Program} : ∀ {fs : List Field} {k n : Nat}, consec P k fs = some n → k ≤ n
  | [], k, n, h => by cases h; exact Nat.le_refl _
  | f :: fs, k, n, h => by
    unfold consec at h
    split at h
    · have := consec_le h; omega
    · cases h

theorem OpF.open {P : Program} {Ts : List TypeId} {σ : Type} {avs : σ → List AV} {wfs : σ → Prop} (h : OpF P Ts avs wfs) {H : Type} {e : TypeId × Value → H} {W : World} {m : Nat} {cs : List Value} :
    ∀ {fs : List Field} {k n : Nat}, fs.map (·.type) = Ts → consec P k fs = some n → cs.length = n →
      (∀ f, f ∈ fs → ∃ x, DataW.trod e P W 0 (fun _ => true) true m f.type ((cs.drop f.offset).take (P.cellsOf f.type)) = some x) →
      ∃ x, wfs x ∧ k + (avs x).length = n ∧ ∀ i (hi : i < (avs x).length), ∃ u, cs[k + i]? = some u ∧ VR W (oldZ W) noT ((avs x)[i]'hi) u := by
  induction h with
  | nil =>
    intro fs k n hf hk hl _
    have : fs = [] := by simpa using hf
    subst this
    cases hk
    exact ⟨(), trivial, rfl, fun i hi => absurd hi (by simp)⟩
  | @cons T Ts α σ enc wf avs wfs h t ih =>
    intro fs k n hf hk hl hall
    match fs, hf with
    | f :: fs, hf0 =>
      simp only [List.map_cons, List.cons.injEq] at hf0
      obtain ⟨rfl, hf1⟩ := hf0
      unfold consec at hk
      split at hk
      · rename_i hoff
        have hle := consec_le hk
        obtain ⟨x0, hx0⟩ := hall f (by simp)
        obtain ⟨y, hy, hyl, hv⟩ := h H e W m _ _ hx0
        obtain ⟨x, hx, hxl, hvs⟩ := ih hf1 hk hl fun g hg => hall g (by simp [hg])
        have hn : (enc y).length = P.cellsOf f.type := by
          rw [← hyl, List.length_take, List.length_drop]
          omega
        refine ⟨(y, x), ⟨hy, hx⟩, by simp only [List.length_append]; omega, fun i hi => ?_⟩
        rcases Nat.lt_or_ge i (enc y).length with hlt | hge
        · obtain ⟨u, hu, hvr⟩ := hv i hlt
          refine ⟨u, ?_, by rw [List.getElem_append_left hlt]; exact hvr⟩
          rw [List.getElem?_take_of_lt (by omega), List.getElem?_drop, hoff] at hu
          exact hu
        · obtain ⟨u, hu, hvr⟩ := hvs (i - (enc y).length) (by simp only [List.length_append] at hi; omega)
          refine ⟨u, ?_, by rw [List.getElem_append_right hge]; exact hvr⟩
          rw [← hn, show k + (enc y).length + (i - (enc y).length) = k + i by omega] at hu
          exact hu
      · cases hk

theorem OpC.struct {P : Program} {T : TypeId} {fs : Array Field} {Ts : List TypeId} {σ R : Type} {avs : σ → List AV} {wfs : σ → Prop} {enc : R → List AV} {wf : R → Prop} (hT : P.underlying T = some (.struct fs))
    (hfs : fs.toList.map (·.type) = Ts) (hk : consec P 0 fs.toList = some (P.cellsOf T)) (h : OpF P Ts avs wfs) (mk : σ → R) (he : ∀ x, enc (mk x) = avs x) (hw : ∀ x, wfs x → wf (mk x)) : OpC P T enc wf :=
  fun H e W fuel cs x hx => by
    obtain ⟨xs, n, rfl, _, hl, hxl, hall⟩ := DataW.trod_struct hT hx
    obtain ⟨y, hy, hyl, hv⟩ := h.open (cs := cs) hfs hk hl fun f hf => by
      obtain ⟨i, hi⟩ := List.getElem?_of_mem hf
      have hi' : fs[i]? = some f := by simpa using hi
      have h1 := hall i f hi'
      have : i < xs.length := by
        rw [hxl]
        exact (Array.getElem?_eq_some_iff.1 hi').1
      rw [List.getElem?_eq_getElem this] at h1
      exact ⟨_, h1⟩
    refine ⟨mk y, hw y hy, by rw [he]; omega, fun i hi => ?_⟩
    have hi' : i < (avs y).length := by rw [he] at hi; exact hi
    obtain ⟨u, hu, hvr⟩ := hv i hi'
    refine ⟨u, by simpa using hu, ?_⟩
    have : (enc (mk y))[i]'hi = (avs y)[i]'hi' := by
      have h1 : (enc (mk y))[i]? = (avs y)[i]? := by rw [he]
      rw [List.getElem?_eq_getElem hi, List.getElem?_eq_getElem hi'] at h1
      exact Option.some.inj h1
    rw [this]
    exact hvr

theorem mapM_some_at {α β : Type} {f : α → Option β} : ∀ {l : List α} {r : List β}, l.mapM f = some r → r.length = l.length ∧ ∀ (i : Nat) (a : α), l[i]? = some a → f a = r[i]?
  | [], r, h => by
    simp at h
    subst h
    exact ⟨rfl, fun i a h => by simp at h⟩
  | a :: l, r, h => by
    rw [List.mapM_cons] at h
    cases hf : f a with
    | none => rw [hf] at h; simp at h
    | some b =>
      cases hr : l.mapM f with
      | none => rw [hf, hr] at h; simp at h
      | some r' =>
        rw [hf, hr] at h
        simp at h
        subst h
        obtain ⟨h1, h2⟩ := mapM_some_at hr
        refine ⟨by simp [h1], fun i c hc => ?_⟩
        cases i with
        | zero => simp at hc; subst hc; simpa using hf
        | succ i => simpa using h2 i c (by simpa using hc)

theorem OpC.array {P : Program} {T E : TypeId} {n : Nat} {α : Type} {enc : α → List AV} {wf : α → Prop} {sz : Nat} (hT : P.underlying T = some (.array n E)) (hc : P.cellsOf E = sz) (hcT : P.cellsOf T = n * sz) (hpos : 0 < sz)
    (henc : ∀ y, (enc y).length = sz) (hE : OpC P E enc wf) : OpC P T (fun ys : List α => ys.flatMap enc) (fun ys => ys.length = n ∧ ∀ y, y ∈ ys → wf y) := fun H e W fuel cs x h => by
  have key : ∃ m xs, cs.length = P.cellsOf T ∧ ((List.range n).mapM fun i => DataW.trod e P W 0 (fun _ => true) true m E ((cs.drop (i * P.cellsOf E)).take (P.cellsOf E))) = some xs := by
    cases fuel with
    | zero => simp [DataW.trod] at h
    | succ m =>
      unfold DataW.trod at h
      rw [hT] at h
      simp only at h
      split at h
      · rename_i hl
        rw [Option.map_eq_some_iff] at h
        obtain ⟨xs, hxs, _⟩ := h
        exact ⟨m, xs, hl, hxs⟩
      · cases h
  obtain ⟨m, xs, hl, hx⟩ := key
  obtain ⟨hxl, hat⟩ := mapM_some_at hx
  have hq : ∀ q, q < n → ∃ y, wf y ∧ ∀ r (hr : r < (enc y).length), ∃ u, cs[q * sz + r]? = some u ∧ VR W (oldZ W) noT ((enc y)[r]'hr) u := by
    intro q hq
    have h1 := hat q q (by simp [hq])
    rw [List.getElem?_eq_getElem (by rw [hxl]; simpa using hq)] at h1
    obtain ⟨y, hy, hyl, hv⟩ := hE H e W m _ _ h1
    refine ⟨y, hy, fun r hr => ?_⟩
    obtain ⟨u, hu, hvr⟩ := hv r hr
    rw [hc, List.getElem?_take_of_lt (by rw [henc] at hr; exact hr), List.getElem?_drop] at hu
    exact ⟨u, hu, hvr⟩
  obtain ⟨ys, hyl, hys⟩ := list_of n hq
  have hcl := flatMap_length henc ys
  refine ⟨ys, ⟨hyl, fun y hy => ?_⟩, by rw [hcl, hl, hcT, hyl], fun i hi => ?_⟩
  · obtain ⟨i, hi⟩ := List.getElem?_of_mem hy
    exact (hys i y hi).1
  · have hlt : i < cs.length := by rw [hl, hcT]; rw [hcl, hyl] at hi; exact hi
    refine ⟨cs[i], List.getElem?_eq_getElem hlt, ?_⟩
    have := flat_cells (W := W) (Z := oldZ W) (ι := noT) (f := fun i => cs[i]?.getD undef) henc hpos (ys := ys) (fun q y hy r hr => by
      obtain ⟨u, hu, hv⟩ := (hys q y hy).2 r hr
      rw [hu]
      exact hv) i hi
    rw [List.getElem?_eq_getElem hlt] at this
    exact this

/-- an argument of one cell -/
theorem OpC.opens {P : Program} {T : TypeId} {α : Type} {av : α → AV} {wf : α → Prop} (hT : ∃ D, P.underlying T = some D ∧ match D with | .int _ => True | .bool => True | .string => True | .slice _ => True | _ => False)
    (h : OpC P T (fun y => [av y]) wf) : Opens P T av wf := fun H e W base v d ps hval hd => by
  obtain ⟨fuel, hf⟩ := hd
  obtain ⟨y, hy, hl, hv⟩ := h H e W fuel _ _ hf
  obtain ⟨u, hu, hvr⟩ := hv 0 (by simp)
  refine ⟨y, hy, ?_⟩
  obtain ⟨D, hD, hm⟩ := hT
  have hcells : v.cells.toList = [v] := by
    cases v with
    | agg cs => simp only [Value.okWide, hD] at hval; cases D <;> simp_all [Cell.okWide, Cell.ok]
    | tuple vs => simp only [Value.okWide, hD] at hval; cases D <;> simp_all [Cell.okWide, Cell.ok]
    | _ => rfl
  rw [hcells] at hu
  cases hu
  exact hvr
theorem OpC.aggs {P : Program} {T : TypeId} {α : Type} {enc : α → List AV} {wf : α → Prop} (hT : ∃ D, P.underlying T = some D ∧ match D with | .struct _ => True | .array _ _ => True | _ => False)
    (h : OpC P T enc wf) : Opens P T (fun y => .agg (enc y)) wf := fun H e W base v d ps hval hd => by
  obtain ⟨fuel, hf⟩ := hd
  obtain ⟨D, hD, hm⟩ := hT
  have hv0 : ∃ cs, v = .agg cs := by
    simp only [Value.okWide, hD] at hval
    cases D with
    | struct fs => obtain ⟨cs, hcs, _⟩ := hval; exact ⟨cs, hcs⟩
    | array n E => obtain ⟨cs, hcs, _⟩ := hval; exact ⟨cs, hcs⟩
    | _ => exact absurd hm (by simp)
  obtain ⟨cs, rfl⟩ := hv0
  obtain ⟨y, hy, hl, hv⟩ := h H e W fuel _ _ hf
  refine ⟨y, hy, ?_⟩
  have hcs : (Value.agg cs).cells.toList = cs.toList := rfl
  rw [hcs] at hl hv
  have := VR.agg (w := W) (oldZ W) noT (enc y) cs.toList hl fun i hi => by
    obtain ⟨u, hu, hvr⟩ := hv i hi
    rw [List.getElem?_eq_getElem (by omega)] at hu
    rw [Option.some.inj hu]
    exact hvr
  simpa using this
end Go.AB
