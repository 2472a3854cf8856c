import Derived.Test.YtiginjokbkemcaaGreatBd
import Derived.Laws.CopyRow
import Derived.Laws.IdiomCopy
namespace Go.AB
open Go
abbrev cxY (P : Program) (N : Nat) (K : List Nat) (ι0 : Tags) (d : ItD) : Ctx := ⟨P,none,N,[],d.w0,d.Zs,d.Zb,d.T0,K,ι0⟩
section
variable {E X : Type} {P : Program} {N : Nat} {K : List Nat} {ι0 : Tags} {xs tail : List E} {xf : X} {Zs Zb : Nat → Prop} {J : List E → (Nat → Prop) → (Nat → Prop) → World → Prop} {Jx : (Nat → Prop) → (Nat → Prop) → World → Prop}
end
section
variable {R ω : Type} {φ : Fam (Option R)} {A : Array Oper} {l : List Oper} {g : Option R} {s s1 s2 : St} {OK : ω → Prop} {S : ω → Option R × St}
end
section
variable {E X : Type} {P : Program} {N : Nat} {K : List Nat} {ι0 : Tags} {xs tail : List E} {xf : X} {Zs Zb : Nat → Prop} {J : List E → (Nat → Prop) → (Nat → Prop) → World → Prop} {Jx : (Nat → Prop) → (Nat → Prop) → World → Prop}
structure KeepJ (own rest : Nat → Prop) (zo : Bool → Nat → Prop) (I0 : Nat → Prop) (w : World) (J : (Nat → Prop) → (Nat → Prop) → World → Prop) (O I : Nat → Prop) (W : World) : Prop where
  j : J (fun b => O b ∨ rest b) (fun b => I b ∨ I0 b) W
  kept : Kept (fun b => rest b ∨ zo false b ∨ zo true b) w W
  oo : ∀ b,O b → own b ∨ w.heap.size ≤ b
  oi : ∀ b,I b → own b ∨ w.heap.size ≤ b
end
section
variable {F : Fence} {n : Nat} {P : Program} {Q : Exit → Act → World → Prop} {l : List Oper} {b : Nat}
end
section
variable {F : Fence} {n : Nat} {P : Program} {ops : Array Oper} {md : Region.Mode}
end
section
variable {E X : Type} {P : Program} {N : Nat} {K : List Nat} {ι0 : Tags} {xs tail : List E} {xf : X} {Zs Zb : Nat → Prop} {J : List E → (Nat → Prop) → (Nat → Prop) → World → Prop} {Jx : (Nat → Prop) → (Nat → Prop) → World → Prop} {A : Array Oper} {ol : List Oper} {s : St}
end
section
variable {R X1 : Type} {φ : Fam (Option R)} {g : Option R} {s s1 : St} {Q : Exit → Option R → St → Prop} {id b : Nat} {l : List Oper} {q : R}
end
end Go.AB
namespace Go.AB
open Go
section
variable {C : Ctx} {d : Nat} {ty : TypeId} {p : String} {e : Array Edge} {g : Option (Nat × Bool)} {s : St}
theorem ownc_own {w : World} {Z : Zone} {ι : Tags} {t sz n c : Nat} {u : Value} (h : VR w Z ι (.ownc t sz n c) u) : VR w Z ι (.own t sz 0 n) u := by
  cases h with
  | ownc _ _ _ _ _ b _ q ht hn hc hs ho => exact .own _ _ _ _ _ _ b c q ht hn hc hs (by omega)
theorem Ev.ofC {x : Operand} {t sz n c : Nat} (h : Ev C s x (.ownc t sz n c)) : Ev C s x (.own t sz 0 n) := fun ι a w r => ownc_own (h ι a w r)
theorem AStep.makeC {α : Type} {enc : α → List AV} {y0 : α} {x y : Operand} {T E : TypeId} {t sz by_ : Nat} {z : List Value} {k k' : IntKind} {l c : Int} (hd : d < C.N) (hK : t ∉ C.K)
    (hx : Ev C s x (.sc (.int k l))) (hy : Ev C s y (.sc (.int k' c))) (hT : C.P.underlying T = some (.slice E)) (hz : zeroT C.P E z) (hE : elT C.P E sz by_) (h0 : enc y0 = z.map .sc)
    (henc : ∀ y,(enc y).length = sz) (h1 : 0 ≤ l) (h2 : l ≤ c) (h3 : (by_ : Int) * c ≤ 281474976710656) (h4 : c ≤ 9223372036854775807) :
    AStep C ⟨some d,.makeSlice T x y,ty,p,e,g⟩ s (s.newP d t ⟨E,true,(List.replicate l.toNat y0).flatMap enc⟩ (.ownc t sz l.toNat c.toNat)) :=
  .run (fun _ h => by cases h) fun ι a w r => by
    obtain ⟨i,v,hi,hv,hvz,hsz⟩ := hz
    obtain ⟨i',v',hi',hv',hsz',hby,_⟩ := hE
    rw [hi] at hi'
    cases hi'
    rw [hv] at hv'
    cases hv'
    have hrun := run_make (P := C.P) w T E i v hT hi hv k k' l c h1 h2 (by rw [hby]; exact h3) h4
    refine ⟨_,_,setT ι t w.heap.size,by simp only [execOp,hx.sc r,hy.sc r,Sem.run_bind,hrun]; rfl,?_⟩
    have hle : l.toNat ≤ c.toNat := by omega
    have hcs : (madeCells v.cells (c.toNat * i.size)).size = c.toNat * i.size := size_madeCells _ _
    have hlen : ((List.replicate l.toNat y0).flatMap enc).length = l.toNat * sz := by rw [flatMap_length henc]; simp
    refine r.newL hd hK rfl rfl rfl rfl ?_ ?_ ?_
    · rw [hcs,hlen,hsz']; exact Nat.mul_le_mul_right _ hle
    · intro j hj
      rw [hlen] at hj
      have hpos : 0 < sz := by
        rcases Nat.eq_zero_or_pos sz with h | h
        · rw [h] at hj; omega
        · exact h
      have hq : j / sz < l.toNat := (Nat.div_lt_iff_lt_mul hpos).2 hj
      have hr : j % sz < sz := Nat.mod_lt _ hpos
      have hz1 : z.length = sz := by have := henc y0; rw [h0] at this; simpa using this
      have e1 := flatMap_at henc (List.replicate l.toNat y0) (j / sz) (y := y0) (by rw [List.getElem?_replicate,if_pos hq]) (j % sz) hr
      have e2 : j / sz * sz + j % sz = j := by rw [Nat.mul_comm]; exact Nat.div_add_mod j sz
      rw [e2,h0] at e1
      have hzl : j % sz < z.length := by omega
      have e3 : ((List.replicate l.toNat y0).flatMap enc)[j]'(by rw [hlen]; exact hj) = .sc z[j % sz] := by
        rw [List.getElem?_eq_getElem (by rw [hlen]; exact hj)] at e1
        simp [hzl] at e1
        exact e1
      refine ⟨z[j % sz],?_,by rw [e3]; exact .sc _ _ _⟩
      have hlt : j < c.toNat * i.size := by rw [hsz']; exact Nat.lt_of_lt_of_le hj (Nat.mul_le_mul_right _ hle)
      have hvs : v.cells.size = sz := by rw [← Array.length_toList,hvz,hz1]
      simp only [madeCells,Array.getElem?_map]
      rw [Array.getElem?_eq_getElem (by simpa using hlt)]
      simp only [Array.getElem_range,Option.map_some,hvs]
      have : v.cells[j % sz]! = z[j % sz] := by
        have hb : j % sz < v.cells.size := by omega
        rw [getElem!_pos v.cells _ hb]
        have : v.cells[j % sz] = v.cells.toList[j % sz]'(by simpa using hb) := by simp
        rw [this]
        simp only [hvz]
      rw [this]
    · intro hb
      exact .ownc _ _ _ _ _ w.heap.size c.toNat _ (by simp [setT]) hle (by simp only [maxLen]; omega) hb (by rw [hcs,hsz']; exact Nat.le_refl _)
theorem AStep.mkC {α : Type} {enc : α → List AV} {y0 : α} {x y : Operand} {T E : TypeId} {t sz by_ : Nat} {z : List Value} {k k' : IntKind} {l c : Int} {zs : List α} (hd : d < C.N) (hK : t ∉ C.K)
    (hx : Ev C s x (.sc (.int k l))) (hy : Ev C s y (.sc (.int k' c))) (hT : C.P.underlying T = some (.slice E)) (hz : zeroT C.P E z) (hE : elT C.P E sz by_) (h0 : enc y0 = z.map .sc)
    (henc : ∀ y,(enc y).length = sz) (hb : by_ ≤ 128) (hm : mk y0 l c = some zs) :
    AStep C ⟨some d,.makeSlice T x y,ty,p,e,g⟩ s (s.newP d t ⟨E,true,zs.flatMap enc⟩ (.ownc t sz zs.length c.toNat)) := by
  obtain ⟨h1,h2,h3,rfl,h5⟩ := mkS' hm
  rw [h5]
  have hbc : (by_ : Int) * c ≤ 128 * 1099511627776 := by
    have : (by_ : Int) ≤ 128 := by omega
    exact Int.mul_le_mul this h3 (by omega) (by omega)
  exact AStep.makeC hd hK hx hy hT hz hE h0 henc h1 h2 (by omega) (by omega)
theorem AStep.appendC {x y : Operand} {T U E : TypeId} {t sz by_ n m c : Nat} {cells ys : List AV} (hd : d < C.N) (hx : Ev C s x (.ownc t sz n c)) (hy : Src C s y sz m ys)
    (hT : C.P.underlying T = some (.slice E)) (hU : ∃ D,C.P.underlying U = some D ∧ ∀ k,D ≠ .int k) (hE : elT C.P E sz by_) (hk : look t s.heap = some ⟨E,true,cells⟩)
    (hl : n * sz ≤ cells.length) (hroom : n + m ≤ c) (h63 : n + m ≤ maxLen) (hbytes : (n + m) * by_ ≤ 140737488355328) :
    AStep C ⟨some d,.call { callee := .builtin .append,args := #[x,y],argTypes := #[T,U] },ty,p,e,g⟩ s ⟨(d,.ownc t sz (n + m) c) :: s.env,updH t ⟨E,true,cells.take (n * sz) ++ ys⟩ s.heap⟩ :=
  .run (fun _ h => by cases h) fun ι a w r => by
    obtain ⟨i,z,hi,hz,hsz,hby,hzs⟩ := hE
    subst hsz hby
    obtain ⟨news,n1,n2,n3,n4,n5,n6⟩ := hy ι a w r
    have hexec : ∀ base c,a.eval x = .slice base n c → (execOp a.eval ⟨some d,.call { callee := .builtin .append,args := #[x,y],argTypes := #[T,U] },ty,p,e,g⟩).run C.P w =
        ((Builtin.append_ #[T,U] ty #[.slice base n c,a.eval y]).run C.P w).andThen fun v w' => .ok (.value v) w' := by
      intro base c hu
      simp [execOp,resolve,invoke,builtin,hu]
    have hany := fun base c olds => run_append_any (ty := ty) hT hi hz hU base n c (a.eval y) m news olds n1 n2
    have hxv := hx ι a w r
    generalize hu : a.eval x = u0 at hxv
    cases hxv with
    | ownc _ _ _ _ _ b _ q ht hn hc hs ho =>
    obtain ⟨cur,hb,hlc,hcv⟩ := blk_inv r.core hk ht
    simp only [cond_true] at hcv hlc hb
    have hq : q = cur.size := by simp only [bsz,hb] at hs; exact (Option.some.inj hs).symm
    subst hq
    have hfit : 0 + n * i.size + news.length ≤ cur.size := by
      have : (n + m) * i.size ≤ c * i.size := Nat.mul_le_mul_right _ hroom
      rw [Nat.add_mul] at this
      omega
    have hstc := run_storeCells_at C.P b (n * i.size) E news 0 cur w hb (by omega) n5
    have h := (hany (some ⟨b,0,none⟩) c ((cur.toList.take (n * i.size))) (fun w' hw' => firstCells_some (by simp; omega) fun j hj => by
      rw [cell?_heap hw',cell_of_row w b (0 + j) cur E (0,0) hb,List.getElem?_take,if_pos hj]; simp) h63 hbytes).1 hroom
    refine ⟨.slice (some ⟨b,0,none⟩) (n + m) c,w.setRow b (cur.toList.take (n * i.size + 0) ++ news ++ cur.toList.drop (n * i.size + 0 + news.length)).toArray,ι,?_,?_⟩
    · rw [hexec _ c hu,h]
      simp only [Addr.add_plain,Nat.zero_add]
      rw [hstc]
      rfl
    · have hcs' : (cur.toList.take (n * i.size + 0) ++ news ++ cur.toList.drop (n * i.size + 0 + news.length)).toArray.size = cur.size := by
        simp; omega
      have hbig : (w.setRow b (cur.toList.take (n * i.size + 0) ++ news ++ cur.toList.drop (n * i.size + 0 + news.length)).toArray).heap[b]? = some (.cells (cur.toList.take (n * i.size + 0) ++ news ++ cur.toList.drop (n * i.size + 0 + news.length)).toArray E (0,0)) :=
        setRow_heap w b cur _ E _ hb
      have hoth : ∀ j,j ≠ b → (w.setRow b (cur.toList.take (n * i.size + 0) ++ news ++ cur.toList.drop (n * i.size + 0 + news.length)).toArray).heap[j]? = w.heap[j]? := fun j hj => setRow_other w b j _ hj
      generalize hW : w.setRow b (cur.toList.take (n * i.size + 0) ++ news ++ cur.toList.drop (n * i.size + 0 + news.length)).toArray = W at hbig hoth ⊢
      have hsz : ∀ x q,bsz w x = some q → bsz W x = some q := by
        intro x q hx
        by_cases e : x = b
        · subst e
          simp only [bsz,hb] at hx
          simp only [bsz,hbig,hcs']
          exact hx
        · simp only [bsz,hoth x e]; exact hx
      have hlt : (cells.take (n * i.size)).length = n * i.size := by simp; omega
      have r1 := r.write (w' := W) hk ht (by rw [← hW]; rfl) (by rw [← hW]; rfl) (by rw [← hW]; rfl) (by rw [← hW]; simp) hoth (k' := ⟨E,true,cells.take (n * i.size) ++ ys⟩) hb hbig hcs' (by rw [hcs']; simp only [List.length_append,hlt,n4]; omega) ?_
      · exact r1.put hd (v := .ownc t i.size (n + m) c) (u := .slice (some ⟨b,0,none⟩) (n + m) c) (.ownc _ _ _ _ _ b c cur.size ht hroom hc (hsz _ _ hs) ho)
      · simp only [cond_true]
        intro j hj
        obtain ⟨u,hu1,hu2⟩ := row_of (us := cur.toList.take (n * i.size)) (vs := news) (by rw [hlt]; simp; omega) (fun j hj => by
          have hj' : j < cells.length := by rw [hlt] at hj; omega
          obtain ⟨u,hu1,hu2⟩ := hcv j hj'
          exact ⟨u,by rw [List.getElem?_take,if_pos (by rw [hlt] at hj; exact hj)]; simpa using hu1,by rw [List.getElem_take]; exact hu2⟩) n6 j hj
        refine ⟨u,?_,?_⟩
        · rw [← Array.getElem?_toList]
          simp only [Nat.add_zero]
          rw [List.getElem?_append_left (by simp only [List.length_append,hlt,n4] at hj; simp; omega)]
          exact hu1
        · refine hu2.mono hsz _ _ (fun _ _ h => h) (fun _ x o y hx hy => ?_) (fun _ _ _ h => h)
          have hne : x ≠ b := fun e => hx.2.1 t ⟨_,hk⟩ (by rw [ht,e])
          rw [World.cell?_of_block (a := ⟨x,o,none⟩) (hoth x hne)]; exact hy
end
def apc {α : Type} (xs : List α) (n : Nat) (ys : List α) (c : Nat) : Option (List α) := if n ≤ xs.length ∧ n + ys.length ≤ c ∧ c ≤ 1099511627776 then some (xs.take n ++ ys) else none
theorem apcS {α : Type} {xs ys zs : List α} {n c : Nat} (h : apc xs n ys c = some zs) : n ≤ xs.length ∧ n + ys.length ≤ c ∧ c ≤ 1099511627776 ∧ zs = xs.take n ++ ys ∧ zs.length = n + ys.length := by
  unfold apc at h
  split at h
  · rename_i hc
    simp only [Option.some.injEq] at h
    exact ⟨hc.1,hc.2.1,hc.2.2,h.symm,by rw [← h]; simp; omega⟩
  · cases h
section
variable {C : Ctx} {d : Nat} {ty : TypeId} {p : String} {e : Array Edge} {g : Option (Nat × Bool)} {s : St}
theorem AStep.appC {α : Type} {enc : α → List AV} {x y : Operand} {T U E : TypeId} {t sz by_ n m c : Nat} {xs ys zs : List α} (hd : d < C.N) (hx : Ev C s x (.ownc t sz n c)) (hy : Src C s y sz m (ys.flatMap enc))
    (hT : C.P.underlying T = some (.slice E)) (hU : ∃ D,C.P.underlying U = some D ∧ ∀ k,D ≠ .int k) (hE : elT C.P E sz by_) (hk : look t s.heap = some ⟨E,true,xs.flatMap enc⟩)
    (henc : ∀ y,(enc y).length = sz) (hm : m = ys.length) (hb : by_ ≤ 128) (hz : apc xs n ys c = some zs) :
    AStep C ⟨some d,.call { callee := .builtin .append,args := #[x,y],argTypes := #[T,U] },ty,p,e,g⟩ s ⟨(d,.ownc t sz zs.length c) :: s.env,updH t ⟨E,true,zs.flatMap enc⟩ s.heap⟩ := by
  obtain ⟨h1,h2,h3,rfl,h5⟩ := apcS hz
  subst hm
  have hbytes : (n + ys.length) * by_ ≤ 140737488355328 := by
    have : (n + ys.length) * by_ ≤ 1099511627776 * 128 := Nat.mul_le_mul (by omega) hb
    omega
  have := AStep.appendC (ty := ty) (p := p) (e := e) (g := g) hd hx hy hT hU hE hk (by rw [flatMap_length henc]; exact Nat.mul_le_mul_right _ h1) h2 (by simp only [maxLen]; omega) hbytes
  rw [h5,List.flatMap_append]
  rw [flatMap_take henc] at this
  exact this
end
theorem DStep.turnput {C : Ctx} {A : Array Oper} {op : Op} {ty : TypeId} {p : String} {e : Array Edge} {need : List (Nat × AV)} {H H' : List (Nat × Blk)} {d t : Nat} {k : Blk} {v : AV}
    (h : ∀ E,Need need E → AStep C ⟨some d,op,ty,p,e,none⟩ ⟨E,H⟩ ⟨(d,v) :: E,updH t k H⟩) (hH : H' = updH t k H) : DStep C A ⟨some d,op,ty,p,e,none⟩ need H (some (d,v)) [] H' := fun E hE => by
  subst hH
  exact ⟨_,OStep.plain (h E hE),fun d' v' hd => by cases hd; simp [look_cons_self],fun x v' hx hl _ => by simp [look_cons_ne (hx d v rfl),hl]⟩
def SrcP (C : Ctx) (s : St) (y : Operand) (m : Nat) (ys : List AV) : Prop :=
  ∀ ι a w,Rel C s ι a w → (m = 0 ∧ ∃ q c,a.eval y = .slice q 0 c) ∨ ∃ b off cap,∃ vs : Nat → Value,a.eval y = .slice (some ⟨b,off,none⟩) m cap ∧ (∀ i,i < ys.length → w.cell? ⟨b,off + i,none⟩ = some (vs i)) ∧
    ∀ i (hi : i < ys.length),VR w (fun _ => zone C s.heap ι w false) (fun _ => none) (ys[i]'hi) (vs i)
section
variable {C : Ctx} {d : Nat} {ty : TypeId} {p : String} {e : Array Edge} {g : Option (Nat × Bool)} {s : St}
theorem SrcP.rd {x : Operand} {m : Nat} {β : Bool} {ys : List AV} (hx : Ev C s x (.rd β m ys)) (hβ : β = false ∨ ∀ c ∈ ys,c.scal = true) : SrcP C s x m ys := fun ι a w r => by
  rcases rd_inv (hx ι a w r) with ⟨⟨a0,hu⟩,rfl,rfl⟩ | ⟨b,off,cap,vs,hu,hn,hc,hz,hv,h⟩
  · exact .inl ⟨rfl,a0,0,hu⟩
  · refine .inr ⟨b,off,cap,vs,hu,hv,fun i hi => ?_⟩
    rcases hβ with rfl | hs
    · exact h i hi
    · have h2 := hs _ (List.getElem_mem hi)
      have h3 := h i hi
      generalize ys[i] = q at h2 h3
      cases q <;> simp [AV.scal] at h2
      rw [sc_inv h3]; exact .sc _ _ _
theorem SrcP.own {x : Operand} {t off m : Nat} {k : Blk} {ys : List AV} (hx : Ev C s x (.own t 1 off m)) (hk : look t s.heap = some k) (hl : k.lst = true) (hy : ys = (k.cells.drop off).take m) (hlen : off + m ≤ k.cells.length) : SrcP C s x m ys := fun ι a w r => by
  subst hy
  rcases own_inv (hx ι a w r) with ⟨rfl,hu⟩ | ⟨b,cap,q,hu,ht,hn,hc,hs,ho⟩
  · rcases hu with hu | ⟨b,o,hu⟩
    · exact .inl ⟨rfl,none,0,hu⟩
    · exact .inl ⟨rfl,_,0,hu⟩
  · obtain ⟨cur,hb,hlc,h⟩ := blk_inv r.core hk ht
    simp only [hl,cond_true] at h
    refine .inr ⟨b,off,cap,fun i => (cur[off + i]?).getD undef,hu,fun i hi => ?_,fun i hi => ?_⟩
    · have hi' : off + i < k.cells.length := by simp at hi; omega
      obtain ⟨u,hu2,_⟩ := h (off + i) hi'
      show _ = some ((cur[off + i]?).getD undef)
      rw [cell_of_row w b (off + i) cur k.ty (0,0) hb,hu2]; rfl
    · have hi' : off + i < k.cells.length := by simp at hi; omega
      obtain ⟨u,hu2,hv⟩ := h (off + i) hi'
      have e1 : ((k.cells.drop off).take m)[i]'hi = k.cells[off + i] := by simp
      rw [e1]
      show VR w _ _ _ ((cur[off + i]?).getD undef)
      rw [hu2]; exact hv
theorem AStep.copyP {x y : Operand} {T U E : TypeId} {t off n m q : Nat} {k : Blk} {cells ys : List AV} (hd : d < C.N) (hx : Ev C s x (.own t 1 off n)) (hy : SrcP C s y m ys) (hT : C.P.underlying T = some (.slice E)) (hE : (C.P.info? E).map (·.size) = some 1)
    (hk : look t s.heap = some k) (hlst : k.lst = true) (hfit : off + n ≤ k.cells.length) (hm : ys.length = m) (h1 : ∀ c ∈ ys,c.one = true) (hq : q = min m n)
    (hc : cells = k.cells.take off ++ ys.take q ++ k.cells.drop (off + q)) :
    AStep C ⟨some d,.call { callee := .builtin .copy,args := #[x,y],argTypes := #[T,U] },ty,p,e,g⟩ s ⟨(d,.sc (.int .i64 (q : Int))) :: s.env,updH t { k with cells := cells } s.heap⟩ :=
  .run (fun _ h => by cases h) fun ι a w r => by
    subst hc
    have hexec : ∀ u1 u2,a.eval x = u1 → a.eval y = u2 → (execOp a.eval ⟨some d,.call { callee := .builtin .copy,args := #[x,y],argTypes := #[T,U] },ty,p,e,g⟩).run C.P w =
        ((Builtin.copy_ #[T,U] ty #[u1,u2]).run C.P w).andThen fun v w' => .ok (.value v) w' := by
      intro u1 u2 hu1 hu2
      simp [execOp,resolve,invoke,builtin,hu1,hu2]
    have nothing : q = 0 → ∀ b1 c1 b2 c2,a.eval x = .slice b1 n c1 → a.eval y = .slice b2 m c2 → ∃ u w' ι',(execOp a.eval ⟨some d,.call { callee := .builtin .copy,args := #[x,y],argTypes := #[T,U] },ty,p,e,g⟩).run C.P w = .ok (.value u) w' ∧
        Rel C ⟨(d,.sc (.int .i64 (q : Int))) :: s.env,updH t { k with cells := k.cells.take off ++ ys.take q ++ k.cells.drop (off + q) } s.heap⟩ ι' (a.put (some d) u) w' := by
      intro hq0 b1 c1 b2 c2 hu1 hu2
      have h0 : Nat.min m n = 0 := by rw [hq0] at hq; exact hq.symm
      refine ⟨goInt 0,w,ι,by rw [hexec _ _ hu1 hu2,run_copy_none (P := C.P) w T U ty E b1 b2 n c1 m c2 hT hE h0]; rfl,?_⟩
      subst hq0
      have ec : k.cells.take off ++ ys.take 0 ++ k.cells.drop (off + 0) = k.cells := by simp
      rw [ec]
      have r1 : Rel C ⟨s.env,updH t { k with cells := k.cells } s.heap⟩ ι a w := r.weakB hk (Nat.le_refl _) fun j hj => .inr (List.getElem?_eq_getElem hj)
      exact r1.put hd (.sc _ _ _)
    rcases Nat.eq_zero_or_pos q with hq0 | hq0
    · have hyv : ∃ b2 c2,a.eval y = .slice b2 m c2 := by
        rcases hy ι a w r with ⟨rfl,b2,c2,hu⟩ | ⟨b,o,cap,vs,hu,_,_⟩
        · exact ⟨_,_,hu⟩
        · exact ⟨_,_,hu⟩
      obtain ⟨b2,c2,hu2⟩ := hyv
      rcases own_inv (hx ι a w r) with ⟨rfl,hu⟩ | ⟨b,cap,z,hu,_,_,_,_,_⟩
      · rcases hu with hu | ⟨b,o,hu⟩
        · exact nothing hq0 _ _ _ _ hu hu2
        · exact nothing hq0 _ _ _ _ hu hu2
      · exact nothing hq0 _ _ _ _ hu hu2
    · rcases hy ι a w r with ⟨rfl,_⟩ | ⟨b2,o2,cap2,vs,hu2,hv2,hvr2⟩
      · omega
      rcases own_inv (hx ι a w r) with ⟨rfl,_⟩ | ⟨b,cap,z,hu,ht,hn,hcap,hs,ho⟩
      · omega
      obtain ⟨cur,hb,hl,h⟩ := blk_inv r.core hk ht
      simp only [hlst,cond_true] at h
      have hz : z = cur.size := by simp only [bsz,hb] at hs; exact (Option.some.inj hs).symm
      subst hz
      have hcsl : ((List.range q).map vs).length = q := by simp
      have hrun := run_copy_row C.P w T U ty E b off n cap ⟨b2,o2,none⟩ m cap2 cur k.ty ((List.range q).map vs) hT hE hb (by rw [hcsl]; exact hq) (fun j v hj => by
        have hjq : j < q := by have := (List.getElem?_eq_some_iff.1 hj).1; simpa using this
        simp only [List.getElem?_map,List.getElem?_range hjq,Option.map_some,Option.some.injEq] at hj
        rw [Addr.add_plain,hv2 j (by omega),hj]) (by rw [hcsl]; omega) (fun v hv => by
        obtain ⟨j,hj,rfl⟩ := List.mem_map.1 hv
        have hjq : j < q := by simpa using hj
        exact ((hvr2 j (by omega)).one (h1 _ (List.getElem_mem _))).1)
      rw [hcsl] at hrun
      refine ⟨goInt q,_,ι,by rw [hexec _ _ hu hu2,hrun]; rfl,?_⟩
      have hcs' : (cur.toList.take off ++ (List.range q).map vs ++ cur.toList.drop (off + q)).toArray.size = cur.size := by simp; omega
      have hbig := setRow_heap w b cur (cur.toList.take off ++ (List.range q).map vs ++ cur.toList.drop (off + q)).toArray k.ty (0,0) hb
      have hoth : ∀ j,j ≠ b → (w.setRow b (cur.toList.take off ++ (List.range q).map vs ++ cur.toList.drop (off + q)).toArray).heap[j]? = w.heap[j]? := fun j hj => setRow_other w b j _ hj
      generalize hW : w.setRow b (cur.toList.take off ++ (List.range q).map vs ++ cur.toList.drop (off + q)).toArray = W at hbig hoth ⊢
      have hsz : ∀ x q,bsz w x = some q → bsz W x = some q := by
        intro x q hx
        by_cases e : x = b
        · subst e
          simp only [bsz,hb] at hx
          simp only [bsz,hbig,hcs']
          exact hx
        · simp only [bsz,hoth x e]; exact hx
      have hcell : ∀ x o y',zone C s.heap ι w false x → w.cell? ⟨x,o,none⟩ = some y' → W.cell? ⟨x,o,none⟩ = some y' := by
        rintro x o y' ⟨_,h2,_⟩ hy'
        have hne : x ≠ b := fun e => h2 t ⟨k,hk⟩ (by rw [ht,e])
        rw [World.cell?_of_block (a := ⟨x,o,none⟩) (hoth x hne)]; exact hy'
      have r1 := r.write (w' := W) hk ht (by rw [← hW]; rfl) (by rw [← hW]; rfl) (by rw [← hW]; rfl) (by rw [← hW]; simp) hoth (k' := { k with cells := k.cells.take off ++ ys.take q ++ k.cells.drop (off + q) }) hb hbig hcs' (by rw [hcs']; simp; omega) ?_
      · exact r1.put hd (.sc _ _ _)
      · simp only [hlst,cond_true]
        intro j hj
        have hj' : j < k.cells.length := by simp at hj; omega
        rcases Nat.lt_or_ge j off with c1 | c1
        · obtain ⟨u,hu1,hu2⟩ := h j hj'
          refine ⟨u,?_,?_⟩
          · rw [← Array.getElem?_toList,List.append_assoc,List.getElem?_append_left (by simp; omega),List.getElem?_take,if_pos c1,Array.getElem?_toList]; exact hu1
          · have e1 : (k.cells.take off ++ ys.take q ++ k.cells.drop (off + q))[j]'hj = k.cells[j] := by
              simp only [List.append_assoc]
              rw [List.getElem_append_left (by simp; omega),List.getElem_take]
            rw [e1]
            exact hu2.mono hsz _ _ (fun _ _ h => h) (fun _ x o y' hz => hcell x o y' hz) (fun _ _ _ h => h)
        · rcases Nat.lt_or_ge j (off + q) with c2 | c2
          · refine ⟨vs (j - off),?_,?_⟩
            · rw [← Array.getElem?_toList,List.append_assoc,List.getElem?_append_right (by simp; omega),List.getElem?_append_left (by simp; omega)]
              have : min off cur.size = off := by omega
              have hq2 : j - off < q := by omega
              simp [this,hq2]
            · have e1 : (k.cells.take off ++ ys.take q ++ k.cells.drop (off + q))[j]'hj = ys[j - off]'(by omega) := by
                have : min off k.cells.length = off := by omega
                simp only [List.append_assoc]
                rw [List.getElem_append_right (by simp; omega),List.getElem_append_left (by simp; omega),List.getElem_take]
                simp [this]
              rw [e1]
              exact (hvr2 (j - off) (by omega)).mono hsz _ _ (fun _ _ h => h) (fun _ x o y' hz => hcell x o y' hz) (fun _ _ _ h => h)
          · obtain ⟨u,hu1,hu2⟩ := h j hj'
            refine ⟨u,?_,?_⟩
            · rw [← Array.getElem?_toList,List.append_assoc,List.getElem?_append_right (by simp; omega),List.getElem?_append_right (by simp; omega)]
              have : min off cur.size = off := by omega
              rw [List.getElem?_drop]
              simp only [List.length_take,List.length_map,List.length_range,Array.length_toList,this]
              rw [show off + q + (j - off - q) = j from by omega,Array.getElem?_toList]; exact hu1
            · have e1 : (k.cells.take off ++ ys.take q ++ k.cells.drop (off + q))[j]'hj = k.cells[j] := by
                have w1 : min off k.cells.length = off := by omega
                have w2 : min q ys.length = q := by omega
                simp only [List.append_assoc]
                rw [List.getElem_append_right (by simp; omega),List.getElem_append_right (by simp; omega),List.getElem_drop]
                congr 1
                simp only [List.length_take,w1,w2]
                omega
              rw [e1]
              exact hu2.mono hsz _ _ (fun _ _ h => h) (fun _ x o y' hz => hcell x o y' hz) (fun _ _ _ h => h)
end
def cpy {α : Type} (xs : List α) (off n : Nat) (ys : List α) : Option (List α) := if off + n ≤ xs.length then some (xs.take off ++ ys.take (min ys.length n) ++ xs.drop (off + min ys.length n)) else none
theorem cpyS {α : Type} {xs ys zs : List α} {off n : Nat} (h : cpy xs off n ys = some zs) : off + n ≤ xs.length ∧ zs = xs.take off ++ ys.take (min ys.length n) ++ xs.drop (off + min ys.length n) ∧ zs.length = xs.length := by
  unfold cpy at h
  split at h
  · simp only [Option.some.injEq] at h
    refine ⟨‹_›,h.symm,?_⟩
    rw [← h]; simp; omega
  · cases h
theorem cpyL {α : Type} {xs ys zs : List α} {off n : Nat} (h : cpy xs off n ys = some zs) : xs.length = zs.length := (cpyS h).2.2.symm
theorem slcP {α : Type} {xs zs : List α} {l : Int} (h : slc xs 0 l = some zs) : 0 + zs.length ≤ xs.length := by
  obtain ⟨_,h1,h2,_,h4⟩ := slcS h
  rw [h4]
  have : (l - 0).toNat = l.toNat := by simp
  simp only [Int.toNat_zero] at *
  omega
theorem slcQ {α : Type} {xs zs : List α} {l : Int} (h : slc xs 0 l = some zs) : zs = (xs.drop 0).take zs.length := by
  obtain ⟨_,h1,h2,h3,_⟩ := slcS h
  have h3' : zs = xs.take (l.toNat) := h3
  have e : zs.length = l.toNat := by rw [h3']; simp; omega
  rw [e,List.drop_zero]
  exact h3'
theorem flatMap_take1 {α : Type} {enc : α → List AV} (henc : ∀ y,(enc y).length = 1) (xs : List α) (k : Nat) : (xs.flatMap enc).take k = (xs.take k).flatMap enc := by
  have := flatMap_take henc xs k
  rwa [Nat.mul_one] at this
theorem flatMap_drop1 {α : Type} {enc : α → List AV} (henc : ∀ y,(enc y).length = 1) (xs : List α) (k : Nat) : (xs.flatMap enc).drop k = (xs.drop k).flatMap enc := by
  have := flatMap_drop henc xs k
  rwa [Nat.mul_one] at this
section
variable {C : Ctx} {d : Nat} {ty : TypeId} {p : String} {e : Array Edge} {g : Option (Nat × Bool)} {s : St}
theorem AStep.cpyR {α : Type} {enc : α → List AV} {x y : Operand} {T U E : TypeId} {t off n m : Nat} {xs ys zs : List α} (hd : d < C.N) (hx : Ev C s x (.own t 1 off n)) (hy : SrcP C s y m (ys.flatMap enc)) (hT : C.P.underlying T = some (.slice E)) (hE : szOf C.P E 1)
    (hk : look t s.heap = some ⟨E,true,xs.flatMap enc⟩) (henc : ∀ y,(enc y).length = 1) (h1 : ∀ y,∀ c,c ∈ enc y → c.one = true) (hm : m = ys.length) (hz : cpy xs off n ys = some zs) :
    AStep C ⟨some d,.call { callee := .builtin .copy,args := #[x,y],argTypes := #[T,U] },ty,p,e,g⟩ s ⟨(d,.sc (.int .i64 ((min ys.length n : Nat) : Int))) :: s.env,updH t ⟨E,true,zs.flatMap enc⟩ s.heap⟩ := by
  obtain ⟨c1,rfl,c3⟩ := cpyS hz
  subst hm
  refine AStep.copyP hd hx hy hT ?_ hk rfl ?_ ?_ (fun c hc => ?_) rfl ?_
  · obtain ⟨i,hi,hs⟩ := hE
    rw [hi]; simp [hs]
  · show off + n ≤ (xs.flatMap enc).length
    rw [flatMap_length henc]; omega
  · rw [flatMap_length henc]; omega
  · obtain ⟨z,_,hz⟩ := List.mem_flatMap.1 hc
    exact h1 z c hz
  · show _ = (xs.flatMap enc).take off ++ (ys.flatMap enc).take (min ys.length n) ++ (xs.flatMap enc).drop (off + min ys.length n)
    rw [flatMap_take1 henc,flatMap_take1 henc,flatMap_drop1 henc,List.flatMap_append,List.flatMap_append]
theorem SrcP.ownR {α : Type} {enc : α → List AV} {x : Operand} {t off m : Nat} {E : TypeId} {xs ys : List α} (hx : Ev C s x (.own t 1 off m)) (hk : look t s.heap = some ⟨E,true,xs.flatMap enc⟩) (henc : ∀ y,(enc y).length = 1) (hlen : off + m ≤ xs.length) (hy : ys = (xs.drop off).take m) :
    SrcP C s x m (ys.flatMap enc) := by
  subst hy
  refine SrcP.own hx hk rfl ?_ ?_
  · show _ = ((xs.flatMap enc).drop off).take m
    rw [flatMap_drop1 henc,flatMap_take1 henc]
  · show off + m ≤ (xs.flatMap enc).length
    rw [flatMap_length henc]; omega
theorem AStep.idxP {x i : Operand} {T E : TypeId} {t sz off n : Nat} {k : IntKind} {j : Int} (hd : d < C.N) (hx : Ev C s x (.ptr t off)) (hi : Ev C s i (.sc (.int k j))) (hT : C.P.underlying T = some (.array n E)) (hE : szOf C.P E sz)
    (hj : 0 ≤ j ∧ j < n) {o : Nat} (ho : off + j.toNat * sz = o) : AStep C ⟨some d,.indexAddr T x i,ty,p,e,g⟩ s (s.put d (.ptr t o)) := by
  rw [← ho]; exact AStep.indexArr hd hx hi hT hE hj
theorem AStep.idxR {x i : Operand} {T E : TypeId} {β : Bool} {cells sub : List AV} {sz n : Nat} {k : IntKind} {j : Int} (hd : d < C.N) (hx : Ev C s x (.rptr β cells)) (hi : Ev C s i (.sc (.int k j))) (hT : C.P.underlying T = some (.array n E)) (hE : szOf C.P E sz)
    (hj : 0 ≤ j ∧ j < n) (hs : sub = cells.drop (j.toNat * sz)) : AStep C ⟨some d,.indexAddr T x i,ty,p,e,g⟩ s (s.put d (.rptr β sub)) :=
  .val hd (fun _ h => by cases h) fun ι a w r => by
    subst hs
    obtain ⟨b,off,vs,hu,hz,hv,h⟩ := rptr_inv (hx ι a w r)
    obtain ⟨q1,q2⟩ := VR.part (Z := fun _ => zone C s.heap ι w β) (sub := cells.drop (j.toNat * sz)) (o := j.toNat * sz) hv h (fun i hi => by simp)
    refine ⟨.pointer (some ⟨b,off + j.toNat * sz,none⟩),?_,.rptr _ _ _ _ _ _ _ (fun hne => hz (fun hnil => hne (by simp [hnil]))) q1 q2⟩
    simp [execOp,hu,hi.sc r,Instr.indexAt,asIntOf,run_underlying hT,hj.1,hj.2,hE.run,Instr.sureAddr,Addr.add_plain]
theorem AStep.bi4 {b : Builtin} {x y z v : Operand} {T U V S : TypeId} {m n l q u : Value} (hd : d < C.N) (hx : Ev C s x (.sc m)) (hy : Ev C s y (.sc n)) (hz : Ev C s z (.sc l)) (hv : Ev C s v (.sc q))
    (h : ∀ w cs,(builtin b #[T,U,V,S] ty cs #[m,n,l,q]).run C.P w = .ok (.value u) w) :
    AStep C ⟨some d,.call { callee := .builtin b,args := #[x,y,z,v],argTypes := #[T,U,V,S] },ty,p,e,g⟩ s (s.put d (.sc u)) :=
  .val hd (fun _ h => by cases h) fun ι a w r => by
    refine ⟨u,?_,.sc _ _ _⟩
    have := h w (#[x,y,z,v].map fun | .const _ => true | _ => false)
    simp only [execOp,resolve,Sem.run_bind,Sem.run_pure,Result.andThen_ok,invoke,List.map_toArray,List.map_cons,List.map_nil,hx.sc r,hy.sc r,hz.sc r,hv.sc r] at this ⊢
    exact this
theorem AStep.max4 {x y z v : Operand} {T U V S : TypeId} {k : IntKind} {m n l q : Int} (hd : d < C.N) (hx : Ev C s x (.sc (.int k m))) (hy : Ev C s y (.sc (.int k n))) (hz : Ev C s z (.sc (.int k l))) (hv : Ev C s v (.sc (.int k q))) :
    AStep C ⟨some d,.call { callee := .builtin .max,args := #[x,y,z,v],argTypes := #[T,U,V,S] },ty,p,e,g⟩ s (s.put d (.sc (.int k (if q > (if l > (if n > m then n else m) then l else (if n > m then n else m)) then q else (if l > (if n > m then n else m) then l else (if n > m then n else m)))))) :=
  .bi4 hd hx hy hz hv fun w cs => by simp [builtin,Builtin.max_,Builtin.max2]
end
def gip {α : Type} (xs : List α) (off n : Nat) (i : Int) : Option α := if 0 ≤ i ∧ i < n then getIdx xs ((off + i.toNat : Nat) : Int) else none
theorem gipS {α : Type} {xs : List α} {off n : Nat} {i : Int} {y : α} (h : gip xs off n i = some y) : getIdx xs ((off + i.toNat : Nat) : Int) = some y := by
  unfold gip at h
  split at h
  · exact h
  · cases h
section
variable {C : Ctx} {d : Nat} {ty : TypeId} {p : String} {e : Array Edge} {g : Option (Nat × Bool)} {s : St}
theorem AStep.idxPart {α : Type} {x i : Operand} {T E : TypeId} {t n off : Nat} {k : IntKind} {j : Int} {xs : List α} {y : α} (hd : d < C.N)
    (hx : Ev C s x (.own t 1 off n)) (hi : Ev C s i (.sc (.int k j))) (hT : C.P.underlying T = some (.slice E)) (hE : szOf C.P E 1)
    (hy : gip xs off n j = some y) : AStep C ⟨some d,.indexAddr T x i,ty,p,e,g⟩ s (s.put d (.ptr t (0 + (((off + j.toNat : Nat) : Int)).toNat * 1))) := by
  have hj : 0 ≤ j ∧ j < n := by
    unfold gip at hy
    split at hy
    · assumption
    · cases hy
  have := AStep.indexOwn (ty := ty) (p := p) (e := e) (g := g) hd hx hi hT hE hj
  rw [show (0 + (((off + j.toNat : Nat) : Int)).toNat * 1) = off + j.toNat * 1 from by rw [Int.toNat_natCast]; omega]
  exact this
theorem AStep.slBoth {α : Type} {sz n : Nat} {x : Operand} {lo hi : Option Operand} {T E : TypeId} {t : Nat} {xs zs : List α} {l h : Int} (hd : d < C.N) (hx : Ev C s x (.own t sz 0 n)) (hT : C.P.underlying T = some (.slice E)) (hE : szOf C.P E sz)
    (hn : n = xs.length) (hl : BdI C s lo 0 l) (hh : BdI C s hi xs.length h) (hz : slc xs l h = some zs) :
    AStep C ⟨some d,.slice T x lo hi none,ty,p,e,g⟩ s (s.put d (.own t sz (0 + l.toNat * sz) (h.toNat - l.toNat))) := by
  obtain ⟨h0,h1,h2,_,_⟩ := slcS hz
  subst hn
  exact AStep.sliceOwn hd hx hT hE (hl.nat (d := 0) (by omega)) (hh.nat (d := xs.length) (by omega)) (by omega) (by omega)
end
theorem OpC.conv {P : Program} {T : TypeId} {α β : Type} {enc : α → List AV} {wf : α → Prop} {enc' : β → List AV} {wf' : β → Prop} (h : OpC P T enc wf) (f : ∀ y,wf y → ∃ z,wf' z ∧ enc' z = enc y) : OpC P T enc' wf' := fun H e W fuel cs x hx => by
  obtain ⟨y,hy,hl,hv⟩ := h H e W fuel cs x hx
  obtain ⟨z,hz,e⟩ := f y hy
  refine ⟨z,hz,by rw [e]; exact hl,fun i hi => ?_⟩
  have hi' : i < (enc y).length := by rw [← e]; exact hi
  obtain ⟨u,hu,hvr⟩ := hv i hi'
  refine ⟨u,hu,?_⟩
  have : (enc' z)[i]'hi = (enc y)[i]'hi' := by simp only [e]
  rw [this]; exact hvr
end Go.AB
set_option linter.unusedVariables false
namespace Go.AB
open Go
section
variable {C : Ctx} {d : Nat} {ty : TypeId} {p : String} {e : Array Edge} {g : Option (Nat × Bool)} {s : St}
theorem AStep.indexRdC {α : Type} {enc : α → List AV} {sz : Nat} {x i : Operand} {T E : TypeId} {β : Bool} {xs : List α} {n : Nat} {k : IntKind} {j : Int} {y : α} {cs : List AV} (hd : d < C.N)
    (hx : Ev C s x (.rd β n (xs.flatMap enc))) (hi : Ev C s i (.sc (.int k j))) (hT : C.P.underlying T = some (.slice E)) (hE : szOf C.P E sz) (henc : ∀ y,(enc y).length = sz)
    (hn : n = xs.length) (hy : getIdx xs j = some y) (hc : enc y = cs) : AStep C ⟨some d,.indexAddr T x i,ty,p,e,g⟩ s (s.put d (.rptr β cs)) := by
  subst hc
  exact AStep.indexRd hd hx hi hT hE henc hn hy
def apk {α : Type} (xs ys : List α) : Option (List α) := if xs.length + ys.length ≤ 2513169434916 then some (xs ++ ys) else none
theorem apkS {α : Type} {xs ys zs : List α} (h : apk xs ys = some zs) : xs.length + ys.length ≤ 2513169434916 ∧ zs = xs ++ ys ∧ zs.length = xs.length + ys.length := by
  unfold apk at h
  split at h
  · rename_i hc
    simp only [Option.some.injEq] at h
    exact ⟨hc,h.symm,by rw [← h]; simp⟩
  · cases h
theorem AStep.appK {α : Type} {enc : α → List AV} {x y : Operand} {T U E : TypeId} {t sz by_ n m : Nat} {xs ys zs : List α} (hd : d < C.N) (hK : t ∉ C.K) (hx : Ev C s x (.own t sz 0 n)) (hy : Src C s y sz m (ys.flatMap enc))
    (hT : C.P.underlying T = some (.slice E)) (hU : ∃ D,C.P.underlying U = some D ∧ ∀ k,D ≠ .int k) (hE : elT C.P E sz by_) (hk : look t s.heap = some ⟨E,true,xs.flatMap enc⟩)
    (henc : ∀ y,(enc y).length = sz) (hn : n = xs.length) (hm : m = ys.length) (hb : by_ ≤ 56) (hz : apk xs ys = some zs) :
    AStep C ⟨some d,.call { callee := .builtin .append,args := #[x,y],argTypes := #[T,U] },ty,p,e,g⟩ s (s.newP d t ⟨E,true,zs.flatMap enc⟩ (.own t sz 0 zs.length)) := by
  obtain ⟨h1,rfl,h3⟩ := apkS hz
  subst hn hm
  have hbytes : (xs.length + ys.length) * by_ ≤ 140737488355328 := by
    have : (xs.length + ys.length) * by_ ≤ 2513169434916 * 56 := Nat.mul_le_mul h1 hb
    omega
  have := AStep.append (ty := ty) (p := p) (e := e) (g := g) hd hK hx hy hT hU hE hk (flatMap_length henc xs) (by simp only [maxLen]; omega) hbytes
  rw [h3,List.flatMap_append]
  exact this
end
end Go.AB
