import Derived.Laws.MakeOwn
import Derived.Great.BuildSlice
import Derived.Deep.Upon
import Derived.Laws.StructEq
import Derived.Stop.IfaceNil
import Derived.Laws.Entries
import Derived.Orders
import Derived.Test.YtogpgblanenleaaDoorSa
set_option linter.unusedVariables false
set_option linter.unusedSimpArgs false
namespace Go.Sy
theorem n6 {w:World} {b o b' o':Nat} {cs vals:List Value} (h:w.rangeAt b' o' cs) (hd:b'≠b∨o'+cs.length≤o∨o+vals.length≤o'):(w.setCells b o vals).rangeAt b' o' cs:=fun j v hj=>by
 have hjl:=(List.getElem?_eq_some_iff.1 hj).1
 rw [World.cell?_setCells_out b vals o w ⟨b',o'+j,none⟩ fun hb _=>by
  have hb:b'=b:=hb
  show o'+j<o∨o+vals.length≤o'+j
  rcases hd with hd | hd | hd
  · exact absurd hb hd
  · omega
  · omega]
 exact h j v hj
theorem Dl {w:World} {b o:Nat} {cs vals:List Value} (h:w.rangeAt b o cs) (k:Nat) (hk:k+vals.length≤cs.length):(w.setCells b (o+k) vals).rangeAt b o (cs.take k++vals++cs.drop (k+vals.length)):=fun j v hj=>by
 have hin:=World.cell?_setCells_in b vals (o+k) w (fun i hi=>by
  have :(cs[k+i]?).isSome=true:=by rw [List.getElem?_eq_getElem (by omega)]; rfl
  obtain ⟨u,hu⟩:=Option.isSome_iff_exists.1 this
  rw [Nat.add_assoc,h _ _ hu]; rfl)
 by_cases h1:j<k
 · rw [List.append_assoc,List.getElem?_append_left (by simp; omega),List.getElem?_take,if_pos h1] at hj
   rw [World.cell?_setCells_out b vals (o+k) w ⟨b,o+j,none⟩ fun _ _=> .inl (by show o+j<o+k; omega)]
   exact h j v hj
 · by_cases h2:j<k+vals.length
   · rw [List.append_assoc,List.getElem?_append_right (by simp; omega),List.getElem?_append_left (by simp; omega)] at hj
     have hlen:(List.take k cs).length=k:=by simp; omega
     rw [hlen] at hj
     have :=hin (j - k) (by omega)
     rw [show o+k+(j - k)=o+j from by omega] at this
     rw [this, ← hj,List.getElem?_eq_getElem]
   · rw [List.append_assoc,List.getElem?_append_right (by simp; omega),List.getElem?_append_right (by simp; omega),List.getElem?_drop] at hj
     have hlen:(List.take k cs).length=k:=by simp; omega
     rw [hlen] at hj
     rw [World.cell?_setCells_out b vals (o+k) w ⟨b,o+j,none⟩ fun _ _=> .inr (by show o+k+vals.length≤o+j; omega)]
     rw [show k+vals.length+(j - k - vals.length)=j from by omega] at hj
     exact h j v hj
theorem t_ {w:World} {b o:Nat} {vals:List Value} (ht:w.there b o vals.length):(w.setCells b o vals).rangeAt b o vals:=fun j v hj=>by
 have hjl:=(List.getElem?_eq_some_iff.1 hj).1
 rw [World.cell?_setCells_in b vals o w (fun i hi=>(ht i hi).1) j hjl, ← hj,List.getElem?_eq_getElem]
theorem oB {w:World} {b o n b' o':Nat} {vals:List Value} (h:w.there b o n) (hs:w.there b' o' vals.length):(w.setCells b' o' vals).there b o n:=fun j hj=>by
 have hc:=aW.setCells w b' o' vals hs
 have hlt:b<w.heap.size:=by
  obtain ⟨v,hv⟩:=Option.isSome_iff_exists.1 (h j hj).1
  exact World.block_lt_of_cell? w _ hv
 exact ⟨hc.some _ _ hlt (h j hj).1,(World.frozen?_setCells ..).trans (h j hj).2⟩
section
variable {P:Program} {S:aN} {af:Nat→Nat}
variable {w0:World} {M0 s0:St} {dq:List Deferred} {env:Env S.C} {a:Act} {w:World} {μ:Nat→Loc} {K:Act→World→Prop} {Q:Exit→Act→World→Prop} {o:Oper} {V:V S.C} {us:aG S.C}
theorem Ke {s:St} {bx:Bx S.C} {i:Nat} {L:Loc} {B:cP S.C} (hb:bx i=some B) (hl:live S bx i) (hB: ∀ l,B≠ .buf l) (h:RB P S w s μ bx L B):w.there L.b L.o L.n:=by
 unfold live at hl
 rw [hb] at hl
 cases B with
 | cells vs=>exact h.2.2.1
 | arr e l=>exact h.2.2.2.1
 | tail=>exact h
 | bw vs=>exact hl.elim
 | bn e l=>exact hl.elim
 | dead=>exact hl.elim
 | aU j=>
  obtain ⟨h1,h2,_,v,⟨T,e,p,_,h3,_⟩,_⟩:=h
  intro k hk
  rw [h1,h2] at *
  rw [Lib.cell_of_heap h3,Lib.frozen_of_heap h3]
  refine ⟨by simp; omega,rfl⟩
 | buf l=>exact absurd rfl (hB l)
theorem Inv.write (h:Inv P S w0 M0 s0 dq env a w μ) {i:Nat} {B0 B':cP S.C} (hi:env.bx i=some B0) (hl0:live S env.bx i) (H6: ∀ l,B0≠ .buf l) {o':Nat} {vals:List Value}
 (h1:(μ i).o≤o') (h2:o'+vals.length≤(μ i).o+(μ i).n) (hc:b8 S (μ i) (μ i) B0 B')
 (hb:bC w (aD S w0 M0 s0 env.bx μ w) (w.setCells (μ i).b o' vals) (aD S w0 M0 s0 (ah env.bx i (some B')) μ (w.setCells (μ i).b o' vals))→
  (∀ V v,bl P S w (aD S w0 M0 s0 env.bx μ w) μ env.bx V v→(∀ j ∈ ak S V,env.bx j≠none)→
   bl P S (w.setCells (μ i).b o' vals) (aD S w0 M0 s0 (ah env.bx i (some B')) μ (w.setCells (μ i).b o' vals)) μ (ah env.bx i (some B')) V v)→
  RB P S (w.setCells (μ i).b o' vals) (aD S w0 M0 s0 (ah env.bx i (some B')) μ (w.setCells (μ i).b o' vals)) μ (ah env.bx i (some B')) (μ i) B')
 (hr: ∀ vs,(B'= .cells vs∨B'= .bw vs)→ ∀ v ∈ vs, ∀ j ∈ ak S v,env.bx j≠none):
 Inv P S w0 M0 s0 dq { env with bx:=ah env.bx i (some B') } a (w.setCells (μ i).b o' vals) μ:=by
 have qh:=jD (Ke hi hl0 H6 (h.bE i B0 hi)) h1 h2
 have hU: ∀ j, ¬ j=i→ah env.bx i (some B') j=env.bx j∧μ j=μ j:=fun j hj=>⟨aX _ _ hj,rfl⟩
 have hT: ∀ b o,(b=(μ i).b∧o'≤o∧o<o'+vals.length)→b<w.heap.size→ ∃ j,j=i∧live S env.bx j∧(μ j).aC b o:=fun b o p6 _=>
  ⟨i,rfl,hl0,p6.1,by omega,by omega⟩
 have hf: ∀ j,j=i→live S (ah env.bx i (some B')) j→ ∀ b o,(μ j).aC b o→w.heap.size≤b∨ ∃ k,k=i∧live S env.bx k∧(μ k).aC b o:=by
  rintro j rfl _ b o hfo
  exact .inr ⟨j,rfl,hl0,hfo⟩
 have lZ: ∀ j B0,env.bx j=some B0→ ∃ B1,ah env.bx i (some B') j=some B1∧b8 S (μ j) (μ j) B0 B1:=by
  intro j B1 hj
  by_cases e:j=i
  · subst e
    rw [hi] at hj
    cases hj
    exact ⟨B',aL _ _ _,hc⟩
  · exact ⟨B1,by rw [aX _ _ e]; exact hj,b8.refl S _ _⟩
 have hw:=aW.setCells w (μ i).b o' vals qh
 have hl:=h.later (U:=fun j=>j=i) hw hT hU hf
 refine h.step (U:=fun j=>j=i) hw hT hU hf lZ ?_ ?_ ?_
 · rintro j k rfl rfl hne; exact absurd rfl hne
 · rintro j B1 rfl gE
   rw [aL] at gE
   cases gE
   exact hb hl fun V v hv hr=>bl.step P S hl lZ hr hv
 · rintro j vs rfl hvs v hv k hk
   rw [aL] at hvs
   have h0:=hr vs (by rcases hvs with hvs | hvs <;> · cases hvs; simp) v hv k hk
   obtain ⟨B1,gE⟩:=Option.ne_none_iff_exists'.1 h0
   obtain ⟨B2,HZ,_⟩:=lZ k B1 gE
   rw [HZ]; simp
theorem run_store (hP:aO P S af) {t:Nat} {T:Ty} (ht:S.ty t=some T) {b o':Nat} {v:Value} (hs:v.cells.size=Ty.sz S T) (bZ:w.there b o' v.cells.toList.length) (h1: ∀ c ∈ v.cells.toList,c.oneCell'=true):
 (Instr.storeAt t (.pointer (some ⟨b,o',none⟩)) v).run P w= .ok () (w.setCells b o' v.cells.toList):=by
 obtain ⟨⟨i,z,hi,hsz,_⟩,_⟩:=hP.ty t T ht
 have h2:=run_storeAt_mid (P:=P) w b o' t v.cells (by simpa using bZ) (by rw [hi]; simp [hsz,hs]) (Array.all_eq_true_iff_forall_mem.2 fun c hc=>h1 c (by simpa using hc))
 exact h2
theorem E4 (h:Inv P S w0 M0 s0 dq env a w μ) (hd: ∀ d,o.dst=some d→d<a.tmps.size) {w':World} {us:aG S.C}
 (hrun:(execOp a.eval o).run P w= .ok .skip w') (hI:Inv P S w0 M0 s0 dq { env with bx:=ai env.bx us } a w' μ)
 (hK:Goal P S w0 M0 s0 dq env a o.dst .skip us K):o.wp P a w K Q:=by
 unfold Oper.wp
 rw [hrun]
 refine hK _ w' μ (hI.put hd (V:= .skip) (v:=undef) rfl (by simp [ax,ak])) ?_
 cases o.dst <;> simp [Act.put]
theorem D3 {vs ws:List (Sy.V S.C)} {off:Nat} {p:Sy.V S.C→Bool} (h1:vs.all p=true) (h2:ws.all p=true):(setCells S vs off ws).all p=true:=by
 unfold Sy.setCells
 rw [List.all_eq_true] at *
 intro x hx
 simp only [List.mem_append] at hx
 rcases hx with (hx | hx) | hx
 · exact h1 x (List.mem_of_mem_take hx)
 · exact h2 x hx
 · exact h1 x (List.mem_of_mem_drop hx)
theorem D5 {vs ws:List (Sy.V S.C)} {off:Nat} {x:Sy.V S.C} (hx:x ∈ setCells S vs off ws):x ∈ vs∨x ∈ ws:=by
 unfold Sy.setCells at hx
 simp only [List.mem_append] at hx
 rcases hx with (hx | hx) | hx
 · exact .inl (List.mem_of_mem_take hx)
 · exact .inr hx
 · exact .inl (List.mem_of_mem_drop hx)
theorem D4 {vs ws:List (Sy.V S.C)} {off:Nat} (h:off+ws.length≤vs.length):(setCells S vs off ws).length=vs.length:=by
 unfold Sy.setCells; simp; omega
theorem zo {s:St} {bx:Bx S.C} {vs ws:List (Sy.V S.C)} {cs ds:List Value} {off:Nat} (h1:aF P S w s μ bx vs cs) (h2:aF P S w s μ bx ws ds):
 aF P S w s μ bx (setCells S vs off ws) (cs.take off++ds++cs.drop (off+ds.length)):=by
 unfold Sy.setCells
 rw [aF.length P S h2]
 exact aF.append P S (aF.append P S (h1.take P S off) h2) (h1.drop P S _)
theorem pH {bx aa:Bx S.C} {t:Ty} {V:Sy.V S.C} (h: ∀ i ∈ ax S V,aa i=bx i):datum S aa t V=datum S bx t V∧cy S aa V=cy S bx V:=by
 have nc: ∀ (W:Sy.V S.C) (t:Ty),(∀ i ∈ ak S W,aa i=bx i)→cq S aa t W=cq S bx t W:=by
  intro W t hW
  cases W with
  | aH b=>simp only [cq]; rw [hW b (by simp [ak])]
  | _=>rfl
 have BE: ∀ (W:Sy.V S.C),(∀ i ∈ ak S W,aa i=bx i)→b9 S aa W=b9 S bx W:=by
  intro W hW
  cases W with
  | aH b=>simp only [b9]; rw [hW b (by simp [ak])]
  | _=>rfl
 have NK: ∀ (ts:List Ty) (vs:List (Sy.V S.C)),(∀ v ∈ vs, ∀ i ∈ ak S v,aa i=bx i)→eO S aa ts vs=eO S bx ts vs:=by
  intro ts
  induction ts with
  | nil=>intro vs _; rfl
  | cons t ts ih=>
   intro vs hvs
   cases vs with
   | nil=>rfl
   | cons v vs=>
    simp only [eO]
    rw [nc v t (hvs v (by simp)),ih vs fun v hv=>hvs v (by simp [hv])]
 have imp_eq: ∀ (t:Ty) (vs:List (Sy.V S.C)),(∀ v ∈ vs, ∀ i ∈ ak S v,aa i=bx i)→eY S aa t vs=eY S bx t vs:=by
  intro t vs hvs
  cases t with
  | st u=>simp only [eY]; rw [NK _ vs hvs]
  | _=>
   cases vs with
   | nil=>rfl
   | cons v vs=>exact nc v _ (hvs v (by simp))
 cases V with
 | agg u vs=>
  have hvs: ∀ v ∈ vs, ∀ i ∈ ak S v,aa i=bx i:=fun v hv i hi=>h i (by simp only [ax,List.mem_flatMap]; exact ⟨v,hv,hi⟩)
  refine ⟨?_, ?_⟩
  · cases t <;> simp only [datum]
    rw [imp_eq _ vs hvs]
  · simp only [cy]
    clear h
    induction vs with
    | nil=>rfl
    | cons v vs ih=>
     simp only [List.flatMap_cons]
     rw [BE v (hvs v (by simp)),ih fun v hv=>hvs v (by simp [hv])]
 | aH b=>exact ⟨by cases t <;> first | rfl | exact nc (.aH b) _ h,BE (.aH b) h⟩
 | _=>exact ⟨by cases t <;> rfl,rfl⟩
theorem Ec (hP:aO P S af) (h:Inv P S w0 M0 s0 dq env a w μ) (hd: ∀ d,o.dst=some d→d<a.tmps.size) {t:TypeId} {x y:Operand} {ids:List Nat} (ho:o.op= .store t x y)
 (dZ: ∀ V,aK S env.tm y=some V→ ∀ i ∈ ax S V,restrict S env.bx ids i=env.bx i)
 (hl:(match S.ty t,aK S env.tm x,aK S env.tm y with
  | some u,some p,some v=>rP S u (restrict S env.bx ids) v p
  | _,_,_=> .fail).leaf (V,us)) (hK:Goal P S w0 M0 s0 dq env a o.dst V us K):o.wp P a w K Q:=by
 split at hl
 · rename_i T p v ht hx hy
   obtain ⟨hp,_⟩:=bf h hx
   obtain ⟨hv,cH⟩:=bf h hy
   cases p with
   | ptr b off=>
    simp only [rP] at hl
    split at hl
    · rename_i vs hb
      have hb:=dA hb
      cases hf:fits S (cellsOf S v) (Ty.sz S T)&&Nat.ble (off+Ty.sz S T) vs.length with
      | false=>rw [hf] at hl; exact hl.elim
      | true=>
       rw [hf] at hl
       obtain ⟨rfl,rfl⟩:=bg hl
       rw [Bool.and_eq_true] at hf
       obtain ⟨f1,f2⟩:=wL hf.1
       have f3:=Nat.le_of_ble_eq_true hf.2
       obtain ⟨c1,c2⟩:=vX hP.tocm f2 hv
       have GR:=aF.length P S c1
       obtain ⟨b1,b2,b3,cs,b4,b5⟩:=h.bE b _ hb
       have O3:=aF.length P S b5
       have bF:live S env.bx b:=by unfold live; rw [hb]; trivial
       have hle:off+(a.eval y).cells.toList.length≤cs.length:=by omega
       have bZ:w.there (μ b).b ((μ b).o+off) (a.eval y).cells.toList.length:=jD b3 (by omega) (by omega)
       have hp:a.eval x= .pointer (some ⟨(μ b).b,(μ b).o+off,none⟩):=hp
       have hrun:(execOp a.eval o).run P w= .ok .skip (w.setCells (μ b).b ((μ b).o+off) (a.eval y).cells.toList):=by
        unfold execOp
        simp only [ho,hp]
        have :=run_store hP ht (b:=(μ b).b) (o':=(μ b).o+off) (v:=a.eval y) (w:=w) (by rw [← f1, ← GR]; simp) bZ (rO f2 c1)
        simp [this]
       refine E4 h hd hrun ?_ hK
       show Inv P S w0 M0 s0 dq { env with bx:=ah env.bx b (some (.cells (setCells S vs off (cellsOf S v)))) } a _ μ
       refine h.write hb bF (fun _ e=>nomatch e) (by omega) (by omega) rfl (fun hl jS=>⟨D3 b1 f2,by rw [D4 (by omega)]; exact b2,oB b3 bZ,_,Dl b4 off hle, ?_⟩) fun ws fA u hu j hj=> ?_
       · refine zo (aF.map jS (fun v hv=>h.gN b vs (.inl hb) v hv) b5) (aF.map jS (fun u hu j hj=>cH j (c2 u hu j hj)) c1)
       · rcases fA with fA | fA
         · cases fA
           rcases D5 hu with hu | hu
           · exact h.gN b vs (.inl hb) u hu j hj
           · exact cH j (c2 u hu j hj)
         · cases fA
    · exact hl.elim
   | dJ b i off=>
    simp only [rP] at hl
    split at hl
    · rename_i e l hb
      have hb:=dA hb
      split at hl
      · rename_i z hz
        obtain ⟨d1,d2⟩:=pH (t:=T) (dZ v hy)
        rw [d1] at hz
        rw [d2] at hl
        cases hf:Nat.ble (off+Ty.sz S T) (Ty.sz S e)&&(cy S env.bx v).all (fun u=> !Nat.beq u.1 b) with
        | false=>rw [hf] at hl; exact hl.elim
        | true=>
         rw [hf,cond_true] at hl
         rw [Bool.and_eq_true] at hf
         split at hl
         · rename_i e' he'
           obtain ⟨rfl,rfl⟩:=bg hl
           have f3:=Nat.le_of_ble_eq_true hf.1
           obtain ⟨k1,r1⟩:=sS hP.tocm h (Tk.refl S env.bx) hv hz
           have h1:=h.tk k1
           have eg:ai env.bx (cy S env.bx v) b=some (.arr e l):=by
            rw [oF _ _ fun u hu=> ?_]
            · exact hb
            · have :=List.all_eq_true.1 hf.2 u hu
              intro e
              rw [e,Nat.beq_refl] at this
              cases this
           obtain ⟨_,qg⟩:=h1.f_ 0 |> fun _=>(show RV P S w (aD S w0 M0 s0 env.bx μ w) μ env.bx (.dJ b i off) (a.eval x) from hp)
           obtain ⟨i0,i1,Cq⟩:=qg e l (.inl hb)
           obtain ⟨g1,g2,g3,g4,g5⟩:=h1.bE b _ eg
           have xz:l[i.toNat]? =some (eI S e l i):=nE i0 (by omega)
           obtain ⟨ds,G4,G5,n,G6⟩:=g5 _ _ xz
           have r2:bS S w (aD S w0 M0 s0 (ai env.bx (cy S env.bx v)) μ w) T z (a.eval y):=by
            refine r1.mono S fun b' o' ⟨q1,q2,q3⟩=>⟨⟨q1,q2,fun j hj=> ?_⟩,rfl⟩
            rcases q3 j ((di S (k1.cQ hj)).1 hj) with ⟨_,_,hq⟩ | hq
            · unfold live at hj; rw [hq] at hj; exact hj.elim
            · exact hq
           obtain ⟨m,r3⟩:=r2.2
           have hvl:=r3.length S
           have hrow:(i.toNat+1)*Ty.sz S e≤(μ b).cap*Ty.sz S e:=Nat.mul_le_mul_right _ (by omega)
           rw [Nat.add_mul,Nat.one_mul] at hrow
           have bF:live S (ai env.bx (cy S env.bx v)) b:=by unfold live; rw [eg]; trivial
           have bZ:w.there (μ b).b ((μ b).o+(i.toNat*Ty.sz S e+off)) (a.eval y).cells.toList.length:=jD g4 (by omega) (by omega)
           obtain ⟨x1,x2,x3⟩:=ja (P:=P) hP.tocm μ (ai env.bx (cy S env.bx v)) r3
           obtain ⟨y1,y2,y3⟩:=ja (P:=P) hP.tocm μ (ai env.bx (cy S env.bx v)) G6
           have Pn:=aF.length P S x1
           have Po:=aF.length P S y1
           have hrun:(execOp a.eval o).run P w= .ok .skip (w.setCells (μ b).b ((μ b).o+(i.toNat*Ty.sz S e+off)) (a.eval y).cells.toList):=by
            unfold execOp
            rw [show (μ b).o+i.toNat*Ty.sz S e+off=(μ b).o+(i.toNat*Ty.sz S e+off) from by omega] at Cq
            simp only [ho,Cq]
            have :=run_store hP ht (b:=(μ b).b) (o':=(μ b).o+(i.toNat*Ty.sz S e+off)) (v:=a.eval y) (w:=w) (by rw [← hvl]; simp) bZ (rO x2 x1)
            simp [this]
           refine E4 h hd hrun ?_ hK
           rw [fG]
           show Inv P S w0 M0 s0 dq { env with bx:=ah (ai env.bx (cy S env.bx v)) b (some (.arr e (l.set i.toNat e'))) } a _ μ
           refine h1.write (B':= .arr e (l.set i.toNat e')) eg bF (fun _ e=>nomatch e) (by omega) (by omega) ⟨rfl,rfl,by simp⟩ (fun hl jS=>⟨g1,g2,by simpa using g3,oB g4 bZ,fun k q hk=> ?_⟩) fun ws fA=>by rcases fA with fA | fA <;> cases fA
           by_cases ek:i.toNat=k
           · subst ek
             rw [List.getElem?_set_self (by omega)] at hk
             cases hk
             rw [show (μ b).o+(i.toNat*Ty.sz S e+off)=(μ b).o+i.toNat*Ty.sz S e+off from by omega] at hl ⊢
             refine ⟨_, ?_,Dl (cs:=ds) (vals:=(a.eval y).cells.toList) G5 off (by omega), ?_⟩
             · rw [List.length_append,List.length_append,List.length_take,List.length_drop]; omega
             · obtain ⟨q,hq⟩:=Cz (P:=P) hP.tocm (zo (off:=off) y1 x1) he'
               refine ⟨q, ?_⟩
               have :=hq.mono S hl (Nat.le_refl _)
               rw [List.take_of_length_le (by rw [List.length_append,List.length_append,List.length_take,List.length_drop]; omega)] at this
               exact this
           · rw [List.getElem?_set_ne ek] at hk
             obtain ⟨ds',p1,p2,p3,p4⟩:=g5 k q hk
             refine ⟨ds',p1,n6 p2 (.inr ?_),p3,p4.mono S hl (Nat.le_refl _)⟩
             rcases Nat.lt_or_gt_of_ne ek with hlt | hlt
             · right
               have :(i.toNat+1)*Ty.sz S e≤k*Ty.sz S e:=Nat.mul_le_mul_right _ (by omega)
               rw [Nat.add_mul,Nat.one_mul] at this
               omega
             · left
               have :(k+1)*Ty.sz S e≤i.toNat*Ty.sz S e:=Nat.mul_le_mul_right _ (by omega)
               rw [Nat.add_mul,Nat.one_mul] at this
               omega
         · exact hl.elim
      · exact hl.elim
    · exact hl.elim
   | _=>exact hl.elim
 · exact hl.elim
end
end Go.Sy
namespace Go.Sy
section
variable {P:Program} {S:aN} {af:Nat→Nat}
variable {w0:World} {M0 s0:St} {dq:List Deferred} {env:Env S.C} {a:Act} {w:World} {μ:Nat→Loc} {K:Act→World→Prop} {Q:Exit→Act→World→Prop} {o:Oper} {V:V S.C} {us:aG S.C}
theorem jj {α β:Type} {f:α→Option β} {x:α} {r:List α} {ys:List β} (h:(x::r).mapM f=some ys): ∃ y zs,f x=some y∧r.mapM f=some zs∧ys=y::zs:=by
 rw [List.mapM_cons] at h
 cases hx:f x with
 | none=>rw [hx] at h; cases h
 | some y=>
  rw [hx] at h
  cases hr:r.mapM f with
  | none=>rw [hr] at h; cases h
  | some zs=>rw [hr] at h; cases h; exact ⟨y,zs,rfl,rfl,rfl⟩
def sA (P:Program) (S:aN) (w:World) (s:St) (μ:Nat→Loc) (bx:Bx S.C):List (Nat×Sy.V S.C)→List (Nat×Value)→Prop
 | [],qs=>qs= []
 | p::ps,qs=> ∃ v r,qs=(p.1,v)::r∧RV P S w s μ bx p.2 v∧sA P S w s μ bx ps r
theorem yz (h:Inv P S w0 M0 s0 dq env a w μ): ∀ {parts:List (Nat×Operand)} {ps:List (Nat×Sy.V S.C)},parts.mapM (fun (p:Nat×Operand)=>(aK S env.tm p.2).map fun v=>(p.1,v))=some ps→
 sA P S w (aD S w0 M0 s0 env.bx μ w) μ env.bx ps (parts.map fun (i,x)=>(i,a.eval x))∧ ∀ p ∈ ps, ∃ x i,(i,x) ∈ parts∧aK S env.tm x=some p.2
 | [],ps,hp=>by cases hp; exact ⟨rfl,by simp⟩
 | (i,x)::r,ps,hp=>by
  obtain ⟨y,zs,h1,h2,rfl⟩:=jj hp
  obtain ⟨h3,h4⟩:=yz h h2
  cases hx:aK S env.tm x with
  | none=>rw [hx] at h1; cases h1
  | some v=>
   rw [hx] at h1
   cases h1
   refine ⟨⟨a.eval x,_,rfl,(bf h hx).1,h3⟩,fun p hp=> ?_⟩
   rcases List.mem_cons.1 hp with rfl | hp
   · exact ⟨x,i,by simp,hx⟩
   · obtain ⟨x',i',h5,h6⟩:=h4 p hp
     exact ⟨x',i',by simp [h5],h6⟩
theorem sG (h:Inv P S w0 M0 s0 dq env a w μ): ∀ {xs:List Operand} {vs:List (Sy.V S.C)},xs.mapM (aK S env.tm)=some vs→
 dO P S w (aD S w0 M0 s0 env.bx μ w) μ env.bx vs (xs.map a.eval)∧ ∀ v ∈ vs, ∃ x ∈ xs,aK S env.tm x=some v
 | [],vs,hp=>by cases hp; exact ⟨rfl,by simp⟩
 | x::r,ps,hp=>by
  obtain ⟨y,zs,h1,h2,rfl⟩:=jj hp
  obtain ⟨h3,h4⟩:=sG h h2
  refine ⟨⟨a.eval x,_,rfl,(bf h h1).1,h3⟩,fun p hp=> ?_⟩
  rcases List.mem_cons.1 hp with rfl | hp
  · exact ⟨x,by simp,h1⟩
  · obtain ⟨x',h5,h6⟩:=h4 p hp
    exact ⟨x',by simp [h5],h6⟩
theorem BD (off:Nat): ∀ (l:List Value) (k:Nat) (cells:Array Value),off+k+l.length≤cells.size→
 ((l.zipIdx k).foldl (fun cs p=>cs.setIfInBounds (off+p.2) p.1) cells).toList=cells.toList.take (off+k)++l++cells.toList.drop (off+k+l.length)
 | [],k,cells,h=>by simp
 | v::l,k,cells,h=>by
  simp only [List.zipIdx_cons,List.foldl_cons]
  simp only [List.length_cons] at h
  rw [BD off l (k+1) _ (by simp; omega)]
  have hc:(cells.setIfInBounds (off+k) v).toList=cells.toList.set (off+k) v:=by simp
  have hlen:cells.toList.length=cells.size:=by simp
  rw [hc,show off+(k+1)=off+k+1 from rfl,List.drop_set_of_lt (by omega)]
  have ht:(cells.toList.set (off+k) v).take (off+k+1)=cells.toList.take (off+k)++ [v]:=by
   rw [List.take_add_one,List.take_set_of_le (Nat.le_refl _),List.getElem?_set_self (by omega)]
   rfl
  rw [ht,List.length_cons]
  simp [show off+k+1+l.length=off+k+(l.length+1) from by omega]
theorem By (place:Nat→Option (Nat×Nat)) {i off size:Nat} (hp:place i=some (off,size)) {v:Value} (hv:v.cells.size=size) {cells:Array Value} (hle:off+size≤cells.size) (rest:List (Nat×Value)):
 ∃ cells',cells'.toList=cells.toList.take off++v.cells.toList++cells.toList.drop (off+v.cells.toList.length)∧Instr.fill place cells ((i,v)::rest)=Instr.fill place cells' rest:=by
 refine ⟨v.cells.zipIdx.foldl (fun cs (c,j)=>cs.setIfInBounds (off+j) c) cells, ?_, ?_⟩
 · have :=BD off v.cells.toList 0 cells (by simp; omega)
   simp only [Nat.add_zero] at this
   rw [← this]
   congr 1
   rw [← Array.foldl_toList]
   simp
 · simp only [Instr.fill,hp]
   rw [if_neg]
   simp only [hv]
   simp
   omega
theorem Bt (hS:cm S) {s:St} {bx:Bx S.C} {u:Nat} {place:Nat→Option (Nat×Nat)} (hp: ∀ f o T,S.dy u f=some (o,T)→place f=some (o,Ty.sz S T)):
 ∀ {ps:List (Nat×Sy.V S.C)} {qs:List (Nat×Value)} {vs vs':List (Sy.V S.C)} {cells:Array Value},sA P S w s μ bx ps qs→aF P S w s μ bx vs cells.toList→vs.all (br S)=true→pR S u vs ps=some vs'→
 ∃ cells',Instr.fill place cells qs=some cells'∧aF P S w s μ bx vs' cells'.toList∧vs'.all (br S)=true∧vs'.length=vs.length∧ ∀ v ∈ vs',v ∈ vs∨ ∃ p ∈ ps, ∀ j ∈ ak S v,j ∈ ax S p.2
 | [],qs,vs,vs',cells,h1,h2,h3,h4=>by
  cases h1; cases h4
  exact ⟨cells,rfl,h2,h3,rfl,fun v hv=> .inl hv⟩
 | (i,W)::ps,qs,vs,vs',cells,⟨v,r,hq,hv,hr⟩,h2,h3,h4=>by
  subst hq
  simp only [pR] at h4
  split at h4
  · rename_i off T hf
    cases hc:fits S (cellsOf S W) (Ty.sz S T)&&Nat.ble (off+Ty.sz S T) vs.length with
    | false=>rw [hc] at h4; cases h4
    | true=>
     rw [hc,cond_true] at h4
     rw [Bool.and_eq_true] at hc
     obtain ⟨f1,f2⟩:=wL hc.1
     have f3:=Nat.le_of_ble_eq_true hc.2
     obtain ⟨c1,c2⟩:=vX hS f2 hv
     have l1:=aF.length P S c1
     have l2:=aF.length P S h2
     obtain ⟨cells',e1,e2⟩:=By place (hp _ _ _ hf) (v:=v) (cells:=cells) (by rw [← f1, ← l1]; simp) (by rw [← l2] at f3; simpa using f3) r
     obtain ⟨vW,g1,g2,g3,g4,g5⟩:=Bt hS hp (cells:=cells') hr (by rw [e1]; exact zo h2 c1) (D3 h3 f2) h4
     refine ⟨vW,by rw [e2]; exact g1,g2,g3,by rw [g4,D4 (by omega)],fun v hv=> ?_⟩
     rcases g5 v hv with hv | ⟨p,hp,hv⟩
     · rcases D5 hv with hv | hv
       · exact .inl hv
       · exact .inr ⟨(i,W),by simp,c2 v hv⟩
     · exact .inr ⟨p,by simp [hp],hv⟩
  · cases h4
theorem Gh (hP:aO P S af) (h:Inv P S w0 M0 s0 dq env a w μ) (hd: ∀ d,o.dst=some d→d<a.tmps.size) {t:TypeId} {parts:Array (Nat×Operand)} (ho:o.op= .build t parts)
 (hl:(match S.ty t with
  | some (.st u)=>match parts.toList.mapM (fun (p:Nat×Operand)=>(aK S env.tm p.2).map fun v=>(p.1,v)) with
   | some ps=>match pR S u (zeroCells S (.st u)) ps with
    | some vs=>ay S (.agg u vs) []
    | none=> .fail
   | none=> .fail
  | _=> .fail).leaf (V,us)) (hK:Goal P S w0 M0 s0 dq env a o.dst V us K):o.wp P a w K Q:=by
 split at hl
 · rename_i u ht
   split at hl
   · rename_i ps hps
     split at hl
     · rename_i vs hvs
       obtain ⟨rfl,rfl⟩:=bg hl
       obtain ⟨p1,p2⟩:=yz h hps
       obtain ⟨⟨i,z,h1,h2,h3,h4,h5⟩,⟨Ph,Ij⟩,tF⟩:=hP.ty t _ ht
       obtain ⟨b0,hb0⟩:=Option.isSome_iff_exists.1 Ij
       obtain ⟨z1,z2,z3⟩:=Fc (P:=P) (w:=w) (μ:=μ) hP.tocm (s:=aD S w0 M0 s0 env.bx μ w) (bx:=env.bx) (.st u)
       have Ik: ∃ place:Nat→Option (Nat×Nat),(∀ qs,P.built t qs=Instr.fill place z.cells qs)∧ ∀ f o T,S.dy u f=some (o,T)→place f=some (o,Ty.sz S T):=by
        cases har:S.ar t with
        | some p=>
         rw [har] at tF
         obtain ⟨te,hu,hte,_,hfl⟩:=tF
         obtain ⟨⟨ie,ze,e1,e2,_⟩,_⟩:=hP.ty te _ hte
         refine ⟨fun i=>some (i*ie.size,ie.size),fun qs=> ?_,fun f o' T hf=> ?_⟩
         · unfold Program.built
           simp only [h1,hu,h3,e1]
         · obtain ⟨rfl,rfl,_⟩:=hfl f o' T hf
           simp [e2]
        | none=>
        rw [har] at tF
        obtain ⟨fs,hu,jV⟩:=tF
        unfold Program.built at hb0
        simp only [h1,hu,h3] at hb0
        cases hpl:fs.toList.mapM (fun f=>(P.info? f.type).map fun i=>(f.offset,i.size)) with
        | none=>rw [hpl] at hb0; cases hb0
        | some places=>
         refine ⟨(places.toArray[·]?),fun qs=> ?_,fun f o' T hf=> ?_⟩
         · unfold Program.built
           simp only [h1,hu,h3,hpl]
         · obtain ⟨fd,d1,d2,d3,d4,d5⟩:=jV f o' T hf
           obtain ⟨⟨i',z',e1,e2,_⟩,_⟩:=hP.ty _ _ d3
           have fu: ∀ (l:List Field) (ys:List (Nat×Nat)) (k:Nat) (fd:Field),l.mapM (fun f=>(P.info? f.type).map fun i=>(f.offset,i.size))=some ys→l[k]? =some fd→ ∃ y,ys[k]? =some y∧(P.info? fd.type).map (fun i=>(fd.offset,i.size))=some y:=by
            intro l
            induction l with
            | nil=>intro ys k fd _ hk; simp at hk
            | cons x l ih=>
             intro ys k fd hys hk
             obtain ⟨y,zs,q1,q2,rfl⟩:=jj hys
             cases k with
             | zero=>simp at hk; subst hk; exact ⟨y,by simp,q1⟩
             | succ k=>
              obtain ⟨y',q3,q4⟩:=ih zs k fd q2 (by simpa using hk)
              exact ⟨y',by simpa using q3,q4⟩
           obtain ⟨y,q1,q2⟩:=fu fs.toList places f fd hpl (by simpa using d1)
           rw [e1] at q2
           simp at q2
           simp [q1, ← q2,d2,e2]
       obtain ⟨place,g1,g2⟩:=Ik
       obtain ⟨cells',k1,k2,k3,k4,k5⟩:=Bt hP.tocm g2 (cells:=z.cells) p1 (by rw [h5]; exact z1) z2 hvs
       refine wp_pure (V:= .agg u vs) h (v:= .agg cells') ?_ hd ⟨cells',rfl, ?_,k3,k2⟩ (fun j hj=> ?_) hK
       · unfold execOp
         simp only [ho]
         have :=run_build (P:=P) w t (parts.map fun (i,x)=>(i,a.eval x)) cells' (by rw [g1,Array.toList_map]; exact k1)
         simp [this]
       · rw [k4]; simp [zeroCells]
       · simp only [ax,List.mem_flatMap] at hj
         obtain ⟨v,hv,hj⟩:=hj
         rcases k5 v hv with hv | ⟨p,hp,hv⟩
         · rw [z3 v hv] at hj; simp at hj
         · obtain ⟨x,i',_,hx⟩:=p2 p hp
           exact (bf h hx).2 j (hv j hj)
     · exact hl.elim
   · exact hl.elim
 · exact hl.elim
end
end Go.Sy
namespace Go.Sy
section
variable {P:Program} {S:aN} {af:Nat→Nat}
variable {w0:World} {M0 s0:St} {dq:List Deferred} {env:Env S.C} {a:Act} {w:World} {μ:Nat→Loc} {K:Act→World→Prop} {Q:Exit→Act→World→Prop} {o:Oper} {V:V S.C} {us:aG S.C}
def cl (bx:Bx S.C) (us:aG S.C):Prop:= ∀ u ∈ us, ∃ e l,u.2= .bn e l∧bx u.1=some (.arr e l)
theorem cl.append {bx:Bx S.C} {us vs:aG S.C} (h1:cl bx us) (h2:cl bx vs):cl bx (us++vs):=fun u hu=>(List.mem_append.1 hu).elim (h1 u) (h2 u)
theorem cl.at {bx:Bx S.C} : ∀ {us:aG S.C} (aa:Bx S.C),cl bx us→ ∀ i,(ai aa us i=aa i∧ ∀ u ∈ us,u.1≠i)∨((∃ u ∈ us,u.1=i)∧ ∃ e l,bx i=some (.arr e l)∧ai aa us i=some (.bn e l))
 | [],aa,_,i=> .inl ⟨rfl,by simp⟩
 | u::us,aa,h,i=>by
  rcases cl.at (us:=us) (ah aa u.1 (some u.2)) (fun v hv=>h v (by simp [hv])) i with ⟨h1,h2⟩ | ⟨⟨v,hv,h1⟩,h2⟩
  · by_cases e:u.1=i
    · right
      refine ⟨⟨u,by simp,e⟩, ?_⟩
      obtain ⟨e',l,h3,h4⟩:=h u (by simp)
      refine ⟨e',l,e▸h4, ?_⟩
      show ai (ah aa u.1 (some u.2)) us i=_
      rw [h1, ← e,aL,h3]
    · left
      refine ⟨?_,fun v hv=> ?_⟩
      · show ai (ah aa u.1 (some u.2)) us i=_
        rw [h1,aX _ _ (Ne.symm e)]
      · rcases List.mem_cons.1 hv with rfl | hv
        · exact e
        · exact h2 v hv
  · exact .inr ⟨⟨v,by simp [hv],h1⟩,h2⟩
theorem cl.tk {bx:Bx S.C} {us US:aG S.C} (h:cl bx US) (hs: ∀ u ∈ us,u ∈ US):Tk S (ai bx us) (ai bx US):=by
 intro i
 have h0:cl bx us:=fun u hu=>h u (hs u hu)
 rcases cl.at bx h i with ⟨h1,h2⟩ | ⟨_,e,l,h1,h2⟩
 · rcases cl.at bx h0 i with ⟨h3,_⟩ | ⟨⟨u,hu,h3⟩,_⟩
   · exact .inl (h1.trans h3.symm)
   · exact absurd h3 (h2 u (hs u hu))
 · rcases cl.at bx h0 i with ⟨h3,_⟩ | ⟨_,e',l',h3,h4⟩
   · exact .inr (.inr ⟨e,l,h3.trans h1,h2⟩)
   · rw [h1] at h3; cases h3
     exact .inl (h2.trans h4.symm)
theorem cl.ki {bx:Bx S.C} {US:aG S.C} (h:cl bx US):Tk S bx (ai bx US):=cl.tk (us:= []) h (by simp)
theorem cl.b9 (bx:Bx S.C) (V:Sy.V S.C):cl bx (b9 S bx V):=by
 cases V with
 | aH b=>
  unfold Sy.b9
  dsimp only
  split
  · rename_i e l hb
    intro u hu
    simp at hu
    subst hu
    exact ⟨e,l,rfl,hb⟩
  · intro u hu; simp at hu
 | _=>intro u hu; simp [Sy.b9] at hu
theorem cl.cy (bx:Bx S.C) (V:Sy.V S.C):cl bx (cy S bx V):=by
 cases V with
 | agg u vs=>
  intro x hx
  simp only [Sy.cy,List.mem_flatMap] at hx
  obtain ⟨v,_,hx⟩:=hx
  exact cl.b9 bx v x hx
 | aH b=>exact cl.b9 bx (.aH b)
 | _=>intro u hu; simp [Sy.cy,Sy.b9] at hu
theorem vl {aa:Bx S.C} (hk:Tk S env.bx aa):bC w (bU S w0 M0 s0 env.bx aa μ w) w (aD S w0 M0 s0 aa μ w):=fun b o ⟨q1,q2,q3⟩=>
 ⟨⟨q1,q2,fun j hj=>by
  rcases q3 j ((di S (hk.cQ hj)).1 hj) with ⟨_,_,hq⟩ | hq
  · unfold live at hj; rw [hq] at hj; exact hj.elim
  · exact hq⟩,rfl⟩
def cv (w:World) (s:St) (e:Ty) (l:List (e.den S.C)) (cs:List Value):Prop:=
 cs.length=l.length*Ty.sz S e∧ ∀ i x,l[i]? =some x→ ∃ n,az S w s n e x ((cs.drop (i*Ty.sz S e)).take (Ty.sz S e))
theorem cv.nil {s:St} {e:Ty} :cv w s e ([]:List (e.den S.C)) []:=⟨by simp,fun i x h=>by simp at h⟩
theorem cv.later {w':World} {s s':St} (hl:bC w s w' s') {e:Ty} {l:List (e.den S.C)} {cs:List Value} (h:cv w s e l cs):cv w' s' e l cs:=
 ⟨h.1,fun i x hi=>(h.2 i x hi).imp fun _ hr=>hr.mono S hl (Nat.le_refl _)⟩
theorem cv.append {s:St} {e:Ty} {l l':List (e.den S.C)} {cs cs':List Value} (h:cv w s e l cs) (h':cv w s e l' cs'):cv w s e (l++l') (cs++cs'):=by
 refine ⟨by simp [h.1,h'.1,Nat.add_mul],fun i x hi=> ?_⟩
 by_cases hlt:i<l.length
 · rw [List.getElem?_append_left hlt] at hi
   obtain ⟨n,hn⟩:=h.2 i x hi
   refine ⟨n, ?_⟩
   have :(i+1)*Ty.sz S e≤l.length*Ty.sz S e:=Nat.mul_le_mul_right _ (by omega)
   rw [Nat.add_mul,Nat.one_mul, ← h.1] at this
   rw [List.drop_append_of_le_length (by omega),List.take_append_of_le_length (by simp; omega)]
   exact hn
 · rw [List.getElem?_append_right (by omega)] at hi
   obtain ⟨n,hn⟩:=h'.2 _ x hi
   refine ⟨n, ?_⟩
   have h1:i*Ty.sz S e=cs.length+(i - l.length)*Ty.sz S e:=by
    rw [h.1, ← Nat.add_mul]; congr 1; omega
   rw [h1,List.drop_append]
   simp only [List.drop_of_length_le (Nat.le_add_right cs.length _),List.nil_append,Nat.add_sub_cancel_left]
   exact hn
theorem cv.set {s:St} {e:Ty} {l:List (e.den S.C)} {cs:List Value} (h:cv w s e l cs) {i:Nat} (hi:i<l.length) {x:e.den S.C} {n:Nat} {ds:List Value} (hx:az S w s n e x ds):
 cv w s e (l.set i x) (cs.take (i*Ty.sz S e)++ds++cs.drop (i*Ty.sz S e+ds.length)):=by
 have hd:=hx.length S
 have hle:(i+1)*Ty.sz S e≤l.length*Ty.sz S e:=Nat.mul_le_mul_right _ (by omega)
 rw [Nat.add_mul,Nat.one_mul, ← h.1] at hle
 refine ⟨?_,fun k y hk=> ?_⟩
 · rw [List.length_append,List.length_append,List.length_take,List.length_drop,List.length_set, ← h.1]; omega
 · by_cases ek:i=k
   · subst ek
     rw [List.getElem?_set_self hi] at hk
     cases hk
     refine ⟨n, ?_⟩
     rw [List.append_assoc,List.drop_append_of_le_length (by simp; omega),List.drop_of_length_le (by simp; omega),List.nil_append, ← hd,List.take_left]
     exact hx
   · rw [List.getElem?_set_ne ek] at hk
     have hkl:=(List.getElem?_eq_some_iff.1 hk).1
     obtain ⟨m,hm⟩:=h.2 k y hk
     refine ⟨m, ?_⟩
     rcases Nat.lt_or_gt_of_ne ek with hlt | hlt
     · have hki:(i+1)*Ty.sz S e≤k*Ty.sz S e:=Nat.mul_le_mul_right _ (by omega)
       rw [Nat.add_mul,Nat.one_mul] at hki
       have hpre:(cs.take (i*Ty.sz S e)++ds).length=i*Ty.sz S e+ds.length:=by rw [List.length_append,List.length_take]; omega
       rw [show k*Ty.sz S e=(cs.take (i*Ty.sz S e)++ds).length+(k*Ty.sz S e - (i*Ty.sz S e+ds.length)) from by rw [hpre]; omega,List.drop_append]
       simp only [List.drop_of_length_le (Nat.le_add_right _ _),List.nil_append,Nat.add_sub_cancel_left,List.drop_drop]
       rw [show i*Ty.sz S e+ds.length+(k*Ty.sz S e - (i*Ty.sz S e+ds.length))=k*Ty.sz S e from by omega]
       exact hm
     · have hki:(k+1)*Ty.sz S e≤i*Ty.sz S e:=Nat.mul_le_mul_right _ (by omega)
       rw [Nat.add_mul,Nat.one_mul] at hki
       rw [List.append_assoc,List.drop_append_of_le_length (by simp; omega),List.take_append_of_le_length (by simp; omega),List.drop_take,List.take_take]
       rw [show min (Ty.sz S e) (i*Ty.sz S e - k*Ty.sz S e)=Ty.sz S e from by omega]
       exact hm
theorem cv.replicate {s:St} {e:Ty} {x:e.den S.C} {n:Nat} {z:Array Value} (hx:az S w s n e x z.toList) (k:Nat):cv w s e (List.replicate k x) (madeCells z (k*Ty.sz S e)).toList:=by
 have hz:=hx.length S
 have hzs:z.size=Ty.sz S e:=by rw [← hz]; simp
 refine ⟨by simp [size_madeCells],fun i y hi=>⟨n, ?_⟩⟩
 have nN:=(List.getElem?_eq_some_iff.1 hi).1
 rw [List.length_replicate] at nN
 rw [List.getElem?_replicate,if_pos nN] at hi
 cases hi
 have :((madeCells z (k*Ty.sz S e)).toList.drop (i*Ty.sz S e)).take (Ty.sz S e)=z.toList:=by
  apply List.ext_getElem?
  intro j
  rw [List.getElem?_take]
  have hrow:(i+1)*Ty.sz S e≤k*Ty.sz S e:=Nat.mul_le_mul_right _ (by omega)
  rw [Nat.add_mul,Nat.one_mul] at hrow
  by_cases hj:j<Ty.sz S e
  · rw [if_pos hj,List.getElem?_drop]
    have hmod:(i*Ty.sz S e+j) % z.size=j:=by
     rw [hzs,Nat.mul_comm,Nat.mul_add_mod,Nat.mod_eq_of_lt hj]
    simp [madeCells]
    rw [List.getElem?_range (by omega)]
    rw [Option.map_some,hmod]
    simp [hzs,hj]
  · rw [if_neg hj,List.getElem?_eq_none (by omega)]
 rw [this]
 exact hx
theorem DH {s:St} {e:Ty} {b:Nat} : ∀ {l:List (e.den S.C)} {o':Nat},(∀ i x,l[i]? =some x→ ∃ ds,ds.length=Ty.sz S e∧w.rangeAt b (o'+i*Ty.sz S e) ds∧ ∃ n,az S w s n e x ds)→
 ∃ cs,w.rangeAt b o' cs∧cv w s e l cs
 | [],_,_=>⟨[],fun j v h=>by simp at h,cv.nil⟩
 | x::l,o',h=>by
  obtain ⟨ds,d1,d2,n,d3⟩:=h 0 x rfl
  obtain ⟨cs,c1,c2⟩:=DH (s:=s) (l:=l) (o':=o'+Ty.sz S e) fun i y hi=>by
   obtain ⟨ds,d1,d2,d3⟩:=h (i+1) y (by simpa using hi)
   refine ⟨ds,d1, ?_,d3⟩
   rw [Nat.add_mul,Nat.one_mul] at d2
   rw [show o'+Ty.sz S e+i*Ty.sz S e=o'+(i*Ty.sz S e+Ty.sz S e) from by omega]
   exact d2
  simp only [Nat.zero_mul,Nat.add_zero] at d2
  refine ⟨ds++cs,fun j v hj=> ?_,cv.append (l:= [x]) (l':=l) ⟨by simp [d1],fun i y hi=> ?_⟩ c2⟩
  · by_cases hlt:j<ds.length
    · rw [List.getElem?_append_left hlt] at hj; exact d2 j v hj
    · rw [List.getElem?_append_right (by omega)] at hj
      have :=c1 _ v hj
      rw [show o'+Ty.sz S e+(j - ds.length)=o'+j from by omega] at this
      exact this
  · cases i with
    | zero=>simp at hi; subst hi; exact ⟨n,by simpa [← d1] using d3⟩
    | succ i=>simp at hi
theorem cv.row {s:St} {e:Ty} {l:List (e.den S.C)} {cs:List Value} (h:cv w s e l cs) {w':World} {b o':Nat} (hr:w'.rangeAt b o' cs):
 ∀ i x,l[i]? =some x→ ∃ ds,ds.length=Ty.sz S e∧w'.rangeAt b (o'+i*Ty.sz S e) ds∧ ∃ n,az S w s n e x ds:=fun i x hi=>by
 obtain ⟨n,hn⟩:=h.2 i x hi
 exact ⟨_,hn.length S,yL hr _ _,n,hn⟩
theorem zW (hP:aO P S af) {t:Nat} {T:Ty} (ht:S.ty t=some T) (s:St): ∃ n,az S w s n T (Ty.zero S T) (mW S T):=by
 have z1: ∀ (T:Ty),aZ T=false→az S w s 1 T (Ty.zero S T) [oN T]:=by
  intro T hT
  cases T with
  | int k=>rfl
  | bool=>rfl
  | str=>rfl
  | pt=>rfl
  | sl e=>exact ⟨none,0,rfl,Nat.le_refl _, .inl rfl⟩
  | st u=>simp [aZ] at hT
 cases T with
 | st u=>
  obtain ⟨_,⟨hz,_⟩,_⟩:=hP.ty t _ ht
  refine ⟨2, ?_⟩
  show bh S _ (S.F u) (S.ex u (S.z u)) ((S.F u).map oN)
  rw [hz]
  have : ∀ (ts:List Ty),ts.all (fun t=> !aZ t)=true→bh S (fun t x cs=>az S w s 1 t x cs) ts (lG S ts) (ts.map oN):=by
   intro ts
   induction ts with
   | nil=>intro _; rfl
   | cons t ts ih=>
    intro h
    simp only [List.all_cons,Bool.and_eq_true,Bool.not_eq_true'] at h
    refine ⟨_,_,rfl, ?_, ?_⟩
    · rw [show ag.head (lG S (t::ts))=Ty.zero S t from by cases ts <;> rfl]
      exact z1 t h.1
    · rw [show ag.tail (lG S (t::ts))=lG S ts from by cases ts <;> rfl]
      exact ih h.2
  exact this _ (hP.flat u)
 | int k=>exact ⟨1,z1 _ rfl⟩
 | bool=>exact ⟨1,z1 _ rfl⟩
 | str=>exact ⟨1,z1 _ rfl⟩
 | pt=>exact ⟨1,z1 _ rfl⟩
 | sl e=>exact ⟨1,z1 _ rfl⟩
theorem zT (h:Inv P S w0 M0 s0 dq env a w μ) (hd: ∀ d,o.dst=some d→d<a.tmps.size) {us:aG S.C} {B:Nat} {e:Ty} {l:List (e.den S.C)} {t:TypeId} {cap:Nat} {cells:Array Value} {cs:List Value}
 (hk:Tk S env.bx (ai env.bx us)) (hB:ai env.bx us B=none) {w1:World} (hw1:w1.heap=w.heap) (xI:w1.os=w.os∧w1.tape=w.tape∧w1.output=w.output)
 (hrun:(execOp a.eval o).run P w= .ok (.value (.slice (some ⟨w.heap.size,0,none⟩) l.length cap)) (w1.alloc (.cells cells t)))
 (hle:l.length≤cap) (hcap:cells.size=cap*Ty.sz S e) (hcs:cv w (aD S w0 M0 s0 (ai env.bx us) μ w) e l cs) (hpre:cs <+: cells.toList)
 (hK:Goal P S w0 M0 s0 dq env a o.dst (.aH B) (us++ [(B, .arr e l)]) K):o.wp P a w K Q:=by
 have h1:=h.tk hk
 have Ip:aW w (w1.alloc (.cells cells t)) (fun _ _=>False):=by
  have c1:aW w w1 (fun _ _=>False):=⟨xI.1,xI.2.1,xI.2.2,by rw [hw1]; exact Nat.le_refl _,fun b _ _=>by rw [hw1],fun b o _ _=>cell_of_heap (by rw [hw1]),fun b o _ h=>by rw [cell_of_heap (by rw [hw1]:w1.heap[b]? =w.heap[b]?)]; exact h,fun b o _ _=>wR (by rw [hw1])⟩
  exact c1.trans (aW.alloc w1 _ (fun _ _=>False)) (fun _ _ h=>h) (fun _ _ _ h=>h)
 have nt:=kQ (w:=w1) (cs:=cells) (t:=t)
 rw [hw1] at nt
 have Jb:(w1.alloc (.cells cells t)).rangeAt w.heap.size 0 cs:=fun j v hj=>nt.2 j v (by
  obtain ⟨r,hr⟩:=hpre
  rw [← hr,List.getElem?_append_left (List.getElem?_eq_some_iff.1 hj).1]
  exact hj)
 refine lB (env:= { env with bx:=ai env.bx us }) (i:=B) (B:= .arr e l) (V:= .aH B) (L:=⟨w.heap.size,0,cap*Ty.sz S e,cap,false⟩) h1 hrun hd Ip hB (fun b o' hf=>Nat.le_of_eq hf.1.symm)
  (fun hl _ h3=>⟨⟨rfl,(fun h=>by cases h),hle,(by show World.there _ w.heap.size 0 (cap*Ty.sz S e); rw [← hcap]; exact nt.1),fun i x hi=> ?_⟩,⟨⟨_,_,_,rfl⟩,fun e' l' hb=> ?_⟩⟩) (fun vs hvs=>by rcases hvs with hvs | hvs <;> cases hvs) (fun j hj=> .inl (by simpa [ax,ak] using hj)) ?_
 · obtain ⟨ds,d1,d2,n,d3⟩:=hcs.row Jb i x hi
   exact ⟨ds,d1,d2,n,d3.mono S hl (Nat.le_refl _)⟩
 · dsimp only at hb
   rw [aL] at hb
   rcases hb with hb | hb
   · cases hb
     rw [aL]
     exact ⟨_,cap,rfl,rfl,rfl,rfl,(fun h=>by cases h),hle⟩
   · cases hb
 · intro a' w' μ' hI hs
   refine hK a' w' μ' ?_ hs
   have :(env.apply o.dst (.aH B) (us++ [(B, .arr e l)]))=(Env.apply { env with bx:=ai env.bx us } o.dst (.aH B) [(B, .arr e l)]):=by
    simp only [Env.apply,fG]
   rw [this]
   exact hI
theorem Kp (hP:aO P S af) (h:Inv P S w0 M0 s0 dq env a w μ) (hd: ∀ d,o.dst=some d→d<a.tmps.size) {B:Nat} {t:TypeId} {x y:Operand} (ho:o.op= .makeSlice t x y)
 (hnew: ∀ u ∈ us,B≤u.1→u.1<B+16→env.bx u.1=none)
 (hl:(match dD S t,aK S env.tm x,aK S env.tm y with
  | some e,some v,some w=>match v.int?,w.int? with
   | some (.i64,n),some (.i64,m)=>Tr.gd [gd (0≤n),gd (n≤m),gd (m*af t≤limit)] (ay S (.aH (B)) [(B, .arr e (List.replicate n.toNat (Ty.zero S e)))])
   | _,_=>Tr.fail
  | _,_,_=>Tr.fail).leaf (V,us)) (hK:Goal P S w0 M0 s0 dq env a o.dst V us K):o.wp P a w K Q:=by
 split at hl
 · rename_i e v u ht hx hy
   split at hl
   · rename_i n m hn hm
     obtain ⟨hg,rfl,rfl⟩:=dY hl
     have g1:0≤n:=hg (gd (0≤n)) (by simp)
     have g2:n≤m:=hg (gd (n≤m)) (by simp)
     have g3:m*af t≤limit:=hg (gd (m*af t≤limit)) (by simp)
     have ht':=jQ ht
     obtain ⟨te,ie,z,hu,hte,hie,hby,eg,_⟩:=hP.sl ht'
     obtain ⟨⟨i,z,h1,h2,h3,h4,h5⟩,_⟩:=hP.ty te _ hte
     rw [hie] at h1
     cases h1
     have e1:=fQ (bf h hx).1 hn
     have e2:=fQ (bf h hy).1 hm
     have hmn:(m.toNat:Int)=m:=by omega
     have hpos:(af t:Int)≥1:=by omega
     have hml:m≤140737488355328:=by
      have :m*1≤m*(af t:Int):=Int.mul_le_mul_of_nonneg_left hpos (by omega)
      have :limit=140737488355328:=rfl
      omega
     have hrun:=run_make (P:=P) w t te ie z hu hie h3 .i64 .i64 n m g1 g2 (by rw [hby,Int.mul_comm]; have :limit=140737488355328:=rfl; omega) (by omega)
     obtain ⟨q,hq⟩:=zW (w:=w) hP hte (aD S w0 M0 s0 (ai env.bx []) μ w)
     rw [← h5] at hq
     have hB:=hnew _ (List.mem_singleton.2 rfl) (Nat.le_refl _) (by show B<B+16; omega)
     refine zT (t:=te) (us:= []) (e:=e) (l:=List.replicate n.toNat (Ty.zero S e)) (cap:=m.toNat) (cells:=madeCells z.cells (m.toNat*ie.size)) (cs:=(madeCells z.cells (n.toNat*Ty.sz S e)).toList) (w1:=w) h hd (Tk.refl S _) hB rfl ⟨rfl,rfl,rfl⟩ ?_ (by simp; omega)
      (by rw [size_madeCells,h2]) (cv.replicate hq _) ?_ hK
     · unfold execOp
       simp only [ho,e1,e2,List.length_replicate]
       simp [hrun]
     · rw [h2]
       simp only [madeCells,Array.toList_map,Array.toList_range]
       have :n.toNat*Ty.sz S e≤m.toNat*Ty.sz S e:=Nat.mul_le_mul_right _ (by omega)
       refine List.IsPrefix.map _ ?_
       exact ⟨(List.range (m.toNat*Ty.sz S e)).drop (n.toNat*Ty.sz S e),by
        conv=>rhs; rw [← List.take_append_drop (n.toNat*Ty.sz S e) (List.range (m.toNat*Ty.sz S e))]
        congr 1
        rw [List.take_range,Nat.min_eq_left this]⟩
   · exact hl.elim
 · exact hl.elim
end
end Go.Sy
namespace Go.Sy
section
variable {P:Program} {S:aN} {af:Nat→Nat}
variable {w0:World} {M0 s0:St} {dq:List Deferred} {env:Env S.C} {a:Act} {w:World} {μ:Nat→Loc} {K:Act→World→Prop} {Q:Exit→Act→World→Prop} {o:Oper} {V:V S.C} {us:aG S.C}
theorem Bw {bx aa:Bx S.C} {e:Ty} : ∀ {ps:List (Nat×Sy.V S.C)} {l:List (e.den S.C)},(∀ p ∈ ps, ∀ i ∈ ax S p.2,aa i=bx i)→jb S aa e l ps=jb S bx e l ps
 | [],_,_=>rfl
 | (i,v)::ps,l,h=>by
  obtain ⟨h1,h2⟩:=pH (t:=e) (h (i,v) (by simp))
  simp only [jb,h1,h2]
  congr 1
  cases datum S bx e v with
  | none=>rfl
  | some x=>simp only [Option.bind_some]; rw [Bw fun p hp=>h p (by simp [hp])]
theorem Bu {bx:Bx S.C} {e:Ty} : ∀ {ps:List (Nat×Sy.V S.C)} {l l':List (e.den S.C)} {us:aG S.C},jb S bx e l ps=some (l',us)→cl bx us∧l'.length=l.length
 | [],_,_,_,h=>by cases h; exact ⟨fun u hu=>by simp at hu,rfl⟩
 | (i,v)::ps,l,l',us,h=>by
  simp only [jb] at h
  cases hi:Nat.blt i (List.length l) with
  | false=>rw [hi] at h; cases h
  | true=>
   rw [hi,cond_true] at h
   obtain ⟨x,hx,h⟩:=Option.bind_eq_some_iff.1 h
   obtain ⟨⟨l2,u2⟩,h2,h⟩:=Option.bind_eq_some_iff.1 h
   cases h
   obtain ⟨g1,g2⟩:=Bu h2
   exact ⟨(cl.cy bx v).append g1,by rw [g2,List.length_set]⟩
theorem Bv (hS:cm S) (h:Inv P S w0 M0 s0 dq env a w μ) {e:Ty} {US:aG S.C} (hU:cl env.bx US): ∀ {ps:List (Nat×Sy.V S.C)} {qs:List (Nat×Value)} {l l':List (e.den S.C)} {us:aG S.C} {cells:Array Value},
 sA P S w (aD S w0 M0 s0 env.bx μ w) μ env.bx ps qs→cv w (bU S w0 M0 s0 env.bx (ai env.bx US) μ w) e l cells.toList→jb S env.bx e l ps=some (l',us)→(∀ u ∈ us,u ∈ US)→
 ∃ cells',Instr.fill (fun i=>some (i*Ty.sz S e,Ty.sz S e)) cells qs=some cells'∧cv w (bU S w0 M0 s0 env.bx (ai env.bx US) μ w) e l' cells'.toList
 | [],qs,l,l',us,cells,h1,h2,h3,_=>by
  cases h1; cases h3
  exact ⟨cells,rfl,h2⟩
 | (i,V)::ps,qs,l,l',us,cells,⟨v,r,hq,hv,hr⟩,h2,h3,hs=>by
  subst hq
  simp only [jb] at h3
  cases hi:Nat.blt i (List.length l) with
  | false=>rw [hi] at h3; cases h3
  | true=>
   rw [hi,cond_true] at h3
   have hlt:i<l.length:=by
    have :Nat.ble (i+1) l.length=true:=hi
    exact Nat.le_of_ble_eq_true this
   obtain ⟨x,hx,h3⟩:=Option.bind_eq_some_iff.1 h3
   obtain ⟨⟨l2,u2⟩,h4,h3⟩:=Option.bind_eq_some_iff.1 h3
   cases h3
   obtain ⟨_,d2⟩:=sS hS h (Tk.refl S env.bx) hv hx
   have d3:=d2.mono S (oA S (hU.tk (us:=cy S env.bx V) fun u hu=>hs u (by simp [hu])))
   obtain ⟨n,d4⟩:=d3.2
   have d5:=d4.length S
   have hc:=h2.1
   have hle:(i+1)*Ty.sz S e≤l.length*Ty.sz S e:=Nat.mul_le_mul_right _ (by omega)
   rw [Nat.add_mul,Nat.one_mul, ← hc] at hle
   obtain ⟨cells',e1,e2⟩:=By (fun i=>some (i*Ty.sz S e,Ty.sz S e)) (i:=i) rfl (v:=v) (cells:=cells) (by rw [← d5]; simp) (by simpa using hle) r
   obtain ⟨vW,g1,g2⟩:=Bv hS h hU (cells:=cells') hr (by rw [e1]; exact h2.set hlt d4) h4 fun u hu=>hs u (by simp [hu])
   exact ⟨vW,by rw [e2]; exact g1,g2⟩
theorem G9 (hP:aO P S af) (h:Inv P S w0 M0 s0 dq env a w μ) (hd: ∀ d,o.dst=some d→d<a.tmps.size) {B:Nat} {t:TypeId} {parts:Array (Nat×Operand)} {e:Ty} (ho:o.op= .buildSlice t 0 parts) (ht:dD S t=some e)
 (hnew: ∀ u ∈ us,B≤u.1→u.1<B+16→env.bx u.1=none)
 (hl:(match parts.toList with
  | []=>ay S (.aT B e []) [(B, .tail)]
  | _=> .fail:Rt S).leaf (V,us)) (hK:Goal P S w0 M0 s0 dq env a o.dst V us K):o.wp P a w K Q:=by
 split at hl
 · rename_i hps
   obtain ⟨rfl,rfl⟩:=bg hl
   have hp:parts= #[]:=by
    have :parts=parts.toList.toArray:=by simp
    rw [this,hps]
   subst hp
   have hB:=hnew (B, .tail) (by simp) (Nat.le_refl _) (by show B<B+16; omega)
   have ht':=jQ ht
   obtain ⟨te,ie,z,hu,hte,hie,hby,eg,_⟩:=hP.sl ht'
   have hrun:(execOp a.eval o).run P w= .ok (.value (.slice (some ⟨w.heap.size,0,none⟩) 0 0)) (w.alloc (.cells #[] te)):=by
    unfold execOp
    simp only [ho]
    simp [Instr.buildSlice,run_underlying hu,sizeOf,typeInfo,hie,Array.range_zero',Instr.fill,newRow]
   refine lB (i:=B) (B:= .tail) (V:= .aT B e []) (L:=⟨0,0,0,0,true⟩) h hrun hd (aW.alloc w _ _) hB (fun b o hf=> ?_) (fun _ _ _=>⟨fun j hj=>absurd hj (Nat.not_lt_zero j), ?_⟩) (by simp) (fun j hj=> .inl (by simpa [ax,ak] using hj)) hK
   · have h1:=hf.2.1; have h2:=hf.2.2; simp at h2
   · refine ⟨⟨rfl,1,_,0,rfl,Nat.le_refl _, .inl rfl⟩,fun _=>⟨_,0,rfl, ?_⟩⟩
     rw [aL]
     exact .inr ⟨_,_,rfl,by simp,fun h=>absurd h (Nat.lt_irrefl 0)⟩
 · exact hl.elim
theorem Gg (hP:aO P S af) (h:Inv P S w0 M0 s0 dq env a w μ) (hd: ∀ d,o.dst=some d→d<a.tmps.size) {B:Nat} {t:TypeId} {len:Nat} {parts:Array (Nat×Operand)} {ids:List Nat} (ho:o.op= .buildSlice t len parts)
 (dZ: ∀ i x,(i,x) ∈ parts.toList→ ∀ V,aK S env.tm x=some V→ ∀ i ∈ ax S V,restrict S env.bx ids i=env.bx i)
 (hnew: ∀ u ∈ us,B≤u.1→u.1<B+16→env.bx u.1=none)
 (hl:(match dD S t with
  | some e=>match parts.toList.mapM (fun (p:Nat×Operand)=>(aK S env.tm p.2).map fun v=>(p.1,v)) with
   | some ps=>cond (Nat.ble (len*Ty.sz S e) 16777216) (match jb S (restrict S env.bx ids) e (List.replicate len (Ty.zero S e)) ps with
    | some (l,us)=>ay S (.aH (B)) (us++ [(B,cP.arr e l)])
    | none=>Tr.fail) Tr.fail
   | none=>Tr.fail
  | none=>Tr.fail).leaf (V,us)) (hK:Goal P S w0 M0 s0 dq env a o.dst V us K):o.wp P a w K Q:=by
 split at hl
 · rename_i e ht
   split at hl
   · rename_i ps hps
     cases hlim:Nat.ble (len*Ty.sz S e) 16777216 with
     | false=>rw [hlim] at hl; exact hl.elim
     | true=>
      rw [hlim,cond_true] at hl
      obtain ⟨p1,p2⟩:=yz h hps
      rw [Bw (bx:=env.bx) fun p hp i hi=>by
       obtain ⟨x,k,hm,hx⟩:=p2 p hp
       exact dZ k x hm p.2 hx i hi] at hl
      split at hl
      · rename_i l fz Cb
        obtain ⟨rfl,rfl⟩:=bg hl
        obtain ⟨f1,f2⟩:=Bu Cb
        rw [List.length_replicate] at f2
        have ht':=jQ ht
        obtain ⟨te,ie,z,hu,hte,hie,hby,eg,_⟩:=hP.sl ht'
        obtain ⟨⟨i,z,h1,h2,h3,h4,h5⟩,_⟩:=hP.ty te _ hte
        rw [hie] at h1
        cases h1
        obtain ⟨q,hq⟩:=zW (w:=w) hP hte (bU S w0 M0 s0 env.bx (ai env.bx fz) μ w)
        rw [← h5] at hq
        obtain ⟨cells,c1,c2⟩:=Bv hP.tocm h f1 (cells:=madeCells z.cells (len*Ty.sz S e)) p1 (cv.replicate hq len) Cb fun u hu=>hu
        have bp:=hnew (B,cP.arr e l) (by simp) (Nat.le_refl _) (by show B<B+16; omega)
        have hB:ai env.bx fz B=none:=by
         rcases cl.at env.bx f1 B with ⟨e1,_⟩ | ⟨_,e',l',e2,_⟩
         · rw [e1]; exact bp
         · rw [show env.bx B=none from bp] at e2; cases e2
        refine zT (t:=te) (us:=fz) (e:=e) (l:=l) (cap:=len) (cells:=cells) (cs:=cells.toList) (w1:=w) h hd f1.ki hB rfl ⟨rfl,rfl,rfl⟩ ?_ (by omega) (by have :=c2.1; rw [f2] at this; simpa using this)
         (c2.later (vl f1.ki)) (List.prefix_refl _) hK
        unfold execOp
        simp only [ho,f2]
        have hrun:(Instr.buildSlice t len (parts.map fun (i,x)=>(i,a.eval x))).run P w= .ok (.slice (some ⟨w.heap.size,0,none⟩) len len) (w.alloc (.cells cells te)):=by
         have hlim:=Nat.le_of_ble_eq_true hlim
         rw [← h2] at hlim c1
         by_cases h0:len*ie.size=0
         · rw [h0] at c1
           have hm:madeCells z.cells 0= #[]:=by simp [madeCells]
           rw [hm] at c1
           have Gj:Instr.fill (fun i=>some (i*ie.size,ie.size)) #[] (parts.toList.map fun x=>(x.1,a.eval x.2))=some cells:=c1
           simp [Instr.buildSlice,run_underlying hu,sizeOf,typeInfo,hie,h0,Array.range_zero',Gj,newRow]
         · refine run_buildSlice w t te len _ cells ie z hu hie h3 (by omega) h0 ?_
           rw [Array.toList_map,h2]
           rw [h2] at c1
           exact c1
        simp [hrun]
      · exact hl.elim
   · exact hl.elim
 · exact hl.elim
end
end Go.Sy
namespace Go.Sy
section
variable {P:Program} {S:aN} {af:Nat→Nat}
variable {w0:World} {M0 s0:St} {dq:List Deferred} {env:Env S.C} {a:Act} {w:World} {μ:Nat→Loc} {K:Act→World→Prop} {Q:Exit→Act→World→Prop} {o:Oper} {V:V S.C} {us:aG S.C}
theorem Ml (P:Program) (hS:cm S) {s:St} {n:Nat} {e:Ty} {x:e.den S.C} {cs:List Value} (h:az S w s n e x cs): ∀ u ∈ cs,u.oneCell'=true:=by
 obtain ⟨h1,h2,_⟩:=ja (P:=P) hS (fun _=>⟨0,0,0,0,true⟩) (fun _=>none) h
 exact rO h2 h1
theorem GN (P:Program) (hS:cm S) {s:St} {e:Ty} {l:List (e.den S.C)} {cs:List Value} (h:cv w s e l cs): ∀ u ∈ cs,u.oneCell'=true:=by
 intro u hu
 obtain ⟨k,hk,IT⟩:=List.getElem_of_mem hu
 have h0:0<Ty.sz S e:=by
  rcases Nat.eq_zero_or_pos (Ty.sz S e) with h0 | h0
  · have :=h.1; rw [h0,Nat.mul_zero] at this; omega
  · exact h0
 have hkl:k<l.length*Ty.sz S e:=by rw [← h.1]; exact hk
 have hi:k / Ty.sz S e<l.length:=Nat.div_lt_of_lt_mul (by rw [Nat.mul_comm]; exact hkl)
 obtain ⟨n,hn⟩:=h.2 (k / Ty.sz S e) _ (List.getElem?_eq_getElem hi)
 refine Ml P hS hn u ?_
 have hd:k / Ty.sz S e*Ty.sz S e+k % Ty.sz S e=k:=by rw [Nat.mul_comm]; exact Nat.div_add_mod k _
 refine List.mem_iff_getElem?.2 ⟨k % Ty.sz S e, ?_⟩
 rw [List.getElem?_take,if_pos (Nat.mod_lt _ h0),List.getElem?_drop,hd,List.getElem?_eq_getElem hk,IT]
def Read (S:aN) (w:World) (s:St) (e:Ty) (l:List (e.den S.C)) (v:Value):Prop:=
 ∃ ad cap,v= .slice ad l.length cap∧l.length≤cap∧(l.length=0∨ ∃ b o,ad=some ⟨b,o,none⟩∧ ∀ i x,l[i]? =some x→ ∃ ds,ds.length=Ty.sz S e∧w.rangeAt b (o+i*Ty.sz S e) ds∧ ∃ n,az S w s n e x ds)
theorem bS.read {s:St} {e:Ty} {l:List (e.den S.C)} {v:Value} (h:bS S w s (.sl e) l v):Read S w s e l v:=by
 obtain ⟨ad,cap,h1,h2,h3⟩:=ic h
 refine ⟨ad,cap,h1,h2,h3.imp id fun ⟨b,o,n,h4,h5⟩=>⟨b,o,h4,fun i x hi=> ?_⟩⟩
 obtain ⟨ds,d1,d2,d3⟩:=h5 i x hi
 exact ⟨ds,d1,d2.range,n,d3⟩
theorem ku.read {s:St} {e:Ty} {l:List (e.den S.C)} {v:Value} {L:Loc} {ad:Option Addr} {cap:Nat} (hv:v= .slice ad l.length cap) (h:ku L ad l.length cap (Ty.sz S e))
 (hr: ∀ i x,l[i]? =some x→ ∃ ds,ds.length=Ty.sz S e∧w.rangeAt L.b (L.o+i*Ty.sz S e) ds∧ ∃ n,az S w s n e x ds):Read S w s e l v:=by
 refine ⟨ad,cap,hv,h.fits, ?_⟩
 cases hn:L.nil with
 | true=>
  left
  have h1:=h.isNil hn
  have h2:=h.fits
  have h3:=h.gC
  omega
 | false=>
  right
  have h1:=h.addr
  rw [hn] at h1
  exact ⟨L.b,L.o,h1,hr⟩
theorem ye (h:Inv P S w0 M0 s0 dq env a w μ) {b:Nat} {e:Ty} {l:List (e.den S.C)} {v:Value} (hb:env.bx b=some (.arr e l)∨env.bx b=some (.bn e l)) (hv:RV P S w (aD S w0 M0 s0 env.bx μ w) μ env.bx (.aH b) v):
 Read S w (aD S w0 M0 s0 env.bx μ w) e l v:=by
 obtain ⟨_,hv⟩:=hv
 obtain ⟨ad,cap,h1,h2⟩:=hv e l hb
 refine h2.read h1 ?_
 rcases hb with hb | hb
 · exact (h.bE b _ hb).2.2.2.2
 · intro i x hi
   obtain ⟨ds,d1,d2,d3⟩:=(h.bE b _ hb).2.2 i x hi
   exact ⟨ds,d1,d2.range,d3⟩
theorem wA (h:Inv P S w0 M0 s0 dq env a w μ) {e:Ty} {X:Sy.V S.C} {x:Value} {y:List (e.den S.C)} (hx:RV P S w (aD S w0 M0 s0 env.bx μ w) μ env.bx X x) (hy:datum S env.bx (.sl e) X=some y):
 Read S w (aD S w0 M0 s0 env.bx μ w) e y x:=by
 cases X with
 | d u z=>
  obtain ⟨rfl,rfl⟩:=c8 hy
  exact bS.read hx
 | aT b e' l=>
  obtain ⟨e1,rfl⟩:=c8 hy
  cases e1
  exact bS.read hx.1
 | b6=>
  cases hy
  exact ⟨none,0,hx,Nat.le_refl _, .inl rfl⟩
 | aH b=>
  have hy:cq S env.bx (.sl e) (.aH b)=some y:=hy
  simp only [cq] at hy
  split at hy
  · rename_i e' l hb
    obtain ⟨e1,rfl⟩:=c8 hy
    cases e1
    exact ye h (.inl hb) hx
  · rename_i e' l hb
    obtain ⟨e1,rfl⟩:=c8 hy
    cases e1
    exact ye h (.inr hb) hx
  · cases hy
 | _=>cases hy
theorem Read.cells {s:St} {e:Ty} {l:List (e.den S.C)} {v:Value} (h:Read S w s e l v): ∃ ad cap cs,v= .slice ad l.length cap∧l.length≤cap∧cv w s e l cs∧
 (l.length=0∧cs= []∨ ∃ b o,ad=some ⟨b,o,none⟩∧w.rangeAt b o cs):=by
 obtain ⟨ad,cap,h1,h2,h3⟩:=h
 rcases h3 with h3 | ⟨b,o,h3,h4⟩
 · have :l= []:=List.length_eq_zero_iff.1 h3
   subst this
   exact ⟨ad,cap,[],h1,h2,cv.nil, .inl ⟨rfl,rfl⟩⟩
 · obtain ⟨cs,c1,c2⟩:=DH h4
   exact ⟨ad,cap,cs,h1,h2,c2, .inr ⟨b,o,h3,c1⟩⟩
theorem Read.src (hP:aO P S af) {s:St} {e:Ty} {l:List (e.den S.C)} {v:Value} (h:Read S w s e l v) {tx:Nat} (ht:S.ty tx=some (.sl e)): ∃ news,Src P (Ty.sz S e) tx v l.length news w∧cv w s e l news:=by
 obtain ⟨te,ie,z,hu,_⟩:=hP.sl ht
 obtain ⟨ad,cap,cs,h1,h2,h3,h4⟩:=h.cells
 refine ⟨cs, ?_,h3⟩
 subst h1
 rcases h4 with ⟨h4,rfl⟩ | ⟨b,o,rfl,h4⟩
 · cases ad with
   | none=>rw [h4]; exact Src.ofNil w hu cap
   | some ad=>exact Src.ofSlice w hu ad _ cap [] h3.1 (fun j u hj=>by simp at hj) (fun u hu=>by simp at hu)
 · exact Src.ofSlice w hu _ _ cap cs h3.1 (fun j u hj=>by rw [Addr.add_mid]; exact h4 j u hj) (GN P hP.tocm h3)
theorem Read.old {s:St} {e:Ty} {l:List (e.den S.C)} {ad:Option Addr} {cap:Nat} (P:Program) (h:Read S w s e l (.slice ad l.length cap)): ∃ olds,(Builtin.firstCells (Ty.sz S e) l.length (.slice ad l.length cap)).run P w.drew= .ok olds.toArray w.drew∧cv w s e l olds∧
 (l.length=0∨ ∃ b o,ad=some ⟨b,o,none⟩∧w.rangeAt b o olds):=by
 obtain ⟨lP,cap',cs,h1,h2,h3,h4⟩:=h.cells
 cases h1
 refine ⟨cs, ?_,h3,h4.imp (·.1) id⟩
 rcases h4 with ⟨h4,rfl⟩ | ⟨b,o,rfl,h4⟩
 · cases ad with
   | none=>exact run_firstCells_none _ _ _ _ _
   | some ad=>exact run_firstCells_some _ _ _ ad _ cap [] h3.1 (fun j u hj=>by simp at hj)
 · exact run_firstCells_some _ _ _ _ _ cap cs h3.1 (fun j u hj=>by rw [Addr.add_mid]; simpa using h4 j u hj)
theorem uE (hP:aO P S af) {t tx ty:Nat} {e:Ty} (ht:S.ty t=some (.sl e)) {n m cap:Nat} {base:Option Addr} {x:Value} {news olds:List Value} (hs:Src P (Ty.sz S e) tx x m news w)
 (hold:(Builtin.firstCells (Ty.sz S e) n (.slice base n cap)).run P w.drew= .ok olds.toArray w.drew) (Cm:olds.length=n*Ty.sz S e) (hle:n≤cap) (hlim:(n+m)*af t≤limit):
 (m=0∧(Builtin.append_ #[t,tx] ty #[.slice base n cap,x]).run P w= .ok (.slice base n cap) w)∨
 (0<m∧n+m≤cap∧ ∀ b off,base=some ⟨b,off,none⟩→w.there b (off+n*Ty.sz S e) news.length→(Builtin.append_ #[t,tx] ty #[.slice base n cap,x]).run P w= .ok (.slice base (n+m) cap) (w.setCells b (off+n*Ty.sz S e) news))∨
 (∃ c' te cells,cap<n+m∧n+m≤c'∧Array.size cells=c'*Ty.sz S e∧(olds++news) <+: cells.toList∧
  (Builtin.append_ #[t,tx] ty #[.slice base n cap,x]).run P w= .ok (.slice (some ⟨w.heap.size,0,none⟩) (n+m) c') (w.drew.alloc (.cells cells te))):=by
 obtain ⟨te,ie,_,hu,hte,hie,hby,eg,_⟩:=hP.sl ht
 obtain ⟨⟨i,z,h1,h2,h3,h4,h5⟩,_⟩:=hP.ty te _ hte
 rw [hie] at h1
 cases h1
 rw [← h2] at hs hold Cm ⊢
 rcases Nat.eq_zero_or_pos m with h0 | h0
 · left
   subst h0
   have hn:news= []:=by have :=hs.newsLen; rw [Nat.zero_mul] at this; exact List.length_eq_zero_iff.1 this
   subst hn
   exact ⟨rfl,run_append_nothing w t tx ty te ie hu hie base n cap hle x hs⟩
 · right
   by_cases hroom:n+m≤cap
   · left
     refine ⟨h0,hroom, ?_⟩
     rintro b off rfl bZ
     exact run_append_room_src w t tx ty te ie hu hie b off n cap x m news hs hroom (fun j hj=>(bZ j hj).1) (fun j hj=>(bZ j hj).2)
   · right
     have Pb:limit=140737488355328:=rfl
     have h63:((n+m:Nat):Int)≤9223372036854775807:=by
      have :(n+m)*1≤(n+m)*af t:=Nat.mul_le_mul_left _ eg
      omega
     refine ⟨_,te,_,by omega,grownCap_ge w (n+m) cap te, ?_, ?_,run_append_grow_src w t tx ty te ie z hu hie h3 base n cap olds hold x m news hs (by omega) h63 (growslice_fits (by omega) (by rw [hby]; omega))⟩
     · have hg:=grownCap_ge w (n+m) cap te
       have hzs:z.cells.size=ie.size:=by
        have :=congrArg List.length h5
        rw [Array.length_toList] at this
        rw [this,h2]
        cases e <;> simp [mW,Ty.sz]
       rw [Array.size_append,size_zeroCells,hzs,List.size_toArray,List.length_append,Cm,hs.newsLen, ← Nat.add_mul, ← Nat.add_mul]
       congr 1
       omega
     · rw [Array.toList_append,List.toList_toArray]
       exact List.prefix_append _ _
theorem Inv.swap (h:Inv P S w0 M0 s0 dq env a w μ) {b B:Nat} {B0 BX:cP S.C} {L:Loc} {w':World} {T:St} (hb:env.bx b=some B0) (bF:live S env.bx b) (hB:env.bx B=none)
 (hw:aW w w' T) (hT: ∀ k o,T k o→(μ b).aC k o) (hL: ∀ k o,L.aC k o→w.heap.size≤k∨(μ b).aC k o) (hnc: ∀ vs,BX≠ .cells vs∧BX≠ .bw vs)
 (wU:bC w (aD S w0 M0 s0 env.bx μ w) w' (aD S w0 M0 s0 (ah (ah env.bx b (some .dead)) B (some BX)) (ah μ B L) w')→
  RB P S w' (aD S w0 M0 s0 (ah (ah env.bx b (some .dead)) B (some BX)) (ah μ B L) w') (ah μ B L) (ah (ah env.bx b (some .dead)) B (some BX)) L BX):
 Inv P S w0 M0 s0 dq { env with bx:=ah (ah env.bx b (some .dead)) B (some BX) } a w' (ah μ B L)∧
 bC w (aD S w0 M0 s0 env.bx μ w) w' (aD S w0 M0 s0 (ah (ah env.bx b (some .dead)) B (some BX)) (ah μ B L) w')∧
 (∀ k o,((μ b).aC k o∨k=w.heap.size)→k<w'.heap.size→ ¬ L.aC k o→aD S w0 M0 s0 (ah (ah env.bx b (some .dead)) B (some BX)) (ah μ B L) w' k o):=by
 have hne:b≠B:=fun e=>by rw [e,hB] at hb; cases hb
 have hbd:ah (ah env.bx b (some .dead)) B (some BX) b=some .dead:=by rw [aX _ _ hne,aL]
 have BN:ah (ah env.bx b (some .dead)) B (some BX) B=some BX:=aL _ _ _
 have hU: ∀ i, ¬ (i=b∨i=B)→ah (ah env.bx b (some .dead)) B (some BX) i=env.bx i∧ah μ B L i=μ i:=fun i hi=>by
  rw [aX _ _ fun e=>hi (.inr e),aX _ _ fun e=>hi (.inl e),aX _ _ fun e=>hi (.inr e)]
  exact ⟨rfl,rfl⟩
 have gH: ¬ live S (ah (ah env.bx b (some .dead)) B (some BX)) b:=fun hl=>by unfold live at hl; rw [hbd] at hl; exact hl
 have hf: ∀ i,(i=b∨i=B)→live S (ah (ah env.bx b (some .dead)) B (some BX)) i→ ∀ k o,(ah μ B L i).aC k o→w.heap.size≤k∨ ∃ j,(j=b∨j=B)∧live S env.bx j∧(μ j).aC k o:=by
  rintro i (rfl | rfl) hl k o hfo
  · exact absurd hl gH
  · rw [aL] at hfo
    exact (hL k o hfo).imp id fun hfo=>⟨b, .inl rfl,bF,hfo⟩
 have gF: ∀ k o,T k o→k<w.heap.size→ ∃ i,(i=b∨i=B)∧live S env.bx i∧(μ i).aC k o:=fun k o ht _=>⟨b, .inl rfl,bF,hT k o ht⟩
 have hl:=h.later hw gF hU hf
 refine ⟨h.step (U:=fun i=>i=b∨i=B) hw gF hU hf ?_ ?_ ?_ ?_,hl, ?_⟩
 · intro i B1 hi
   by_cases e1:i=b
   · subst e1
     refine ⟨_,hbd, ?_⟩
     rw [aX _ _ hne]
     cases B1 <;> rfl
   · have e2:i≠B:=fun e=>by rw [e,hB] at hi; cases hi
     rw [aX _ _ e2,aX _ _ e1,aX _ _ e2]
     exact ⟨B1,hi,b8.refl S _ _⟩
 · rintro i j (rfl | rfl) (rfl | rfl) hij li lj
   · exact absurd rfl hij
   · exact absurd li gH
   · exact absurd lj gH
   · exact absurd rfl hij
 · rintro i B1 (rfl | rfl) gE
   · rw [hbd] at gE; cases gE; trivial
   · rw [BN] at gE; cases gE
     rw [aL]
     exact wU hl
 · rintro i vs (rfl | rfl) hvs
   · rcases hvs with hvs | hvs <;> · rw [hbd] at hvs; cases hvs
   · rcases hvs with hvs | hvs <;> rw [BN] at hvs
     · exact absurd (Option.some.inj hvs) (hnc vs).1
     · exact absurd (Option.some.inj hvs) (hnc vs).2
 · intro k o' hk hlt I7
   refine ⟨hlt, ?_,fun i li hfo=> ?_⟩
   · rcases hk with hk | rfl
     · exact (h.own b bF k o' hk).elim (fun h=> .inr (.inr h)) (fun h=> .inr (.inl h))
     · exact .inr (.inr h.eV.size)
   · by_cases e1:i=b
     · subst e1; exact gH li
     · by_cases e2:i=B
       · subst e2; rw [aL] at hfo; exact I7 hfo
       · have hu:=hU i fun e=>e.elim e1 e2
         rw [di S hu.1] at li
         rw [hu.2] at hfo
         rcases hk with hk | rfl
         · exact h.cF i b e1 li bF _ _ hfo hk
         · exact absurd (iE P S (h.bE i) li hfo).1 (Nat.lt_irrefl _)
end
end Go.Sy
namespace Go.Sy
section
variable {P:Program} {S:aN} {af:Nat→Nat}
variable {w0:World} {M0 s0:St} {dq:List Deferred} {env:Env S.C} {a:Act} {w:World} {μ:Nat→Loc} {K:Act→World→Prop} {Q:Exit→Act→World→Prop} {o:Oper} {V:V S.C} {us:aG S.C}
theorem zx {s:St} {e:Ty} {l:List (e.den S.C)} {b o' cap:Nat} (hle:l.length≤cap)
 (hall: ∀ (i:Nat) (x:e.den S.C),l[i]? =some x→ ∃ ds,ds.length=Ty.sz S e∧At w s b (o'+i*Ty.sz S e) ds∧ ∃ n,az S w s n e x ds):bS S w s (.sl e) l (.slice (some ⟨b,o',none⟩) l.length cap):=by
 have : ∀ m,m≤l.length→ ∃ n, ∀ (i:Nat) (x:e.den S.C),i<m→l[i]? =some x→ ∃ ds,ds.length=Ty.sz S e∧At w s b (o'+i*Ty.sz S e) ds∧az S w s n e x ds:=by
  intro m
  induction m with
  | zero=>exact fun _=>⟨0,fun i x hi=>by omega⟩
  | succ m ih=>
   intro hm
   obtain ⟨n,hn⟩:=ih (by omega)
   obtain ⟨ds,h1,h2,n',h3⟩:=hall m l[m] (by simp)
   refine ⟨max n n',fun i x hi hx=> ?_⟩
   by_cases e:i=m
   · subst e
     have :x=l[i]:=by simpa [List.getElem?_eq_getElem (show i<l.length by omega)] using hx.symm
     subst this
     exact ⟨ds,h1,h2,h3.up S (by omega)⟩
   · obtain ⟨ds,h1,h2,h3⟩:=hn i x (by omega) hx
     exact ⟨ds,h1,h2,h3.up S (by omega)⟩
 obtain ⟨n,hn⟩:=this l.length (Nat.le_refl _)
 exact ⟨rfl,n+1,_,cap,rfl,hle, .inr ⟨b,o',rfl,fun i x hx=>hn i x (List.getElem?_eq_some_iff.1 hx).1 hx⟩⟩
theorem cv.at {s:St} {e:Ty} {l:List (e.den S.C)} {cs:List Value} (h:cv w s e l cs) {b o':Nat} (hr:At w s b o' cs):
 ∀ i x,l[i]? =some x→ ∃ ds,ds.length=Ty.sz S e∧At w s b (o'+i*Ty.sz S e) ds∧ ∃ n,az S w s n e x ds:=fun i x hi=>by
 obtain ⟨n,hn⟩:=h.2 i x hi
 exact ⟨_,hn.length S,hr.part _ _,n,hn⟩
theorem FX {s:St} {e:Ty} {l l':List (e.den S.C)} {b o':Nat}
 (h1: ∀ i x,l[i]? =some x→ ∃ ds,ds.length=Ty.sz S e∧At w s b (o'+i*Ty.sz S e) ds∧ ∃ n,az S w s n e x ds)
 (h2: ∀ i x,l'[i]? =some x→ ∃ ds,ds.length=Ty.sz S e∧At w s b (o'+l.length*Ty.sz S e+i*Ty.sz S e) ds∧ ∃ n,az S w s n e x ds):
 ∀ i x,(l++l')[i]? =some x→ ∃ ds,ds.length=Ty.sz S e∧At w s b (o'+i*Ty.sz S e) ds∧ ∃ n,az S w s n e x ds:=fun i x hi=>by
 by_cases hlt:i<l.length
 · rw [List.getElem?_append_left hlt] at hi; exact h1 i x hi
 · rw [List.getElem?_append_right (by omega)] at hi
   have :=h2 _ x hi
   rw [Nat.add_assoc, ← Nat.add_mul,show l.length+(i - l.length)=i from by omega] at this
   exact this
theorem oY {s:St} {e:Ty} {l l':List (e.den S.C)} {b o':Nat}
 (h1: ∀ i x,l[i]? =some x→ ∃ ds,ds.length=Ty.sz S e∧w.rangeAt b (o'+i*Ty.sz S e) ds∧ ∃ n,az S w s n e x ds)
 (h2: ∀ i x,l'[i]? =some x→ ∃ ds,ds.length=Ty.sz S e∧w.rangeAt b (o'+l.length*Ty.sz S e+i*Ty.sz S e) ds∧ ∃ n,az S w s n e x ds):
 ∀ i x,(l++l')[i]? =some x→ ∃ ds,ds.length=Ty.sz S e∧w.rangeAt b (o'+i*Ty.sz S e) ds∧ ∃ n,az S w s n e x ds:=fun i x hi=>by
 by_cases hlt:i<l.length
 · rw [List.getElem?_append_left hlt] at hi; exact h1 i x hi
 · rw [List.getElem?_append_right (by omega)] at hi
   have :=h2 _ x hi
   rw [Nat.add_assoc, ← Nat.add_mul,show l.length+(i - l.length)=i from by omega] at this
   exact this
theorem lC (h:Inv P S w0 M0 s0 dq env a w μ) (hd: ∀ d,o.dst=some d→d<a.tmps.size) {b B:Nat} {B0 BX:cP S.C} {L:Loc} {w':World} {T:St} {v:Value} (hb:env.bx b=some B0) (bF:live S env.bx b) (hB:env.bx B=none)
 (hrun:(execOp a.eval o).run P w= .ok (.value v) w')
 (hw:aW w w' T) (hT: ∀ k o,T k o→(μ b).aC k o) (hL: ∀ k o,L.aC k o→w.heap.size≤k∨(μ b).aC k o) (hnc: ∀ vs,BX≠ .cells vs∧BX≠ .bw vs)
 (wU: ∀ s',bC w (aD S w0 M0 s0 env.bx μ w) w' s'→RB P S w' s' (ah μ B L) (ah (ah env.bx b (some .dead)) B (some BX)) L BX)
 (hV: ∀ s',bC w (aD S w0 M0 s0 env.bx μ w) w' s'→(∀ k o,((μ b).aC k o∨k=w.heap.size)→k<w'.heap.size→ ¬ L.aC k o→s' k o)→
  RV P S w' s' (ah μ B L) (ah (ah env.bx b (some .dead)) B (some BX)) V v)
 (gG: ∀ i ∈ ax S V,i=B) (hK:Goal P S w0 M0 s0 dq env a o.dst V [(b, .dead),(B,BX)] K):o.wp P a w K Q:=by
 obtain ⟨hI,hl,hm⟩:=h.swap hb bF hB hw hT hL hnc (wU _)
 unfold Oper.wp
 rw [hrun]
 refine hK _ w' _ (hI.put hd (hV _ hl hm) fun i hi=> ?_) ?_
 · rw [gG i hi]
   show ah (ah env.bx b (some .dead)) B (some BX) B≠none
   rw [aL]; simp
 · cases o.dst <;> simp [Act.put]
theorem Aj {f:Operand→Option (Sy.V S.C)} {xs:List Operand} {v u:Sy.V S.C} (h:xs.mapM f=some [v,u]): ∃ x y,xs= [x,y]∧f x=some v∧f y=some u:=by
 cases xs with
 | nil=>cases h
 | cons x r=>
  obtain ⟨y,zs,h1,h2,h3⟩:=jj h
  cases h3
  cases r with
  | nil=>cases h2
  | cons x' r'=>
   obtain ⟨y',zs',h4,h5,h6⟩:=jj h2
   cases h6
   cases r' with
   | nil=>exact ⟨x,x',rfl,h1,h4⟩
   | cons x'' r''=>
    obtain ⟨y',zs',h7,h8,h9⟩:=jj h5
    cases h9
theorem aW.grown {w:World} {cells:Array Value} {t:TypeId} (T:St):aW w (w.drew.alloc (.cells cells t)) T:=
 (aW.drew w T).trans (aW.alloc w.drew _ T) (fun _ _ h=>h) (fun _ _ _ h=>h)
theorem BM {w:World} {cells:Array Value} {t:TypeId} :(w.drew.alloc (.cells cells t)).there w.heap.size 0 cells.size∧(w.drew.alloc (.cells cells t)).rangeAt w.heap.size 0 cells.toList∧w.heap.size<(w.drew.alloc (.cells cells t)).heap.size:=by
 obtain ⟨h1,h2⟩:=kQ (w:=w.drew) (cs:=cells) (t:=t)
 exact ⟨h1,h2,by simp⟩
theorem Dk {w:World} {b o':Nat} {cs ds:List Value} (h:w.rangeAt b o' ds) (hp:cs <+: ds):w.rangeAt b o' cs:=fun j v hj=>by
 obtain ⟨r,rfl⟩:=hp
 exact h j v (by rw [List.getElem?_append_left (List.getElem?_eq_some_iff.1 hj).1]; exact hj)
theorem Kz {α:Type} (l:List α) {n i m:Int} (h0:0≤n) (h1:n≤i) (h2:0≤m) (h3:i.toNat+m.toNat≤l.length):(jk l n i m).length=l.length:=by
 unfold jk
 simp only [List.length_append,List.length_take,List.length_drop]
 omega
theorem FY (hP:aO P S af) (h:Inv P S w0 M0 s0 dq env a w μ) (hd: ∀ d,o.dst=some d→d<a.tmps.size) {c:Call} (ho:o.op= .call c) (hc:c.callee= .builtin .append) {args:List (Sy.V S.C)} {ids:List Nat} {B:Nat}
 (hargs:c.args.toList.mapM (aK S env.tm)=some args) (dZ: ∀ V ∈ args, ∀ i ∈ ax S V,restrict S env.bx ids i=env.bx i)
 (hnew: ∀ u ∈ us,B≤u.1→u.1<B+16→env.bx u.1=none)
 (hl:(match args,c.argTypes.toList with
  | [s,x],[t,u]=>match dD S t,dD S u with
   | some e,some e'=>if e=e' then m_ S B (af t) e (restrict S env.bx ids) x s else .fail
   | _,_=> .fail
  | _,_=> .fail).leaf (V,us)) (hK:Goal P S w0 M0 s0 dq env a o.dst V us K):o.wp P a w K Q:=by
 split at hl
 · rename_i Vs Vx t tx xE
   split at hl
   · rename_i e e' het IB
     split at hl
     · rename_i hee
       subst hee
       obtain ⟨xs,xx,hxs,jU,hex⟩:=Aj hargs
       obtain ⟨hs,_⟩:=bf h jU
       obtain ⟨hx,_⟩:=bf h hex
       have ht:=jQ het
       have ql:=jQ IB
       have cz:c.argTypes= #[t,tx]:=by
        have :c.argTypes=c.argTypes.toList.toArray:=by simp
        rw [this,xE]
       have har:c.args= #[xs,xx]:=by
        have :c.args=c.args.toList.toArray:=by simp
        rw [this,hxs]
       have hrun: ∀ {v:Value} {w':World},(Builtin.append_ #[t,tx] o.type #[a.eval xs,a.eval xx]).run P w= .ok v w'→(execOp a.eval o).run P w= .ok (.value v) w':=by
        intro v w' hr
        unfold execOp
        simp only [ho]
        simp [resolve,hc,har,cz,invoke,builtin,hr]
       have tj: ∀ BX,(B,BX) ∈ us→env.bx B=none:=fun BX hm=>hnew _ hm (Nat.le_refl _) (by show B<B+16; omega)
       have nI: ∀ y,datum S (restrict S env.bx ids) (.sl e) Vx=some y→datum S env.bx (.sl e) Vx=some y:=fun y hy=>by
        rw [← (pH (t:= .sl e) (dZ Vx (by simp))).1]; exact hy
       cases Vs with
       | aT b e' l=>
        simp only [m_] at hl
        split at hl
        · rename_i hb
          have hb:=dA hb
          split at hl
          · rename_i l' hl'
            obtain ⟨e1,e2⟩:=c8 hl'
            cases e1
            dsimp only at e2
            subst e2
            split at hl
            · rename_i y hy
              obtain ⟨hg,rfl,rfl⟩:=dY hl
              have hlim:(l.length+y.length)*af t≤limit:=hg (gd ((l.length+y.length)*af t≤limit)) (by simp)
              have hB:=tj .tail (by simp)
              obtain ⟨gk,hown⟩:=hs
              obtain ⟨ad,cap,dR,Cu⟩:=hown hb
              obtain ⟨news,hsrc,hnews⟩:=(wA h hx (nI y hy)).src hP ql
              have hread:=gk.read
              rw [dR] at hread
              have hle:l.length≤cap:=by obtain ⟨_,_,q1,q2,_⟩:=hread; cases q1; exact q2
              obtain ⟨olds,hold,holds,_⟩:=hread.old P
              have bF:live S env.bx b:=by unfold live; rw [hb]; trivial
              have bZ:w.there (μ b).b (μ b).o (μ b).n:=h.bE b _ hb
              have gG: ∀ i ∈ ax S (.aT B e (List.append l y):Sy.V S.C),i=B:=fun i hi=>by simpa [ax,ak] using hi
              rcases uE (ty:=o.type) hP ht hsrc hold holds.1 hle hlim with ⟨h0,hr⟩ | ⟨h0,hroom,hr⟩ | ⟨c',te,cells,hcap,eK,hcsz,hpre,hr⟩
              · have :y= []:=List.length_eq_zero_iff.1 h0
                subst this
                rw [← dR] at hr
                refine lC (V:= .aT B e (List.append l [])) (BX:= .tail) (L:=μ b) h hd hb bF hB (hrun hr) (aW.refl w (fun _ _=>False)) (fun _ _ h=>h.elim) (fun _ _ h=> .inr h) (fun vs=>⟨by simp,by simp⟩) (fun s' hl=>bZ) (fun s' hl _=>⟨?_,fun _=>⟨ad,cap, ?_, ?_⟩⟩) gG hK
                · rw [show List.append l []=l from List.append_nil l]; exact gk.mono S hl
                · rw [show List.append l []=l from List.append_nil l]; exact dR
                · rw [show List.append l []=l from List.append_nil l,aL]; exact Cu
              · have hnl:=hsrc.newsLen
                rcases Cu with ⟨_,hc0,_⟩ | ⟨b0,off,rfl,hn,hlt⟩
                · omega
                · obtain ⟨q1,q2⟩:=hlt (by omega)
                  have hmul:y.length*Ty.sz S e≤(cap - l.length)*Ty.sz S e:=Nat.mul_le_mul_right _ (by omega)
                  have hsplit:(cap - l.length)*Ty.sz S e=y.length*Ty.sz S e+(cap - (l.length+y.length))*Ty.sz S e:=by rw [← Nat.add_mul]; congr 1; omega
                  have hsum:(l.length+y.length)*Ty.sz S e=l.length*Ty.sz S e+y.length*Ty.sz S e:=Nat.add_mul ..
                  rw [q1,q2] at bZ
                  have ez:w.there b0 (off+l.length*Ty.sz S e) news.length:=jD bZ (Nat.le_refl _) (by omega)
                  have hr:=hr b0 off rfl ez
                  rw [← dR] at hr
                  refine lC (V:= .aT B e (List.append l y)) (BX:= .tail) (L:=⟨b0,off+(l.length+y.length)*Ty.sz S e,(cap - (l.length+y.length))*Ty.sz S e,0,false⟩) h hd hb bF hB (hrun hr) (aW.setCells w b0 _ news ez) (fun k o' hk=> ?_) (fun k o' hk=> .inr ?_) (fun vs=>⟨by simp,by simp⟩)
                   (fun s' hl=> ?_) (fun s' hl hm=>⟨?_,fun _=>⟨some ⟨b0,off,none⟩,cap, ?_, ?_⟩⟩) gG hK
                  · exact ⟨by rw [q1]; exact hk.1,by omega,by omega⟩
                  · obtain ⟨k1,k2,k3⟩:=hk
                    dsimp only at k1 k2 k3
                    exact ⟨by rw [q1]; exact k1,by omega,by omega⟩
                  · exact oB (jD bZ (by dsimp only; omega) (by dsimp only; omega)) ez
                  · have hv:a.eval xs= .slice (some ⟨b0,off,none⟩) l.length cap:=dR
                    obtain ⟨_,_,z1,z2,z3⟩:=ic gk
                    rw [hv] at z1
                    cases z1
                    have hel: ∀ i x,l[i]? =some x→ ∃ ds,ds.length=Ty.sz S e∧At (w.setCells b0 (off+l.length*Ty.sz S e) news) s' b0 (off+i*Ty.sz S e) ds∧ ∃ n,az S (w.setCells b0 (off+l.length*Ty.sz S e) news) s' n e x ds:=by
                     intro i x hi
                     rcases z3 with z3 | ⟨b1,o1,n,z4,z5⟩
                     · have :=(List.getElem?_eq_some_iff.1 hi).1; omega
                     · cases z4
                       obtain ⟨ds,d1,d2,d3⟩:=z5 i x hi
                       exact ⟨ds,d1,d2.later hl,n,d3.mono S hl (Nat.le_refl _)⟩
                    have hnew2:At (w.setCells b0 (off+l.length*Ty.sz S e) news) s' b0 (off+l.length*Ty.sz S e) news:=fun j v hj=>by
                     have hjl:=(List.getElem?_eq_some_iff.1 hj).1
                     have BU:=t_ ez j v hj
                     refine ⟨BU,hm _ _ (.inl ⟨by rw [q1],by omega,by omega⟩) (World.block_lt_of_cell? _ _ BU) fun hf=> ?_⟩
                     have :=hf.2.1
                     dsimp only at this
                     omega
                    have :=zx (cap:=cap) (b:=b0) (o':=off) (l:=List.append l y) (by rw [show (List.append l y).length=l.length+y.length from List.length_append]; exact hroom) (FX hel ((hnews.later hl).at hnew2))
                    rw [show (List.append l y).length=l.length+y.length from List.length_append] at this
                    exact this
                  · show Value.slice _ _ _=_
                    rw [show (List.append l y).length=l.length+y.length from List.length_append]
                  · rw [show (List.append l y).length=l.length+y.length from List.length_append,aL]
                    exact .inr ⟨b0,off,rfl,rfl,fun _=>⟨rfl,rfl⟩⟩
              · rw [← dR] at hr
                obtain ⟨g1,g2,g3⟩:=BM (w:=w) (cells:=cells) (t:=te)
                have hsplit:c'*Ty.sz S e=(l.length+y.length)*Ty.sz S e+(c' - (l.length+y.length))*Ty.sz S e:=by rw [← Nat.add_mul]; congr 1; omega
                refine lC (V:= .aT B e (List.append l y)) (BX:= .tail) (L:=⟨w.heap.size,(l.length+y.length)*Ty.sz S e,(c' - (l.length+y.length))*Ty.sz S e,0,false⟩) h hd hb bF hB (hrun hr) (aW.grown (fun _ _=>False)) (fun _ _ h=>h.elim) (fun k o' hk=> .inl (Nat.le_of_eq hk.1.symm)) (fun vs=>⟨by simp,by simp⟩)
                 (fun s' hl=>jD g1 (Nat.zero_le _) (by dsimp only; omega)) (fun s' hl hm=>⟨?_,fun _=>⟨some ⟨w.heap.size,0,none⟩,c', ?_, ?_⟩⟩) gG hK
                · have hall:At (w.drew.alloc (.cells cells te)) s' w.heap.size 0 (olds++news):=fun j v hj=>by
                   have hjl:=(List.getElem?_eq_some_iff.1 hj).1
                   rw [List.length_append,holds.1,hnews.1, ← Nat.add_mul] at hjl
                   refine ⟨Dk g2 hpre j v hj,hm _ _ (.inr rfl) g3 fun hf=> ?_⟩
                   have :=hf.2.1
                   dsimp only at this
                   omega
                  have :=zx (cap:=c') (b:=w.heap.size) (o':=0) (l:=List.append l y) (by rw [show (List.append l y).length=l.length+y.length from List.length_append]; exact eK) (((holds.append hnews).later hl).at hall)
                  rw [show (List.append l y).length=l.length+y.length from List.length_append] at this
                  exact this
                · show Value.slice _ _ _=_
                  rw [show (List.append l y).length=l.length+y.length from List.length_append]
                · rw [show (List.append l y).length=l.length+y.length from List.length_append,aL]
                  exact .inr ⟨_,0,rfl,rfl,fun _=>⟨rfl,by dsimp only; omega⟩⟩
            · exact hl.elim
          · exact hl.elim
        · exact hl.elim
       | aH b=>
        simp only [m_] at hl
        split at hl
        · rename_i e' l hb
          have hb:=dA hb
          split at hl
          · rename_i l' hl'
            obtain ⟨e1,e2⟩:=c8 hl'
            cases e1
            dsimp only at e2
            subst e2
            split at hl
            · rename_i y hy
              obtain ⟨hg,rfl,rfl⟩:=dY hl
              have hlim:(l.length+y.length)*af t≤limit:=hg (gd ((l.length+y.length)*af t≤limit)) (by simp)
              have hB:=tj (.arr e (List.append l y)) (by simp)
              have hread:=ye h (.inl hb) hs
              obtain ⟨ad,cap,dR,dK⟩:=hs.2 e l (.inl hb)
              obtain ⟨news,hsrc,hnews⟩:=(wA h hx (nI y hy)).src hP ql
              rw [dR] at hread
              have hle:l.length≤cap:=dK.fits
              obtain ⟨olds,hold,holds,_⟩:=hread.old P
              have bF:live S env.bx b:=by unfold live; rw [hb]; trivial
              obtain ⟨b1,b2,b3,bZ,b5⟩:=h.bE b _ hb
              have gG: ∀ i ∈ ax S (.aH B:Sy.V S.C),i=B:=fun i hi=>by simpa [ax,ak] using hi
              have Io:=dK.gC
              have cu: ∀ {w':World} {s':St} {μ':Nat→Loc} {L:Loc} {v:Value} {lP:Option Addr} {cap':Nat},v= .slice lP (l.length+y.length) cap'→ku L lP (l.length+y.length) cap' (Ty.sz S e)→μ' B=L→
               RV P S w' s' μ' (ah (ah env.bx b (some .dead)) B (some (.arr e (List.append l y)))) (.aH B) v:=by
               rintro w' s' μ' L v lP cap' rfl hok hμ
               refine ⟨⟨_,_,_,rfl⟩,fun e2 l2 h2=> ?_⟩
               rw [aL] at h2
               rcases h2 with h2 | h2
               · cases h2
                 rw [hμ,show (List.append l y).length=l.length+y.length from List.length_append]
                 exact ⟨lP,cap',rfl,hok⟩
               · cases h2
              rcases uE (ty:=o.type) hP ht hsrc hold holds.1 hle hlim with ⟨h0,hr⟩ | ⟨h0,hroom,hr⟩ | ⟨c',te,cells,hcap,eK,hcsz,hpre,hr⟩
              · have :y= []:=List.length_eq_zero_iff.1 h0
                subst this
                rw [← dR] at hr
                refine lC (V:= .aH B) (BX:= .arr e (List.append l [])) (L:=μ b) h hd hb bF hB (hrun hr) (aW.refl w (fun _ _=>False)) (fun _ _ h=>h.elim) (fun _ _ h=> .inr h) (fun vs=>⟨by simp,by simp⟩) (fun s' hl=> ?_) (fun s' hl _=>cu dR dK (aL _ _ _)) gG hK
                rw [show List.append l []=l from List.append_nil l]
                refine ⟨b1,b2,b3,bZ,fun i x hi=> ?_⟩
                obtain ⟨ds,d1,d2,n,d3⟩:=b5 i x hi
                exact ⟨ds,d1,d2,n,d3.mono S hl (Nat.le_refl _)⟩
              · have hnl:=hsrc.newsLen
                have iC:(μ b).nil=false:=by
                 cases hn:(μ b).nil with
                 | false=>rfl
                 | true=>have :=dK.isNil hn; omega
                have had:=dK.addr
                rw [iC] at had
                have hmul:(l.length+y.length)*Ty.sz S e≤(μ b).cap*Ty.sz S e:=Nat.mul_le_mul_right _ (by omega)
                rw [Nat.add_mul] at hmul
                have ez:w.there (μ b).b ((μ b).o+l.length*Ty.sz S e) news.length:=jD bZ (by omega) (by omega)
                have hr:=hr _ _ had ez
                rw [← dR] at hr
                refine lC (V:= .aH B) (BX:= .arr e (List.append l y)) (L:=μ b) h hd hb bF hB (hrun hr) (aW.setCells w (μ b).b _ news ez) (fun k o' hk=>⟨hk.1,by omega,by omega⟩) (fun k o' hk=> .inr hk) (fun vs=>⟨by simp,by simp⟩)
                 (fun s' hl=>⟨b1,b2, ?_,oB bZ ez, ?_⟩) (fun s' hl hm=>cu (cap':=cap) rfl ?_ (aL _ _ _)) gG hK
                · rw [show (List.append l y).length=l.length+y.length from List.length_append]; omega
                · refine oY (fun i x hi=> ?_) ((hnews.later hl).row (t_ ez))
                  obtain ⟨ds,d1,d2,n,d3⟩:=b5 i x hi
                  refine ⟨ds,d1,n6 d2 (.inr (.inl ?_)),n,d3.mono S hl (Nat.le_refl _)⟩
                  have nN:=(List.getElem?_eq_some_iff.1 hi).1
                  have :(i+1)*Ty.sz S e≤l.length*Ty.sz S e:=Nat.mul_le_mul_right _ (by omega)
                  rw [Nat.add_mul,Nat.one_mul] at this
                  omega
                · exact ⟨dK.addr,dK.gC,dK.cells,dK.isNil,hroom⟩
              · rw [← dR] at hr
                obtain ⟨g1,g2,g3⟩:=BM (w:=w) (cells:=cells) (t:=te)
                refine lC (V:= .aH B) (BX:= .arr e (List.append l y)) (L:=⟨w.heap.size,0,c'*Ty.sz S e,c',false⟩) h hd hb bF hB (hrun hr) (aW.grown (fun _ _=>False)) (fun _ _ h=>h.elim) (fun k o' hk=> .inl (Nat.le_of_eq hk.1.symm)) (fun vs=>⟨by simp,by simp⟩)
                 (fun s' hl=>⟨rfl,(fun h=>by cases h), ?_,by show World.there _ w.heap.size 0 (c'*Ty.sz S e); rw [← hcsz]; exact g1, ?_⟩) (fun s' hl hm=>cu (cap':=c') rfl ⟨rfl,rfl,rfl,(fun h=>by cases h),eK⟩ (aL _ _ _)) gG hK
                · rw [show (List.append l y).length=l.length+y.length from List.length_append]; exact eK
                · exact ((holds.append hnews).later hl).row (Dk g2 hpre)
            · exact hl.elim
          · exact hl.elim
        · exact hl.elim
       | pre b n=>
        simp only [m_] at hl
        split at hl
        · rename_i e' l b' i m hb _
          have hb:=dA hb
          cases xj:Nat.beq b' b with
          | false=>rw [xj] at hl; exact hl.elim
          | true=>
           rw [xj,cond_true] at hl
           have :=Nat.eq_of_beq_eq_true xj
           subst this
           split at hl
           · rename_i l' hl'
             obtain ⟨e1,e2⟩:=c8 hl'
             cases e1
             dsimp only at e2
             subst e2
             obtain ⟨hg,rfl,rfl⟩:=dY hl
             have hni:n≤i:=hg (gd (n≤i)) (by simp)
             have IV:List.length l*af t≤limit:=hg (gd (List.length l*af t≤limit)) (by simp)
             have hB:=tj (.arr e (jk l n i m)) (by simp)
             obtain ⟨hn0,hnl,ad,cap,dR,dK⟩:=hs.2 e l hb
             obtain ⟨hi0,hm0,xy,FT,cap2,xL,I5,Ib⟩:=hx.2 e l hb
             obtain ⟨b1,b2,b3,bZ,b5⟩:=h.bE b' _ hb
             have Io:=dK.gC
             have bF:live S env.bx b':=by unfold live; rw [hb]; trivial
             obtain ⟨y,hy⟩: ∃ y,y=(List.drop i.toNat l).take m.toNat:=⟨_,rfl⟩
             have Ju:y.length=m.toNat:=by rw [hy,List.length_take,List.length_drop]; omega
             have Js: ∀ k x,y[k]? =some x→l[i.toNat+k]? =some x:=fun k x hk=>by
              rw [hy,List.getElem?_take] at hk
              split at hk
              · rwa [List.getElem?_drop] at hk
              · cases hk
             have hrd:Read S w (aD S w0 M0 s0 env.bx μ w) e y (a.eval xx):=by
              refine ⟨FT,cap2,by rw [Ju]; exact xL,by omega, ?_⟩
              rcases Ib with h0 | h0
              · exact .inl (by omega)
              · refine .inr ⟨_,_,h0,fun k x hk=> ?_⟩
                obtain ⟨ds,d1,d2,q,d3⟩:=b5 _ x (Js k x hk)
                exact ⟨ds,d1,by rw [show (μ b').o+i.toNat*Ty.sz S e+k*Ty.sz S e=(μ b').o+(i.toNat+k)*Ty.sz S e from by rw [Nat.add_mul]; omega]; exact d2,q,d3⟩
             have hpl:(List.take n.toNat l).length=n.toNat:=by rw [List.length_take]; omega
             have Jc:Read S w (aD S w0 M0 s0 env.bx μ w) e (List.take n.toNat l) (.slice ad (List.take n.toNat l).length cap):=by
              refine ⟨ad,cap,rfl,by rw [hpl]; exact dK.fits, ?_⟩
              by_cases h0:n.toNat=0
              · exact .inl (by rw [hpl]; exact h0)
              · have iC:(μ b').nil=false:=by
                 cases hn:(μ b').nil with
                 | false=>rfl
                 | true=>have :=dK.isNil hn; have :=dK.fits; omega
                have had:=dK.addr
                rw [iC] at had
                refine .inr ⟨_,_,had,fun k x hk=> ?_⟩
                rw [List.getElem?_take] at hk
                split at hk
                · exact b5 k x hk
                · cases hk
             obtain ⟨news,hsrc,hnews⟩:=hrd.src hP ql
             obtain ⟨olds,hold,holds,_⟩:=Jc.old P
             rw [hpl] at hold
             have hol:=holds.1
             rw [hpl] at hol
             have hlim:(n.toNat+y.length)*af t≤limit:=Nat.le_trans (Nat.mul_le_mul_right _ (by omega)) IV
             have gG: ∀ j ∈ ax S (.pre B (n+m):Sy.V S.C),j=B:=fun j hj=>by simpa [ax,ak] using hj
             have hml:=Kz l hn0 hni hm0 xy
             have hnm:(n+m).toNat=n.toNat+y.length:=by omega
             have cu: ∀ {w':World} {s':St} {μ':Nat→Loc} {v:Value},v= .slice ad (n.toNat+y.length) cap→μ' B=μ b'→
              RV P S w' s' μ' (ah (ah env.bx b' (some .dead)) B (some (.arr e (jk l n i m)))) (.pre B (n+m)) v:=by
              rintro w' s' μ' v rfl hμ
              refine ⟨⟨_,_,_,rfl⟩,fun e2 l2 h2=> ?_⟩
              rw [aL] at h2
              cases h2
              rw [hμ,hml]
              exact ⟨by omega,by omega,ad,cap,by rw [hnm],dK.addr,dK.gC,dK.cells,dK.isNil,by omega⟩
             have Ci:jk l n i m=(List.take n.toNat l++y)++List.drop (n.toNat+y.length) l:=by
              unfold jk; rw [hnm,hy]
             rcases uE (ty:=o.type) hP ht hsrc hold hol dK.fits hlim with ⟨h0,hr⟩ | ⟨h0,hroom,hr⟩ | ⟨c',te,cells,hcap,eK,hcsz,hpre,hr⟩
             · have hy0:y= []:=List.length_eq_zero_iff.1 h0
               rw [← dR] at hr
               refine lC (V:= .pre B (n+m)) (BX:= .arr e (jk l n i m)) (L:=μ b') h hd hb bF hB (hrun hr) (aW.refl w (fun _ _=>False)) (fun _ _ h=>h.elim) (fun _ _ h=> .inr h) (fun vs=>⟨by simp,by simp⟩) (fun s' hl=> ?_) (fun s' hl _=>cu (by rw [dR,h0]; rfl) (aL _ _ _)) gG hK
               have :jk l n i m=l:=by rw [Ci,hy0]; simp
               rw [this]
               refine ⟨b1,b2,b3,bZ,fun i x hi=> ?_⟩
               obtain ⟨ds,d1,d2,n,d3⟩:=b5 i x hi
               exact ⟨ds,d1,d2,n,d3.mono S hl (Nat.le_refl _)⟩
             · have Pg:=hsrc.newsLen
               have iC:(μ b').nil=false:=by
                cases hn:(μ b').nil with
                | false=>rfl
                | true=>have :=dK.isNil hn; omega
               have had:=dK.addr
               rw [iC] at had
               have hmul:(n.toNat+y.length)*Ty.sz S e≤(μ b').cap*Ty.sz S e:=Nat.mul_le_mul_right _ (by omega)
               have hsum:(n.toNat+y.length)*Ty.sz S e=n.toNat*Ty.sz S e+y.length*Ty.sz S e:=Nat.add_mul ..
               have ez:w.there (μ b').b ((μ b').o+n.toNat*Ty.sz S e) news.length:=jD bZ (by omega) (by omega)
               have hr:=hr _ _ had ez
               rw [← dR] at hr
               refine lC (V:= .pre B (n+m)) (BX:= .arr e (jk l n i m)) (L:=μ b') h hd hb bF hB (hrun hr) (aW.setCells w (μ b').b _ news ez) (fun k o' hk=>⟨hk.1,by omega,by omega⟩) (fun k o' hk=> .inr hk) (fun vs=>⟨by simp,by simp⟩)
                (fun s' hl=>⟨b1,b2,by rw [hml]; exact b3,oB bZ ez, ?_⟩) (fun s' hl hm=>cu rfl (aL _ _ _)) gG hK
               rw [Ci]
               refine oY (oY (fun k x hk=> ?_) ?_) (fun k x hk=> ?_)
               · rw [List.getElem?_take] at hk
                 split at hk
                 · rename_i hkn
                   obtain ⟨ds,d1,d2,q,d3⟩:=b5 k x hk
                   refine ⟨ds,d1,n6 d2 (.inr (.inl ?_)),q,d3.mono S hl (Nat.le_refl _)⟩
                   have :(k+1)*Ty.sz S e≤n.toNat*Ty.sz S e:=Nat.mul_le_mul_right _ (by omega)
                   rw [Nat.add_mul,Nat.one_mul] at this
                   omega
                 · cases hk
               · rw [hpl]
                 exact (hnews.later hl).row (t_ ez)
               · rw [List.getElem?_drop] at hk
                 obtain ⟨ds,d1,d2,q,d3⟩:=b5 _ x hk
                 rw [List.length_append,hpl,Nat.add_assoc, ← Nat.add_mul]
                 refine ⟨ds,d1,n6 d2 (.inr (.inr ?_)),q,d3.mono S hl (Nat.le_refl _)⟩
                 have :(n.toNat+y.length)*Ty.sz S e≤(n.toNat+y.length+k)*Ty.sz S e:=Nat.mul_le_mul_right _ (by omega)
                 omega
             · omega
           · exact hl.elim
        · exact hl.elim
       | b6=>
        simp only [m_] at hl
        split at hl
        · rename_i y hy
          obtain ⟨hg,rfl,rfl⟩:=dY hl
          have hlim:y.length*af t≤limit:=hg (gd (y.length*af t≤limit)) (by simp)
          have hB:=tj (.arr e y) (by simp)
          obtain ⟨news,hsrc,hnews⟩:=(wA h hx (nI y hy)).src hP ql
          have dR:a.eval xs= .slice none 0 0:=hs
          have hold:(Builtin.firstCells (Ty.sz S e) 0 (.slice none 0 0)).run P w.drew= .ok (#[]:Array Value) w.drew:=run_firstCells_none _ _ _ _ _
          rcases uE (olds:= []) (ty:=o.type) hP ht hsrc hold (by simp) (Nat.le_refl 0) (by rw [Nat.zero_add]; exact hlim) with ⟨h0,hr⟩ | ⟨h0,hroom,hr⟩ | ⟨c',te,cells,hcap,eK,hcsz,hpre,hr⟩
          · have :y= []:=List.length_eq_zero_iff.1 h0
            subst this
            rw [← dR] at hr
            refine lB (i:=B) (B:= .arr e []) (V:= .aH B) (L:=⟨0,0,0,0,true⟩) h (hrun hr) hd (aW.refl w _) hB (fun b o' hf=> ?_) (fun hl _ h3=>⟨⟨by simp,fun _=>rfl,Nat.le_refl _,fun j hj=>absurd hj (Nat.not_lt_zero j),fun i x hi=>by simp at hi⟩,⟨⟨none,0,0,dR⟩,fun e' l' hb=> ?_⟩⟩)
             (fun vs hvs=>by rcases hvs with hvs | hvs <;> cases hvs) (fun j hj=> .inl (by simpa [ax,ak] using hj)) hK
            · have h1:=hf.2.1; have h2:=hf.2.2; simp at h2
            · rw [aL] at hb
              rcases hb with hb | hb
              · cases hb
                rw [aL]
                exact ⟨none,0,dR,rfl,rfl,by simp,fun _=>rfl,Nat.le_refl _⟩
              · cases hb
          · omega
          · rw [← dR] at hr
            rw [Nat.zero_add] at eK hr
            exact zT (us:= []) (t:=te) (e:=e) (l:=y) (cap:=c') (cells:=cells) (cs:=news) (w1:=w.drew) h hd (Tk.refl S _) hB rfl ⟨rfl,rfl,rfl⟩ (hrun hr) eK hcsz hnews hpre hK
        · exact hl.elim
       | _=>exact hl.elim
     · exact hl.elim
   · exact hl.elim
 · exact hl.elim
theorem GQ {α:Type} (z:α) (l:List α) {i m:Int} (h3:i.toNat+m.toNat≤l.length) (h0:0≤i) (h1:0≤m):(pF z l i m).length=l.length:=by
 unfold pF
 simp only [List.length_append,List.length_take,List.length_drop,List.length_replicate]
 omega
theorem Mt (hP:aO P S af) {t:Nat} {e:Ty} (ht:S.ty t=some (.sl e)) {ty:Nat} {ad:Option Addr} {n cap b o':Nat} {news:List Value} (had:n=0∧news= []∨ad=some ⟨b,o',none⟩)
 {te:Nat} {ie:TypeInfo} {z:Value} (hu:P.underlying t=some (.slice te)) (hz: ∀ w,(zeroValue te).run P w= .ok z w) (hn:(Builtin.zeroCells z.cells n).toList=news) (bZ:w.there b o' news.length) (h1: ∀ c ∈ news,c.oneCell'=true):
 (Builtin.clear_ #[t] ty #[.slice ad n cap]).run P w= .ok (.tuple #[]) (w.setCells b o' news):=by
 rcases Nat.eq_zero_or_pos n with h0 | h0
 · subst h0
   have :news= []:=by rw [← hn]; simp [Builtin.zeroCells]
   subst this
   cases ad <;> simp [Builtin.clear_,run_underlying hu,MU]
 · rcases had with ⟨h2,_⟩ | h2
   · omega
   · subst h2
     have hst:=run_storeCells_cells (P:=P) b o' news 0 w (by simpa using fun j hj=>(bZ j hj).1) (by simpa using fun j hj=>(bZ j hj).2) h1
     simp only [Nat.add_zero] at hst
     obtain ⟨m,rfl⟩: ∃ m,n=m+1:=⟨n - 1,by omega⟩
     simp [Builtin.clear_,run_underlying hu,hz,hn,hst]
theorem GP (hP:aO P S af) (h:Inv P S w0 M0 s0 dq env a w μ) (hd: ∀ d,o.dst=some d→d<a.tmps.size) {c:Call} (ho:o.op= .call c) (hc:c.callee= .builtin .clear) {args:List (Sy.V S.C)} {ids:List Nat}
 (hargs:c.args.toList.mapM (aK S env.tm)=some args)
 (hl:(match args,c.argTypes.toList with
  | [v],[t]=>match dD S t with
   | some e=>wo S e (restrict S env.bx ids) v
   | none=> .fail
  | _,_=> .fail).leaf (V,us)) (hK:Goal P S w0 M0 s0 dq env a o.dst V us K):o.wp P a w K Q:=by
 split at hl
 · rename_i Vs t xE
   split at hl
   · rename_i e het
     have hone: ∃ x,c.args= #[x]∧aK S env.tm x=some Vs:=by
      have hca:c.args=c.args.toList.toArray:=by simp
      cases e:c.args.toList with
      | nil=>rw [e] at hargs; cases hargs
      | cons x r=>
       rw [e] at hargs
       obtain ⟨y,zs,h1,h2,h3⟩:=jj hargs
       cases h3
       cases r with
       | nil=>exact ⟨x,by rw [hca,e],h1⟩
       | cons x' r'=>
        obtain ⟨y',zs',h4,h5,h6⟩:=jj h2
        cases h6
     obtain ⟨x,Ig,hex⟩:=hone
     obtain ⟨hx,_⟩:=bf h hex
     have ht:=jQ het
     have cz:c.argTypes= #[t]:=by
      have :c.argTypes=c.argTypes.toList.toArray:=by simp
      rw [this,xE]
     unfold wo at hl
     split at hl
     · rename_i b i m _
       split at hl
       · rename_i e' l hb
         have hb:=dA hb
         split at hl
         · rename_i l' hl'
           obtain ⟨e1,e2⟩:=c8 hl'
           cases e1
           dsimp only at e2
           subst e2
           obtain ⟨rfl,rfl⟩:=bg hl
           obtain ⟨hi0,hm0,xy,ad,cap,xL,I5,had⟩:=hx.2 e l hb
           obtain ⟨b1,b2,b3,bZ,b5⟩:=h.bE b _ hb
           have bF:live S env.bx b:=by unfold live; rw [hb]; trivial
           obtain ⟨te,ie,z,hu,hte,hie,hby,eg,_⟩:=hP.sl ht
           obtain ⟨⟨i',z,h1,h2,h3,h4,h5⟩,_⟩:=hP.ty te _ hte
           obtain ⟨q,hq⟩:=zW (w:=w) hP hte (aD S w0 M0 s0 env.bx μ w)
           obtain ⟨x1,x2,x3⟩:=ja (P:=P) hP.tocm μ env.bx hq
           have Co:=rO x2 x1
           rw [← h5] at hq Co
           have Jw: ∀ w,(zeroValue te).run P w= .ok z w:=fun w=>by simp [zeroValue,typeInfo,h1,h3]
           have hzs:z.cells.size=Ty.sz S e:=by have :=hq.length S; simpa using this
           obtain ⟨news,hnews⟩: ∃ news,news=(Builtin.zeroCells z.cells m.toNat).toList:=⟨_,rfl⟩
           have BW:cv w (aD S w0 M0 s0 env.bx μ w) e (List.replicate m.toNat (Ty.zero S e)) news:=by
            have :=cv.replicate hq m.toNat
            rw [hnews]
            have e3:Builtin.zeroCells z.cells m.toNat=madeCells z.cells (m.toNat*Ty.sz S e):=by
             unfold Builtin.zeroCells madeCells
             rw [hzs]
            rw [e3]; exact this
           have hnl:news.length=m.toNat*Ty.sz S e:=by have :=BW.1; rwa [List.length_replicate] at this
           have hsum:(i.toNat+m.toNat)*Ty.sz S e=i.toNat*Ty.sz S e+m.toNat*Ty.sz S e:=Nat.add_mul ..
           have hmul:(i.toNat+m.toNat)*Ty.sz S e≤(μ b).cap*Ty.sz S e:=Nat.mul_le_mul_right _ (by omega)
           have ez:w.there (μ b).b ((μ b).o+i.toNat*Ty.sz S e) news.length:=jD bZ (by omega) (by omega)
           have hno: ∀ c ∈ news,c.oneCell'=true:=by
            intro c hc
            rw [hnews] at hc
            unfold Builtin.zeroCells at hc
            simp only [Array.toList_map,List.mem_map,Array.toList_range,List.mem_range] at hc
            obtain ⟨k,hk,rfl⟩:=hc
            have hp:0<z.cells.size:=by
             rcases Nat.eq_zero_or_pos z.cells.size with h0 | h0
             · rw [h0,Nat.mul_zero] at hk; omega
             · exact h0
            have hlt:=Nat.mod_lt k hp
            rw [getElem!_pos z.cells _ hlt]
            exact Co _ (by simp)
           have hrun:(execOp a.eval o).run P w= .ok (.value (.tuple #[])) (w.setCells (μ b).b ((μ b).o+i.toNat*Ty.sz S e) news):=by
            have hr:=Mt (P:=P) (w:=w) (ty:=o.type) hP ht (ad:=ad) (n:=m.toNat) (cap:=cap) (b:=(μ b).b) (o':=(μ b).o+i.toNat*Ty.sz S e) (news:=news) (te:=te) (ie:=ie) (z:=z) (had.imp (fun h0=>⟨h0,List.length_eq_zero_iff.1 (by rw [hnl,h0,Nat.zero_mul])⟩) id) hu Jw hnews.symm ez hno
            rw [← xL] at hr
            unfold execOp
            simp only [ho]
            simp [resolve,hc,Ig,cz,invoke,builtin,hr]
           have hcl:=GQ (Ty.zero S e) l xy hi0 hm0
           have hI:=h.write (B':= .arr e (pF (Ty.zero S e) l i m)) hb bF (fun _ e=>nomatch e) (o':=(μ b).o+i.toNat*Ty.sz S e) (vals:=news) (by omega) (by omega) ⟨rfl,rfl,hcl⟩ (fun hl jS=>⟨b1,b2,by rw [hcl]; exact b3,oB bZ ez, ?_⟩) (fun ws fA=>by rcases fA with fA | fA <;> cases fA)
           · unfold Oper.wp
             rw [hrun]
             refine hK _ _ μ (hI.put hd (V:= .ff []) (v:= .tuple #[]) ⟨#[],rfl,rfl⟩ (by simp [ax])) ?_
             cases o.dst <;> simp [Act.put]
           · have hpl:(List.take i.toNat l).length=i.toNat:=by rw [List.length_take]; omega
             unfold pF
             refine oY (oY (fun k x hk=> ?_) ?_) (fun k x hk=> ?_)
             · rw [List.getElem?_take] at hk
               split at hk
               · rename_i hkn
                 obtain ⟨ds,d1,d2,q,d3⟩:=b5 k x hk
                 refine ⟨ds,d1,n6 d2 (.inr (.inl ?_)),q,d3.mono S hl (Nat.le_refl _)⟩
                 have :(k+1)*Ty.sz S e≤i.toNat*Ty.sz S e:=Nat.mul_le_mul_right _ (by omega)
                 rw [Nat.add_mul,Nat.one_mul] at this
                 omega
               · cases hk
             · rw [hpl]
               exact (BW.later hl).row (t_ ez)
             · rw [List.getElem?_drop] at hk
               obtain ⟨ds,d1,d2,q,d3⟩:=b5 _ x hk
               rw [List.length_append,hpl,List.length_replicate,Nat.add_assoc, ← Nat.add_mul]
               have IM:(i+m).toNat=i.toNat+m.toNat:=by omega
               rw [IM] at d2
               refine ⟨ds,d1,n6 d2 (.inr (.inr ?_)),q,d3.mono S hl (Nat.le_refl _)⟩
               have :(i.toNat+m.toNat)*Ty.sz S e≤(i.toNat+m.toNat+k)*Ty.sz S e:=Nat.mul_le_mul_right _ (by omega)
               omega
         · exact hl.elim
       · exact hl.elim
     · exact hl.elim
   · exact hl.elim
 · exact hl.elim
end
end Go.Sy
namespace Go.Sy
section
variable {P:Program} {S:aN} {af:Nat→Nat}
theorem eS.length {w:World} {s:St} : ∀ {M:St} {cs:List CK} {x:bk S.C cs} {vs:List Value},eS S w s M cs x vs→vs.length=CK.bT S cs
 | _,[],_,_,h=>by rw [h.2]; rfl
 | _,c::cs,_,_,⟨M1,M2,v1,v2,h1,h2,h3,h4,h5⟩=>by subst h2; rw [List.length_append,h3,eS.length h5]; rfl
theorem ym (hS:cm S) {w:World} {s M:St} (gf id:Nat) {cs:List CK} {x:bk S.C cs} {v:Value} (hne: ∀ i,id≤i→i<(a_ S id cs x).2.2→i≠gf) (L:Loc) (hv:v= .pointer (some ⟨L.b,L.o,none⟩)) (hn:L.n=CK.bT S cs)
 (h:cY S w s M cs x v):
 ∃ lam,lam gf=L∧id≤(a_ S id cs x).2.2∧bO P S w s (fun i=>i=gf∨(id≤i∧i<(a_ S id cs x).2.2)) ((gf, .cells (a_ S id cs x).1)::(a_ S id cs x).2.1) lam M:=by
 obtain ⟨b,o,ds,M',fy,bZ,gJ,hM,hcs⟩:=h
 rw [fy] at hv
 cases hv
 obtain ⟨le,l2,g2,s2,r2,ke⟩:=yf (P:=P) hS cs id hcs
 have hlen:=eS.length hcs
 have hne: ∀ u ∈ (a_ S id cs x).2.1,u.1≠gf:=fun u hu=>hne _ (g2.dU u hu).1 (g2.dU u hu).2
 let lam:Nat→Loc:=fun i=>if i=gf then L else l2 i
 have e1:lam gf=L:=if_pos rfl
 have e2: ∀ u ∈ (a_ S id cs x).2.1,lam u.1=l2 u.1:=fun u hu=>if_neg (hne u hu)
 have hag: ∀ μ bx,Agree ((gf, .cells (a_ S id cs x).1)::(a_ S id cs x).2.1) lam μ bx→Agree (a_ S id cs x).2.1 l2 μ bx:=
  fun μ bx h u hu=>⟨(h u (by simp [hu])).1,(h u (by simp [hu])).2.trans (e2 u hu)⟩
 refine ⟨lam,e1,le,⟨?_, ?_, ?_, ?_, ?_, ?_, ?_⟩⟩
 · intro u hu
   rcases List.mem_cons.1 hu with rfl | hu
   · exact .inl rfl
   · exact .inr (g2.dU u hu)
 · intro u hu u' aJ he
   rcases List.mem_cons.1 hu with rfl | hu <;> rcases List.mem_cons.1 aJ with rfl | aJ
   · rfl
   · exact absurd he.symm (hne u' aJ)
   · exact absurd he (hne u hu)
   · exact g2.one u hu u' aJ he
 · intro μ bx ha u hu
   rcases List.mem_cons.1 hu with rfl | hu
   · show RB P S w s μ bx (lam gf) (.cells _)
     rw [e1]
     have hr:=ke μ bx (hag μ bx ha)
     exact ⟨s2,by rw [hn, ← hlen]; exact aF.length P S hr,by rw [hn, ← hlen]; exact bZ,ds,gJ,hr⟩
   · rw [e2 u hu]
     exact g2.rb μ bx (hag μ bx ha) u hu
 · intro bx u hu hb
   rcases List.mem_cons.1 hu with rfl | hu
   · unfold live; rw [hb]; trivial
   · exact g2.lv bx u hu hb
 · intro b' o'
   rw [hM.1 b' o',g2.aC]
   constructor
   · rintro (h | ⟨u,hu,hf⟩)
     · refine ⟨_,List.mem_cons_self, ?_⟩
       show (lam gf).aC b' o'
       rw [e1]; exact ⟨h.1,h.2.1,by rw [hn, ← hlen]; exact h.2.2⟩
     · exact ⟨u,by simp [hu],by rw [e2 u hu]; exact hf⟩
   · rintro ⟨u,hu,hf⟩
     rcases List.mem_cons.1 hu with rfl | hu
     · have hf:(lam gf).aC b' o':=hf
       rw [e1] at hf; exact .inl ⟨hf.1,hf.2.1,by rw [hlen, ← hn]; exact hf.2.2⟩
     · rw [e2 u hu] at hf; exact .inr ⟨u,hu,hf⟩
 · intro u hu u' aJ hn' b' o' hf hf'
   rcases List.mem_cons.1 hu with rfl | hu <;> rcases List.mem_cons.1 aJ with rfl | aJ
   · exact hn' rfl
   · have hf:(lam gf).aC b' o':=hf
     rw [e1] at hf; rw [e2 u' aJ] at hf'
     exact hM.2 b' o' ⟨hf.1,hf.2.1,by rw [hlen, ← hn]; exact hf.2.2⟩ ((g2.aC b' o').2 ⟨u',aJ,hf'⟩)
   · have hf':(lam gf).aC b' o':=hf'
     rw [e1] at hf'; rw [e2 u hu] at hf
     exact hM.2 b' o' ⟨hf'.1,hf'.2.1,by rw [hlen, ← hn]; exact hf'.2.2⟩ ((g2.aC b' o').2 ⟨u,hu,hf⟩)
   · rw [e2 u hu] at hf; rw [e2 u' aJ] at hf'
     exact g2.cF u hu u' aJ hn' b' o' hf hf'
 · intro u hu vs hvs v hv j hj
   rcases List.mem_cons.1 hu with rfl | hu
   · rcases hvs with hvs | hvs
     · cases hvs
       obtain ⟨u',aJ,he⟩:=r2 v hv j hj
       exact ⟨u',by simp [aJ],he⟩
     · cases hvs
   · obtain ⟨u',aJ,he⟩:=g2.ref u hu vs hvs v hv j hj
     exact ⟨u',by simp [aJ],he⟩
theorem Ky (hS:cm S) {w:World} {s M:St} (id:Nat) {k:K} {x:k.den S.C} {v:Value} (h:iV P S w s M k x v) {κ:Sy.V S.C×aG S.C×Nat→Tr (Sy.V S.C×aG S.C)} {p:Sy.V S.C×aG S.C} (hl:(CX S id k x κ).leaf p):
 ∃ q,(κ q).leaf p∧id≤q.2.2∧q.2.2≤id+jX k∧ ∃ lam,bO P S w s (fun i=>id≤i∧i<q.2.2) q.2.1 lam M∧(∀ j ∈ ak S q.1, ∃ u ∈ q.2.1,u.1=j)∧
  ∀ μ bx,Agree q.2.1 lam μ bx→bl P S w s μ bx q.1 v:=by
 have kj: ∀ (M:St) (n:Nat),fh M→bO P S w s (fun i=>n≤i∧i<n) ([]:aG S.C) (fun _=>⟨0,0,0,0,true⟩) M:=fun M n hM=>bO.nil hM _
 have obj: ∀ (cs:List CK) (y:bk S.C cs),cY S w s M cs y v→(κ (.ptr id 0,(id, .cells (a_ S (id+1) cs y).1)::(a_ S (id+1) cs y).2.1,(a_ S (id+1) cs y).2.2)).leaf p→
  ∃ q,(κ q).leaf p∧id≤q.2.2∧q.2.2≤id+(1+cs.foldl oneMore 0)∧ ∃ lam,bO P S w s (fun i=>id≤i∧i<q.2.2) q.2.1 lam M∧(∀ j ∈ ak S q.1, ∃ u ∈ q.2.1,u.1=j)∧
  ∀ μ bx,Agree q.2.1 lam μ bx→bl P S w s μ bx q.1 v:=by
  intro cs y hy hl
  obtain ⟨lam,g,le,rv⟩:=nV (P:=P) hS id hy
  refine ⟨_,hl,Nat.le_of_lt le, ?_,lam,g,fun j hj=> ?_,rv⟩
  · have :=l5 cs (id+1) y 0
    show (a_ S (id+1) cs y).2.2≤_
    omega
  · simp [ak] at hj
    subst hj
    exact ⟨_,List.mem_cons_self,rfl⟩
 cases k with
 | val c=>
  obtain ⟨h1,h2⟩:=h
  cases c with
  | data t=>
   obtain ⟨hM,n,hn⟩:=h1
   exact ⟨_,hl,Nat.le_refl _,Nat.le_refl _,_,kj M id hM,fun j hj=>by simp [ak] at hj,fun μ bx _=>⟨h2,n,hn⟩⟩
  | aT e=>
   obtain ⟨le,lam,g,s1,r1,rv⟩:=tV (P:=P) hS id h1
   refine ⟨_,hl,Nat.le_succ _,Nat.le_refl _,lam,g,fun j hj=>r1 (.aT id e x) (by simp [bR]) j hj,fun μ bx ha=> ?_⟩
   obtain ⟨c,r,hc,hv,hr⟩:=rv μ bx ha
   cases hr
   rw [kG hc h2]
   exact hv
  | aH e=>
   obtain ⟨le,lam,g,s1,r1,rv⟩:=tV (P:=P) hS id h1
   refine ⟨_,hl,Nat.le_succ _,Nat.le_refl _,lam,g,fun j hj=>r1 (.aH id) (by simp [bR]) j hj,fun μ bx ha=> ?_⟩
   obtain ⟨c,r,hc,hv,hr⟩:=rv μ bx ha
   cases hr
   rw [kG hc h2]
   exact hv
 | obj cs=>exact obj cs x h hl
 | opt cs=>
  rcases hl with ⟨hx,hl⟩ | ⟨y,hx,hl⟩
  · subst hx
    exact ⟨_,hl,Nat.le_refl _,Nat.le_add_right _ _,_,kj M id h.1,fun j hj=>by simp [ak] at hj,fun μ bx _=>h.2⟩
  · subst hx
    exact obj cs y h hl
 | bD t cs=>exact hl.elim
 | err=>exact ⟨_,hl,Nat.le_refl _,Nat.le_refl _,_,kj M id h.1,fun j hj=>by simp [ak] at hj,fun μ bx _=>h.2⟩
 | aU=>
  have h:sw S w M x v:=h
  obtain ⟨b,R,hb,_⟩:=Iff.mp Iff.rfl h
  obtain ⟨lam,e,g⟩:=vP (P:=P) (s:=s) id (id+1) (by omega) ⟨b,0,2,0,false⟩ rfl rfl hb h
  refine ⟨_,hl,by show id≤id+2; omega,Nat.le_refl _,lam,g.weaken fun i hi=>by show id≤i∧i<id+2; omega,fun j hj=> ?_,fun μ bx ha=> ?_⟩
  · simp [ak] at hj
    subst hj
    exact ⟨_,List.mem_cons_self,rfl⟩
  · have a1:=(ha (id, .aU (id+1)) (by simp)).2
    show v= .pointer (some ⟨(μ id).b,(μ id).o+0,none⟩)
    rw [hb,show μ id=lam id from a1,e]
 | nil=>exact ⟨_,hl,Nat.le_refl _,Nat.le_refl _,_,kj M id h.1,fun j hj=>by simp [ak] at hj,fun μ bx _=>h.2⟩
 | ro t=>exact ⟨_,hl,Nat.le_refl _,Nat.le_refl _,_,kj M id h.1,fun j hj=>by simp [ak] at hj,fun μ bx _=>h.2⟩
 | fn a r=>exact ⟨_,hl,Nat.le_refl _,Nat.le_refl _,_,kj M id h.1,fun j hj=>by simp [ak] at hj,fun μ bx _=>h.2⟩
 | bV cs=>
  obtain ⟨p',hv,h⟩:=h
  obtain ⟨lam,g,le,rv⟩:=nV (P:=P) hS id h
  refine ⟨_,hl,Nat.le_of_lt le, ?_,lam,g,fun j hj=> ?_,fun μ bx ha=> ?_⟩
  · have :=l5 cs (id+1) x 0
    show (a_ S (id+1) cs x).2.2≤id+(1+cs.foldl oneMore 0)
    omega
  · simp [ak] at hj
    subst hj
    exact ⟨_,List.mem_cons_self,rfl⟩
  · have :Value.pointer (some p')= .pointer (some ⟨(μ id).b,(μ id).o+0,none⟩):=rv μ bx ha
    show v= .slice (some ⟨(μ id).b,(μ id).o,none⟩) (CK.bT S cs) (CK.bT S cs)
    rw [hv]
    cases this
    rfl
theorem CY (hS:cm S) {w:World} {s:St} {os:List K} : ∀ (rs:List K) {M:St} (id:Nat) {r:Ks S.C (rs++os)} {vs:List Value} {κ:List (Sy.V S.C)×aG S.C×Nat→Rt S} {p:Sy.V S.C×aG S.C},
 bL P S w s M (rs++os) r vs→(tW S id rs (gw S rs os r).1 κ).leaf p→
 ∃ q M1 M2 us ws,(κ q).leaf p∧vs=us++ws∧fJ M M1 M2∧bL P S w s M2 os (gw S rs os r).2 ws∧id≤q.2.2∧q.2.2≤id+fB rs∧
  ∃ lam,bO P S w s (fun i=>id≤i∧i<q.2.2) q.2.1 lam M1∧(∀ v ∈ q.1, ∀ j ∈ ak S v, ∃ u ∈ q.2.1,u.1=j)∧ ∀ μ bx,Agree q.2.1 lam μ bx→aF P S w s μ bx q.1 us
 | [],M,id,r,vs,κ,p,h,hl=>⟨_,fun _ _=>False,M,[],vs,hl,rfl,⟨fun b o=>by simp,fun _ _ h=>h.elim⟩,h,Nat.le_refl _,Nat.le_refl _,fun _=>⟨0,0,0,0,true⟩,bO.nil (fun _ _ h=>h) _,by simp,fun _ _ _=>rfl⟩
 | k::rs,M,id,r,vs,κ,p,⟨M1,M2,v,vr,hM,hvs,h1,h2⟩,hl=>by
  have e1:(gw S (k::rs) os r).1=Ks.cons (Ks.head r) (gw S rs os (Ks.tail r)).1:=rfl
  have e2:(gw S (k::rs) os r).2=(gw S rs os (Ks.tail r)).2:=rfl
  rw [e1] at hl
  simp only [tW] at hl
  rw [show Ks.head (Ks.cons (Ks.head r) (gw S rs os (Ks.tail r)).1)=Ks.head (t:=k) (ts:=rs++os) r from by cases rs <;> rfl,
   show Ks.tail (Ks.cons (Ks.head r) (gw S rs os (Ks.tail r)).1)=(gw S rs os (Ks.tail r)).1 from by cases rs <;> rfl] at hl
  obtain ⟨q1,bQ,a1,a2,l1,g1,r1,j_⟩:=Ky (P:=P) hS id h1 hl
  obtain ⟨q2,N1,N2,us,ws,qa,b1,b2,b3,b4,b5,l2,g2,r2,ke⟩:=CY hS rs q1.2.2 h2 bQ
  have hsp:fJ (fun b o=>M1 b o∨N1 b o) M1 N1:=⟨fun _ _=>Iff.rfl,fun b o x y=>hM.2 b o x (b2.left y)⟩
  obtain ⟨g,hag⟩:=bO.both g1 g2 (fun i hi hi'=>by omega) hsp
  refine ⟨_,fun b o=>M1 b o∨N1 b o,N2,v::us,ws,qa,by rw [hvs,b1]; rfl,⟨fun b o=> ?_,fun b o x y=> ?_⟩,by rw [e2]; exact b3,Nat.le_trans a1 b4, ?_,_,g.weaken (fun i hi=> ?_),fun v' fy j hj=> ?_,fun μ bx ha=> ?_⟩
  · rw [hM.1,b2.1,or_assoc]
  · rcases x with x | x
    · exact hM.2 b o x (b2.right y)
    · exact b2.2 b o x y
  · show q2.2.2≤id+(jX k+fB rs)
    omega
  · show id≤i∧i<q2.2.2
    omega
  · rcases List.mem_cons.1 fy with rfl | fy
    · obtain ⟨u,hu,he⟩:=r1 j hj; exact ⟨u,List.mem_append.2 (.inl hu),he⟩
    · obtain ⟨u,hu,he⟩:=r2 v' fy j hj; exact ⟨u,List.mem_append.2 (.inr hu),he⟩
  · obtain ⟨h3,h4⟩:=hag μ bx ha
    exact ⟨v,us,rfl,j_ μ bx h3,ke μ bx h4⟩
end
end Go.Sy
namespace Go.Sy
section
variable {P:Program} {S:aN} {af:Nat→Nat}
def dH:List K→List Value→List Value
 | [],_=> []
 | _::_,[]=> []
 | k::ks,v::vs=>match k with
  | .obj _ | .aU | .bD _ _=>v::dH ks vs
  | .val _ | .opt _ | .nil | .ro _ | .fn _ _ | .bV _ | .err=>dH ks vs
def FB (S:aN) (μ:Nat→Loc) (w:World) (s:St) (t:Ty) (cs:List CK) (V:Sy.V S.C) (v:Value):Prop:=
 ∃ b c kb q,V= .split b c∧v= .pointer (some ⟨kb,q,none⟩)∧(μ b).b=kb∧(μ b).o=q+1∧(μ b).n=CK.bT S cs∧(μ c).n=CK.bT S [.data t]∧s kb q∧w.cell? ⟨kb,q,none⟩=some (.pointer (some ⟨(μ c).b,(μ c).o,none⟩))
def lJ (S:aN) (μ:Nat→Loc) (w:World) (s:St):List K→List (Sy.V S.C)→List Value→Prop
 | [],_,_=>True
 | k::ks,V::Vs,v::vs=>(∀ t cs,k= .bD t cs→FB S μ w s t cs V v)∧(∀ cs,k= .obj cs→ ∃ b,V= .ptr b 0∧v= .pointer (some ⟨(μ b).b,(μ b).o,none⟩)∧(μ b).n=CK.bT S cs)∧(k= .aU→ ∃ b,V= .ptr b 0∧v= .pointer (some ⟨(μ b).b,(μ b).o,none⟩)∧(μ b).o=0∧(μ b).n=2)∧lJ S μ w s ks Vs vs
 | _::_,_,_=>False
theorem lJ.later {μ:Nat→Loc} {w w':World} {s:St} (h: ∀ b o,s b o→w'.cell? ⟨b,o,none⟩=w.cell? ⟨b,o,none⟩): ∀ {ks:List K} {Vs:List (Sy.V S.C)} {vs:List Value},lJ S μ w s ks Vs vs→lJ S μ w' s ks Vs vs
 | [],_,_,_=>trivial
 | _::_,[],_,h1=>h1.elim
 | _::_,_::_,[],h1=>h1.elim
 | k::ks,V::Vs,v::vs,⟨h0,h1,h2,h3⟩=>⟨fun t cs e=>by
  obtain ⟨b,c,kb,q,e1,e2,e3,e4,e5,e6,e7,e8⟩:=h0 t cs e
  exact ⟨b,c,kb,q,e1,e2,e3,e4,e5,e6,e7,(h kb q e7).trans e8⟩,h1,h2,lJ.later h h3⟩
theorem tw {bx:Bx S.C} {b:Nat} {B:cP S.C} (h:l7 S B) (hb:bx b=some B):live S bx b:=by
 unfold live
 rw [hb]
 cases B <;> first | exact h.elim | trivial
theorem qH {cs:List CK} {ks:List K} {b off:Nat} {Vs:List (Sy.V S.C)} :cI S (.obj cs::ks) (.ptr b off::Vs)=b::cI S ks Vs:=rfl
theorem C5 {k:K} {ks:List K} {V:Sy.V S.C} {Vs:List (Sy.V S.C)} (h: ∀ cs,k≠ .obj cs) (h':k≠ .aU) (h'': ∀ t cs,k≠ .bD t cs):cI S (k::ks) (V::Vs)=cI S ks Vs:=by
 cases k <;> first | rfl | exact absurd rfl (h _) | exact absurd rfl h' | exact absurd rfl (h'' _ _)
theorem KV {k:K} {ks:List K} {v:Value} {vs:List Value} (h: ∀ cs,k≠ .obj cs) (h':k≠ .aU) (h'': ∀ t cs,k≠ .bD t cs):dH (k::ks) (v::vs)=dH ks vs:=by
 cases k <;> first | rfl | exact absurd rfl (h _) | exact absurd rfl h' | exact absurd rfl (h'' _ _)
theorem iI (hS:cm S) {w:World} {s so:St} {μ:Nat→Loc} : ∀ (ps:List K) {M:St} (id:Nat) {Vs:List (Sy.V S.C)} {args:List Value} {x:Ks S.C (outs ps)},lJ S μ w so ps Vs args→(cI S ps Vs).Nodup→
 (∀ b ∈ cI S ps Vs, ∀ i,id≤i→i<id+fB (outs ps)→i≠b)→bL P S w s M (outs ps) x (dH ps args)→
 ∃ lam,bO P S w s (fun i=>i ∈ cI S ps Vs∨(id≤i∧i<id+fB (outs ps))) (dL S id ps Vs x) lam M∧ ∀ b ∈ cI S ps Vs,lam b=μ b∧ ∃ B,l7 S B∧(b,B) ∈ dL S id ps Vs x
 | [],M,id,Vs,args,x,_,_,_,h=>⟨fun _=>⟨0,0,0,0,true⟩,by
  have :dL S id [] Vs x= []:=rfl
  rw [this]; exact bO.nil h.1 _,by intro b hb; cases Vs <;> simp [cI] at hb⟩
 | k::ks,M,id,[],_,x,h,_,_,_=>h.elim
 | k::ks,M,id,V::Vs,[],x,h,_,_,_=>h.elim
 | k::ks,M,id,V::Vs,v::args,x,⟨HT,h0,h0',h1⟩,hnd,hid,h=>by
  by_cases hk: ∃ cs,k= .obj cs
  · obtain ⟨cs,rfl⟩:=hk
    obtain ⟨b,rfl,rfl,hn⟩:=h0 cs rfl
    rw [qH] at hnd hid
    obtain ⟨M1,M2,v',r,hM,hvs,r1,r2⟩:=h
    cases hvs
    obtain ⟨hb,qd⟩:=List.nodup_cons.1 hnd
    have hsum:fB (outs (.obj cs::ks))=1+cs.foldl oneMore 0+fB (outs ks):=rfl
    have hmk:=l5 cs id (Ks.head (t:= .obj cs) x) 0
    rw [hsum] at hid
    obtain ⟨l1,e1,qy,g1⟩:=ym (P:=P) hS b id (cs:=cs) (x:=Ks.head (t:= .obj cs) x) (fun i hi hi'=>hid b (by simp) i hi (by omega)) (μ b) rfl hn r1
    obtain ⟨l2,g2,p2⟩:=iI hS ks (a_ S id cs (Ks.head (t:= .obj cs) x)).2.2 (x:=Ks.tail (t:= .obj cs) x) h1 qd (fun b' hb' i hi hi'=>hid b' (by simp [hb']) i (by omega) (by omega)) r2
    obtain ⟨g,hag⟩:=bO.both g1 g2 (fun i hi hi'=>by
     rcases hi with rfl | hi
     · rcases hi' with hi' | hi'
       · exact hb hi'
       · exact hid i (by simp) i (by omega) (by omega) rfl
     · rcases hi' with hi' | hi'
       · exact hid i (by simp [hi']) i (by omega) (by omega) rfl
       · omega) hM
    have hput:dL S id (.obj cs::ks) (.ptr b 0::Vs) x=((b, .cells (a_ S id cs (Ks.head (t:= .obj cs) x)).1)::(a_ S id cs (Ks.head (t:= .obj cs) x)).2.1)++dL S (a_ S id cs (Ks.head (t:= .obj cs) x)).2.2 ks Vs (Ks.tail (t:= .obj cs) x):=rfl
    rw [hput]
    refine ⟨_,g.weaken fun i hi=> ?_,fun b' hb'=> ?_⟩
    · rw [qH,hsum]
      rcases hi with (rfl | hi) | (hi | hi)
      · exact .inl (by simp)
      · exact .inr (by omega)
      · exact .inl (by simp [hi])
      · exact .inr (by omega)
    · rw [qH] at hb'
      rcases List.mem_cons.1 hb' with rfl | hb'
      · refine ⟨?_,_,(by exact trivial),List.mem_append.2 (.inl List.mem_cons_self)⟩
        unfold both
        rw [if_pos (List.mem_map.2 ⟨_,List.mem_cons_self,rfl⟩)]
        exact e1
      · obtain ⟨p3,vs,p0,p4⟩:=p2 b' hb'
        refine ⟨?_,vs,p0,List.mem_append.2 (.inr p4)⟩
        unfold both
        rw [if_neg]
        · exact p3
        · intro hm
          obtain ⟨u,hu,he⟩:=List.mem_map.1 hm
          rcases g1.dU u hu with h | h
          · rw [he] at h; exact hb (h▸hb')
          · rw [he] at h; exact hid b' (by simp [hb']) b' (by omega) (by omega) rfl
  · have hk: ∀ cs,k≠ .obj cs:=fun cs e=>hk ⟨cs,e⟩
    by_cases hkb:k= .aU
    · subst hkb
      obtain ⟨b,rfl,rfl,hn0,hn⟩:=h0' rfl
      have hov:cI S (.aU::ks) (.ptr b 0::Vs)=b::cI S ks Vs:=rfl
      rw [hov] at hnd hid
      obtain ⟨M1,M2,v',r,hM,hvs,r1,r2⟩:=h
      cases hvs
      obtain ⟨hb,qd⟩:=List.nodup_cons.1 hnd
      have hsum:fB (outs (.aU::ks))=2+fB (outs ks):=rfl
      rw [hsum] at hid
      obtain ⟨l1,e1,g1⟩:=vP (P:=P) (s:=s) b id (fun e=>hid b (by simp) id (Nat.le_refl _) (by omega) e) (μ b) hn0 hn (x:=Ks.head (t:= .aU) x) rfl r1
      obtain ⟨l2,g2,p2⟩:=iI hS ks (id+1) (x:=Ks.tail (t:= .aU) x) h1 qd (fun b' hb' i hi hi'=>hid b' (by simp [hb']) i (by omega) (by omega)) r2
      obtain ⟨g,hag⟩:=bO.both g1 g2 (fun i hi hi'=>by
       rcases hi with rfl | rfl
       · rcases hi' with hi' | hi'
         · exact hb hi'
         · exact hid i (by simp) i (by omega) (by omega) rfl
       · rcases hi' with hi' | hi'
         · exact hid i (by simp [hi']) i (by omega) (by omega) rfl
         · omega) hM
      have hput:dL S id (.aU::ks) (.ptr b 0::Vs) x= [(b, .aU id),(id, .buf (Ks.head (t:= .aU) x))]++dL S (id+1) ks Vs (Ks.tail (t:= .aU) x):=rfl
      rw [hput]
      refine ⟨_,g.weaken fun i hi=> ?_,fun b' hb'=> ?_⟩
      · rw [hov,hsum]
        rcases hi with (rfl | rfl) | (hi | hi)
        · exact .inl (by simp)
        · exact .inr (by omega)
        · exact .inl (by simp [hi])
        · exact .inr (by omega)
      · rw [hov] at hb'
        rcases List.mem_cons.1 hb' with rfl | hb'
        · refine ⟨?_,_,(by exact trivial),List.mem_append.2 (.inl List.mem_cons_self)⟩
          unfold both
          rw [if_pos (List.mem_map.2 ⟨_,List.mem_cons_self,rfl⟩)]
          exact e1
        · obtain ⟨p3,vs,p0,p4⟩:=p2 b' hb'
          refine ⟨?_,vs,p0,List.mem_append.2 (.inr p4)⟩
          unfold both
          rw [if_neg]
          · exact p3
          · intro hm
            obtain ⟨u,hu,he⟩:=List.mem_map.1 hm
            rcases g1.dU u hu with h | h
            · rw [he] at h; exact hb (h▸hb')
            · rw [he] at h; exact hid b' (by simp [hb']) b' (by omega) (by omega) rfl
    by_cases gI: ∃ t cs,k= .bD t cs
    · obtain ⟨t,cs,rfl⟩:=gI
      obtain ⟨b,c,kb,q,rfl,rfl,eg,xh,Ii,Iq,_,hcell⟩:=HT t cs rfl
      have hov:cI S (.bD t cs::ks) (.split b c::Vs)=c::b::cI S ks Vs:=rfl
      rw [hov] at hnd hid
      obtain ⟨M1,M2,v',r,hM,hvs,r1,r2⟩:=h
      cases hvs
      obtain ⟨b0,o0,p,Ma,Mb,q1,q2,q3,q4,q5⟩:=r1
      cases q1
      have hp:Value.pointer (some p)= .pointer (some ⟨(μ c).b,(μ c).o,none⟩):=by
       have :=(q2 0 _ rfl).1
       rw [Nat.add_zero,hcell] at this
       exact (Option.some.inj this).symm
      obtain ⟨tq,qd⟩:=List.nodup_cons.1 hnd
      obtain ⟨BT,I8⟩:=List.nodup_cons.1 qd
      have hsum:fB (outs (.bD t cs::ks))=2+cs.foldl oneMore 0+fB (outs ks):=rfl
      have hmk:=l5 cs id (Ks.head (t:= .bD t cs) x).2 0
      rw [hsum] at hid
      obtain ⟨l0,e0,Pj,g0⟩:=ym (P:=P) hS c id (cs:= [.data t]) (x:=(Ks.head (t:= .bD t cs) x).1) (fun i hi hi'=>hid c (by simp) i hi (by have :i<id:=hi'; omega)) (μ c) hp Iq q4
      obtain ⟨l1,e1,qy,g1⟩:=ym (P:=P) hS b id (cs:=cs) (x:=(Ks.head (t:= .bD t cs) x).2) (fun i hi hi'=>hid b (by simp) i hi (by omega)) (μ b) (by rw [eg,xh]) Ii q5
      obtain ⟨l2,g2,p2⟩:=iI hS ks (a_ S id cs (Ks.head (t:= .bD t cs) x).2).2.2 (x:=Ks.tail (t:= .bD t cs) x) h1 I8 (fun b' hb' i hi hi'=>hid b' (by simp [hb']) i (by omega) (by omega)) r2
      obtain ⟨BI,O6⟩:=bO.both g0 g1 (fun i hi hi'=>by
       have hi:i=c:=hi.elim (fun e=>e) fun h=>by
        have h1:id≤i:=h.1
        have h2:i<id:=h.2
        omega
       subst hi
       rcases hi' with hi' | hi'
       · subst hi'; exact tq (by simp)
       · exact hid i (by simp) i (by omega) (by omega) rfl) q3
      obtain ⟨g,hag⟩:=bO.both BI g2 (fun i hi hi'=>by
       rcases hi with (rfl | hi) | (rfl | hi)
       · rcases hi' with hi' | hi'
         · exact tq (by simp [hi'])
         · exact hid i (by simp) i (by omega) (by omega) rfl
       · have h1:id≤i:=hi.1
         have h2:i<id:=hi.2
         omega
       · rcases hi' with hi' | hi'
         · exact BT hi'
         · exact hid i (by simp) i (by omega) (by omega) rfl
       · rcases hi' with hi' | hi'
         · exact hid i (by simp [hi']) i (by omega) (by omega) rfl
         · omega) hM
      have hput:dL S id (.bD t cs::ks) (.split b c::Vs) x=(((c, .cells (a_ S id [.data t] (Ks.head (t:= .bD t cs) x).1).1)::(a_ S id [.data t] (Ks.head (t:= .bD t cs) x).1).2.1)++((b, .cells (a_ S id cs (Ks.head (t:= .bD t cs) x).2).1)::(a_ S id cs (Ks.head (t:= .bD t cs) x).2).2.1))++dL S (a_ S id cs (Ks.head (t:= .bD t cs) x).2).2.2 ks Vs (Ks.tail (t:= .bD t cs) x):=rfl
      rw [hput]
      refine ⟨_,g.weaken fun i hi=> ?_,fun b' hb'=> ?_⟩
      · rw [hov,hsum]
        rcases hi with ((rfl | hi) | (rfl | hi)) | (hi | hi)
        · exact .inl (by simp)
        · have h1:id≤i:=hi.1
          have h2:i<id:=hi.2
          omega
        · exact .inl (by simp)
        · exact .inr (by omega)
        · exact .inl (by simp [hi])
        · exact .inr (by omega)
      · rw [hov] at hb'
        have O_: ∀ (cK jE:aG S.C) (la lb:Nat→Loc) (i:Nat) (B:cP S.C),(i,B) ∈ cK→both cK la lb i=la i:=fun cK jE la lb i B hi=>if_pos (List.mem_map.2 ⟨_,hi,rfl⟩)
        rcases List.mem_cons.1 hb' with rfl | hb'
        · refine ⟨?_,_,(by exact trivial),List.mem_append.2 (.inl (List.mem_append.2 (.inl List.mem_cons_self)))⟩
          unfold both
          rw [if_pos (List.mem_map.2 ⟨_,List.mem_append.2 (.inl List.mem_cons_self),rfl⟩),if_pos (List.mem_map.2 ⟨_,List.mem_cons_self,rfl⟩)]
          exact e0
        · rcases List.mem_cons.1 hb' with rfl | hb'
          · refine ⟨?_,_,(by exact trivial),List.mem_append.2 (.inl (List.mem_append.2 (.inr List.mem_cons_self)))⟩
            unfold both
            rw [if_pos (List.mem_map.2 ⟨_,List.mem_append.2 (.inr List.mem_cons_self),rfl⟩),if_neg]
            · exact e1
            · intro hm
              obtain ⟨u,hu,he⟩:=List.mem_map.1 hm
              rcases g0.dU u hu with h | h
              · rw [he] at h; exact tq (by rw [← h]; simp)
              · rw [he] at h
                have h1:id≤b':=h.1
                have h2:b'<id:=h.2
                omega
          · obtain ⟨p3,vs,p0,p4⟩:=p2 b' hb'
            refine ⟨?_,vs,p0,List.mem_append.2 (.inr p4)⟩
            unfold both
            rw [if_neg]
            · exact p3
            · intro hm
              obtain ⟨u,hu,he⟩:=List.mem_map.1 hm
              rcases BI.dU u hu with (h | h) | (h | h)
              · rw [he] at h; exact tq (by rw [← h]; simp [hb'])
              · rw [he] at h
                have h1:id≤b':=h.1
                have h2:b'<id:=h.2
                omega
              · rw [he] at h; exact BT (h▸hb')
              · rw [he] at h; exact hid b' (by simp [hb']) b' (by omega) (by omega) rfl
    have gI: ∀ t cs,k≠ .bD t cs:=fun t cs e=>gI ⟨t,cs,e⟩
    rw [C5 hk hkb gI] at hnd hid ⊢
    rw [KV hk hkb gI] at h
    cases k with
    | aU=>exact absurd rfl hkb
    | obj cs=>exact absurd rfl (hk cs)
    | bD t cs=>exact absurd rfl (gI t cs)
    | val c=>exact iI hS ks id h1 hnd hid h
    | opt cs=>exact iI hS ks id h1 hnd hid h
    | nil=>exact iI hS ks id h1 hnd hid h
    | ro t=>exact iI hS ks id h1 hnd hid h
    | fn a r=>exact iI hS ks id h1 hnd hid h
    | bV cs=>exact iI hS ks id h1 hnd hid h
    | err=>exact iI hS ks id h1 hnd hid h
theorem C1 {bx:Bx S.C} {b:Nat} {ws vs:List (Sy.V S.C)} {cs:List CK} {y':bk S.C cs} {u':aG S.C} (hb:bx b=some (.cells ws)) (hy':cO S (ah bx b (some .dead)) cs vs=some (y',u'))
 (k1:Tk S bx (ai bx ((b, .dead)::u'))):ai bx ((b, .dead)::u') b=some .dead:=by
 have hpre:Tk S (ah bx b (some .dead)) (ai (ah bx b (some .dead)) u'):=by
  intro i
  by_cases e:i=b
  · -- from the whole step
    subst e
    rcases k1 i with e1 | ⟨e1,_⟩ | ⟨e',l',e1,e2⟩
    · -- unchanged: then it was cells, but the parts' taking leaves cells alone
      exfalso
      rw [hb] at e1
      have : ∀ (cs:List CK) (bx:Bx S.C) (vs:List (Sy.V S.C)) (x:bk S.C cs) (us:aG S.C),cO S bx cs vs=some (x,us)→ ∀ u ∈ us,u.2= .dead∨ ∃ e l,u.2= .bn e l:=by
       intro cs
       induction cs with
       | nil=>intro bx vs x us h; cases h; simp
       | cons c cs ih=>
        intro bx vs x us h
        simp only [cO] at h
        obtain ⟨⟨p,q⟩,h1,h⟩:=Option.bind_eq_some_iff.1 h
        obtain ⟨⟨p',q'⟩,h2,h⟩:=Option.bind_eq_some_iff.1 h
        cases h
        intro u hu
        rcases List.mem_append.1 hu with hu | hu
        · cases c with
          | data t=>
           simp only [cR] at h1
           obtain ⟨z,_,h1⟩:=Option.bind_eq_some_iff.1 h1
           cases h1
           obtain ⟨v,_,hv⟩:=List.mem_flatMap.1 hu
           obtain ⟨e,l,he,_⟩:=cl.b9 bx v u hv
           exact .inr ⟨e,l,he⟩
          | aT e=>
           simp only [cR] at h1
           split at h1
           · split at h1
             · obtain ⟨z,_,h1⟩:=Option.bind_eq_some_iff.1 h1
               cases h1
               simp at hu; subst hu; exact .inl rfl
             · cases h1
           · cases h1; simp at hu
           · cases h1
          | aH e=>
           simp only [cR] at h1
           split at h1
           · split at h1
             · obtain ⟨z,_,h1⟩:=Option.bind_eq_some_iff.1 h1
               cases h1
               simp at hu; subst hu; exact .inl rfl
             · cases h1
           · split at h1
             · obtain ⟨z,_,h1⟩:=Option.bind_eq_some_iff.1 h1
               cases h1
               simp at hu; subst hu; exact .inl rfl
             · cases h1
           · cases h1; simp at hu
           · cases h1
        · exact ih _ _ _ _ h2 u hu
      have aJ:=this _ _ _ _ _ hy'
      have : ∀ (us:aG S.C) (bx:Bx S.C),(∀ u ∈ us,u.2= .dead∨ ∃ e l,u.2= .bn e l)→(∀ ws,bx i≠some (.cells ws))→ ∀ ws,ai bx us i≠some (.cells ws):=by
       intro us
       induction us with
       | nil=>intro bx _ h; exact h
       | cons u us ih=>
        intro bx hu h
        refine ih _ (fun u' aJ=>hu u' (by simp [aJ])) fun ws=> ?_
        by_cases e:i=u.1
        · rw [e,aL]
          rcases hu u (by simp) with h | ⟨_,_,h⟩ <;> rw [h] <;> simp
        · rw [aX _ _ e]; exact h ws
      exact this u' (ah bx i (some .dead)) aJ (by intro ws; rw [aL]; simp) _ e1
    · exact .inl (e1.trans (aL _ _ _).symm)
    · rw [hb] at e1; cases e1
  · rcases k1 i with e1 | ⟨e1,h2⟩ | ⟨e',l',e1,e2⟩
    · exact .inl (e1.trans (aX _ _ e).symm)
    · exact .inr (.inl ⟨e1,(di S (aX _ _ e)).2 h2⟩)
    · exact .inr (.inr ⟨e',l',(aX _ _ e).trans e1,e2⟩)
 exact kI hpre (aL _ _ _)
theorem NH {fs:List (eE S)} {bx:Bx S.C} {cs:List CK} {b:Nat} :bP S fs bx (.obj cs) (.ptr b 0)=eu S bx cs b:=by
 simp only [bP,eu]
 cases hb:bx b with
 | none=>rfl
 | some B=>cases B <;> rfl
theorem Ez {bx:Bx S.C} {cs:List CK} {b:Nat} {y:bk S.C cs} {us:aG S.C} (h:eu S bx cs b=some (y,us)) (hk:Tk S bx (ai bx us)):
 (∃ ws,bx b=some (.cells ws)∧ws.length=CK.bT S cs)∧ai bx us b=some .dead:=by
 unfold eu at h
 split at h
 · rename_i ws hb
   cases hw:Nat.beq ws.length (CK.bT S cs) with
   | false=>rw [hw] at h; cases h
   | true=>
    rw [hw,cond_true] at h
    obtain ⟨⟨y',u'⟩,hy',h⟩:=Option.bind_eq_some_iff.1 h
    cases h
    exact ⟨⟨ws,hb,Nat.eq_of_beq_eq_true hw⟩,C1 hb hy' hk⟩
 · cases h
theorem Ew {env:Env S.C} {w:World} {s s':St} {μ:Nat→Loc} {fs:List (eE S)} (hn: ∀ i B,env.bx i=some B→RB P S w s μ env.bx (μ i) B):
 ∀ (ks:List K) {bx:Bx S.C} (hk:Tk S env.bx bx) (hks: ∀ (ks:List K) (bx:Bx S.C) (hk:Tk S env.bx bx) (Vs:List (Sy.V S.C)) (args:List Value) (x:Ks S.C ks) (us:aG S.C),dO P S w s' μ env.bx Vs args→cX S fs bx ks Vs=some (x,us)→Tk S bx (ai bx us))
  {Vs:List (Sy.V S.C)} {args:List Value} {x:Ks S.C ks} {us:aG S.C},dO P S w s' μ env.bx Vs args→cX S fs bx ks Vs=some (x,us)→
 lJ S μ w s' ks Vs args∧(cI S ks Vs).Nodup∧ ∀ b ∈ cI S ks Vs,(∃ B,l7 S B∧bx b=some B)∧ai bx us b=some .dead
 | [],bx,hk,hks,[],args,x,us,h,hx=>⟨trivial,by simp [cI],by simp [cI]⟩
 | [],_,_,_,_::_,_,_,_,_,hx=>by cases hx
 | _::_,_,_,_,[],_,_,_,_,hx=>by cases hx
 | k::ks,bx,hk,hks,V::Vs,args,x,us,⟨v,r,hargs,h1,h2⟩,hx=>by
  subst hargs
  simp only [cX] at hx
  obtain ⟨⟨y,u1⟩,hy,hx⟩:=Option.bind_eq_some_iff.1 hx
  obtain ⟨⟨z,u2⟩,hz,hx⟩:=Option.bind_eq_some_iff.1 hx
  cases hx
  have hone:cX S fs bx [k] [V]=some (Ks.cons (t:=k) (ts:= []) y (),u1++ []):=by
   simp only [cX]
   rw [hy]; rfl
  have k1:=hks [k] bx hk [V] [v] _ _ ⟨v,[],rfl,h1,rfl⟩ hone
  rw [List.append_nil] at k1
  have k2:=hks ks _ (hk.trans S k1) Vs r _ _ h2 hz
  obtain ⟨o1,o2,o3⟩:=Ew hn ks (hk.trans S k1) hks h2 hz
  by_cases qe: ∃ cs,k= .obj cs
  · obtain ⟨cs,rfl⟩:=qe
    simp only [bP] at hy
    split at hy
    · rename_i b off
      split at hy
      · rename_i ws hb
        cases hw:Nat.beq off 0&&Nat.beq ws.length (CK.bT S cs) with
        | false=>rw [hw] at hy; cases hy
        | true=>
         rw [hw,cond_true] at hy
         rw [Bool.and_eq_true] at hw
         have w1:=Nat.eq_of_beq_eq_true hw.1
         have w2:=Nat.eq_of_beq_eq_true hw.2
         subst w1
         obtain ⟨⟨y',u'⟩,hy',hy⟩:=Option.bind_eq_some_iff.1 hy
         cases hy
         have hlb:live S bx b:=by unfold live; rw [hb]; trivial
         have hb0:env.bx b=some (.cells ws):=(hk.cQ hlb).symm.trans hb
         have hrb:=hn b _ hb0
         have gH:ai bx ((b, .dead)::u') b=some .dead:=C1 hb hy' k1
         have hv:v= .pointer (some ⟨(μ b).b,(μ b).o+0,none⟩):=h1
         refine ⟨⟨(fun t' cs' e=>nomatch e),fun cs' e=> ?_,(fun e=>nomatch e),o1⟩, ?_, ?_⟩
         · cases e
           exact ⟨b,rfl,hv,by rw [hrb.2.1,w2]⟩
         · rw [qH]
           refine List.nodup_cons.2 ⟨fun hm=> ?_,o2⟩
           obtain ⟨jG,hh,hw'⟩:=(o3 b hm).1
           rw [gH] at hw'
           cases hw'
           exact hh
         · rw [qH,fG]
           intro b' hb'
           rcases List.mem_cons.1 hb' with rfl | hb'
           · exact ⟨⟨_,(by exact trivial),hb⟩,kI k2 gH⟩
           · obtain ⟨⟨jG,hh,hw'⟩,h'⟩:=o3 b' hb'
             have hl':live S (ai bx ((b, .dead)::u')) b':=tw hh hw'
             exact ⟨⟨jG,hh,by rw [← k1.cQ hl']; exact hw'⟩,h'⟩
      · cases hy
    · cases hy
  · have qe: ∀ cs,k≠ .obj cs:=fun cs e=>qe ⟨cs,e⟩
    by_cases hkb:k= .aU
    · subst hkb
      simp only [bP] at hy
      split at hy
      · split at hy
        · split at hy
          · rename_i b off _ j hb _ l hj
            cases hw:Nat.beq off 0 with
            | false=>rw [hw] at hy; cases hy
            | true=>
             rw [hw] at hy
             cases hy
             have ho:=Nat.eq_of_beq_eq_true hw
             subst ho
             have hne:j≠b:=fun e=>by subst e; rw [hb] at hj; cases hj
             have hlb:live S bx b:=by unfold live; rw [hb]; trivial
             have hb0:env.bx b=some (.aU j):=(hk.cQ hlb).symm.trans hb
             have hrb:=hn b _ hb0
             have gH:ai bx [(b, .dead),(j, .dead)] b=some .dead:=(aX _ _ hne.symm).trans (aL _ _ _)
             have hv:v= .pointer (some ⟨(μ b).b,(μ b).o+0,none⟩):=h1
             have hov:cI S (.aU::ks) (.ptr b 0::Vs)=b::cI S ks Vs:=rfl
             refine ⟨⟨(fun t' cs' e=>nomatch e),(fun cs' e=>nomatch e),fun _=>⟨b,rfl,hv,hrb.1,hrb.2.1⟩,o1⟩, ?_, ?_⟩
             · rw [hov]
               refine List.nodup_cons.2 ⟨fun hm=> ?_,o2⟩
               obtain ⟨jG,hh,hw'⟩:=(o3 b hm).1
               rw [gH] at hw'
               cases hw'
               exact hh
             · rw [hov,fG]
               intro b' hb'
               rcases List.mem_cons.1 hb' with rfl | hb'
               · exact ⟨⟨_,(by exact trivial),hb⟩,kI k2 gH⟩
               · obtain ⟨⟨jG,hh,hw'⟩,h'⟩:=o3 b' hb'
                 have hl':live S (ai bx [(b, .dead),(j, .dead)]) b':=tw hh hw'
                 exact ⟨⟨jG,hh,by rw [← k1.cQ hl']; exact hw'⟩,h'⟩
          · cases hy
        · cases hy
      · cases hy
    by_cases gI: ∃ t cs,k= .bD t cs
    · obtain ⟨t,cs,rfl⟩:=gI
      simp only [bP] at hy
      split at hy
      · rename_i b c
        obtain ⟨⟨ya,ua⟩,xM,hy⟩:=Option.bind_eq_some_iff.1 hy
        obtain ⟨⟨yb,ub⟩,xN,hy⟩:=Option.bind_eq_some_iff.1 hy
        cases hy
        dsimp only at xM xN
        have Cn: ∀ (bx:Bx S.C) (cs:List CK) (i:Nat) (y:bk S.C cs) (u:aG S.C),Tk S env.bx bx→eu S bx cs i=some (y,u)→Tk S bx (ai bx u):=fun bx cs i y u IN h0=>by
         have :=hks [.obj cs] bx IN [.ptr i 0] [.pointer (some ⟨(μ i).b,(μ i).o+0,none⟩)] (Ks.cons (t:= .obj cs) (ts:= []) y ()) (u++ []) ⟨_,_,rfl,rfl,rfl⟩ (by
          simp only [cX]
          rw [NH,h0]; rfl)
         rwa [List.append_nil] at this
        have ka:=Cn bx _ _ _ _ hk xM
        have kb':=Cn _ _ _ _ _ (hk.trans S ka) xN
        obtain ⟨⟨wa,hca,hla⟩,hda⟩:=Ez xM ka
        obtain ⟨⟨wb,hcb,hlb⟩,hdb⟩:=Ez xN kb'
        have IY:live S (ai bx ua) b:=by unfold live; rw [hcb]; trivial
        have xl:bx b=some (.cells wb):=(ka.cQ IY).symm.trans hcb
        have I0:live S bx c:=by unfold live; rw [hca]; trivial
        have IZ:live S bx b:=by unfold live; rw [xl]; trivial
        have hne:c≠b:=fun e=>by subst e; rw [hda] at hcb; cases hcb
        have hc0:env.bx c=some (.cells wa):=(hk.cQ I0).symm.trans hca
        have hb0:env.bx b=some (.cells wb):=(hk.cQ IZ).symm.trans xl
        obtain ⟨kb,q,e1,e2,e3,e4⟩:=h1
        have cz:=e2 0 _ rfl
        rw [Nat.add_zero] at cz
        have hov:cI S (.bD t cs::ks) (.split b c::Vs)=c::b::cI S ks Vs:=rfl
        have B3:ai bx (ua++ub) c=some .dead:=by rw [fG]; exact kI kb' hda
        have BZ:ai bx (ua++ub) b=some .dead:=by rw [fG]; exact hdb
        have hout: ∀ i ∈ cI S ks Vs,ai bx (ua++ub) i≠some .dead:=fun i hi he=>by
         obtain ⟨jG,hh,hw'⟩:=(o3 i hi).1
         rw [he] at hw'
         cases hw'
         exact hh
        refine ⟨⟨fun t' cs' e=> ?_,(fun cs' e=>nomatch e),(fun e=>nomatch e),o1⟩, ?_, ?_⟩
        · cases e
          exact ⟨b,c,kb,q,rfl,e1,e3,e4,by rw [(hn b _ hb0).2.1,hlb],by rw [(hn c _ hc0).2.1,hla],cz.2,cz.1⟩
        · rw [hov]
          refine List.nodup_cons.2 ⟨fun hm=> ?_,List.nodup_cons.2 ⟨fun hm=>hout b hm BZ,o2⟩⟩
          rcases List.mem_cons.1 hm with e | hm
          · exact hne e
          · exact hout c hm B3
        · rw [hov,fG]
          intro b' hb'
          rcases List.mem_cons.1 hb' with rfl | hb'
          · exact ⟨⟨_,(by exact trivial),hca⟩,kI k2 B3⟩
          · rcases List.mem_cons.1 hb' with rfl | hb'
            · exact ⟨⟨_,(by exact trivial),xl⟩,kI k2 BZ⟩
            · obtain ⟨⟨jG,hh,hw'⟩,h'⟩:=o3 b' hb'
              have hl':live S (ai bx (ua++ub)) b':=tw hh hw'
              exact ⟨⟨jG,hh,by rw [← k1.cQ hl']; exact hw'⟩,h'⟩
      · cases hy
    have gI: ∀ t cs,k≠ .bD t cs:=fun t cs e=>gI ⟨t,cs,e⟩
    rw [C5 qe hkb gI,fG]
    refine ⟨⟨fun t cs e=>absurd e (gI t cs),fun cs e=>absurd e (qe cs),fun e=>absurd e hkb,o1⟩,o2,fun b' hb'=> ?_⟩
    obtain ⟨⟨jG,hh,hw'⟩,h'⟩:=o3 b' hb'
    have hl':live S (ai bx u1) b':=tw hh hw'
    exact ⟨⟨jG,hh,by rw [← k1.cQ hl']; exact hw'⟩,h'⟩
end
end Go.Sy
namespace Go.Sy
section
variable {P:Program} {S:aN} {af:Nat→Nat}
variable {w0:World} {M0 s0:St} {dq:List Deferred} {env:Env S.C} {a:Act} {w:World} {μ:Nat→Loc}
theorem bl.mono {w w':World} {s s':St} {μ:Nat→Loc} {bx:Bx S.C} (hl:bC w s w' s') {V:V S.C} {v:Value} (h:bl P S w s μ bx V v):bl P S w' s' μ bx V v:=by
 cases V with
 | d t x=>exact bS.mono S hl h
 | aT b e l=>exact ⟨bS.mono S hl h.1,h.2⟩
 | cG t x=>exact iW.mono S hl h
 | fv a r g=>exact iU.mono P S hl h
 | split b c=>obtain ⟨k,q,h1,h2,h3⟩:=h; exact ⟨k,q,h1,h2.later hl,h3⟩
 | iJ c=>obtain ⟨k,q,h1,h2⟩:=h; exact ⟨k,q,h1,h2.later hl⟩
 | _=>exact h
theorem aF.mono {w w':World} {s s':St} {μ:Nat→Loc} {bx:Bx S.C} (hl:bC w s w' s'): ∀ {vs:List (V S.C)} {cs:List Value},aF P S w s μ bx vs cs→aF P S w' s' μ bx vs cs
 | [],_,h=>h
 | _::_,_,⟨c,r,h1,h2,h3⟩=>⟨c,r,h1,h2.mono hl,aF.mono hl h3⟩
theorem RB.mono {w:World} {s s':St} {μ:Nat→Loc} {bx:Bx S.C} (hl:bC w s w s') {L:Loc} {B:cP S.C} (h:RB P S w s μ bx L B):RB P S w s' μ bx L B:=by
 cases B with
 | cells vs=>
  obtain ⟨h1,h2,h3,cs,h4,h5⟩:=h
  exact ⟨h1,h2,h3,cs,h4,h5.mono hl⟩
 | bw vs=>
  obtain ⟨h1,cs,h4,h5⟩:=h
  exact ⟨h1,cs,h4.later hl,h5.mono hl⟩
 | arr e l=>
  obtain ⟨h1,h2,h3,h4,h5⟩:=h
  refine ⟨h1,h2,h3,h4,fun i x hi=> ?_⟩
  obtain ⟨ds,d1,d2,n,d3⟩:=h5 i x hi
  exact ⟨ds,d1,d2,n,d3.mono S hl (Nat.le_refl _)⟩
 | bn e l=>
  obtain ⟨h2,h3,h5⟩:=h
  refine ⟨h2,h3,fun i x hi=> ?_⟩
  obtain ⟨ds,d1,d2,n,d3⟩:=h5 i x hi
  exact ⟨ds,d1,d2.later hl,n,d3.mono S hl (Nat.le_refl _)⟩
 | tail=>exact h
 | dead=>trivial
 | aU j=>exact h
 | buf l=>exact h
def DF (us:aG S.C):Prop:= ∀ u ∈ us,u.2= .dead∨ ∃ e l,u.2= .bn e l
theorem DF.append {us vs:aG S.C} (h:DF us) (h':DF vs):DF (us++vs):=fun u hu=>(List.mem_append.1 hu).elim (h u) (h' u)
theorem DF.fz {bx:Bx S.C} {us:aG S.C} (h:cl bx us):DF us:=fun u hu=>by obtain ⟨e,l,he,_⟩:=h u hu; exact .inr ⟨e,l,he⟩
theorem DF.cR {bx:Bx S.C} {c:CK} {vs:List (Sy.V S.C)} {x:c.den S.C} {us:aG S.C} (h1:cR S bx c vs=some (x,us)):DF us:=by
 intro u hu
 cases c with
 | data t=>
  simp only [Sy.cR] at h1
  obtain ⟨z,_,h1⟩:=Option.bind_eq_some_iff.1 h1
  cases h1
  obtain ⟨v,_,hv⟩:=List.mem_flatMap.1 hu
  obtain ⟨e,l,he,_⟩:=cl.b9 bx v u hv
  exact .inr ⟨e,l,he⟩
 | aT e=>
  simp only [Sy.cR] at h1
  split at h1
  · split at h1
    · obtain ⟨z,_,h1⟩:=Option.bind_eq_some_iff.1 h1
      cases h1
      simp at hu; subst hu; exact .inl rfl
    · cases h1
  · cases h1; simp at hu
  · cases h1
 | aH e=>
  simp only [Sy.cR] at h1
  split at h1
  · split at h1
    · obtain ⟨z,_,h1⟩:=Option.bind_eq_some_iff.1 h1
      cases h1
      simp at hu; subst hu; exact .inl rfl
    · cases h1
  · split at h1
    · obtain ⟨z,_,h1⟩:=Option.bind_eq_some_iff.1 h1
      cases h1
      simp at hu; subst hu; exact .inl rfl
    · cases h1
  · cases h1; simp at hu
  · cases h1
theorem DF.cO: ∀ {cs:List CK} {bx:Bx S.C} {vs:List (Sy.V S.C)} {x:bk S.C cs} {us:aG S.C},cO S bx cs vs=some (x,us)→DF us
 | [],_,_,_,_,h=>by cases h; intro u hu; simp at hu
 | c::cs,bx,vs,x,us,h=>by
  simp only [Sy.cO] at h
  obtain ⟨⟨p,q⟩,h1,h⟩:=Option.bind_eq_some_iff.1 h
  obtain ⟨⟨p',q'⟩,h2,h⟩:=Option.bind_eq_some_iff.1 h
  cases h
  exact (DF.cR h1).append (DF.cO h2)
theorem DF.eu {cs:List CK} {bx:Bx S.C} {b:Nat} {x:bk S.C cs} {us:aG S.C} (hx:eu S bx cs b=some (x,us)):DF us:=by
 unfold Sy.eu at hx
 split at hx
 · rename_i ws hb
   cases hw:Nat.beq ws.length (CK.bT S cs) with
   | false=>rw [hw] at hx; cases hx
   | true=>
    rw [hw,cond_true] at hx
    obtain ⟨⟨y,u'⟩,hy,hx⟩:=Option.bind_eq_some_iff.1 hx
    cases hx
    intro u hu
    rcases List.mem_cons.1 hu with rfl | hu
    · exact .inl rfl
    · exact DF.cO hy u hu
 · cases hx
theorem DF.bP {fs:List (eE S)} {bx:Bx S.C} {k:K} {V:Sy.V S.C} {x:k.den S.C} {us:aG S.C} (hx:bP S fs bx k V=some (x,us)):DF us:=by
 have obj: ∀ (b:Nat) (us':aG S.C),DF us'→DF ((b, .dead)::us'):=fun b us' h u hu=>by
  rcases List.mem_cons.1 hu with rfl | hu
  · exact .inl rfl
  · exact h u hu
 cases k with
 | val c=>
  cases c with
  | data t=>
   simp only [Sy.bP] at hx
   obtain ⟨y,hy,hx⟩:=Option.bind_eq_some_iff.1 hx
   cases hx
   exact DF.fz (cl.cy bx V)
  | aT e=>exact DF.cR (c:= .aT e) hx
  | aH e=>exact DF.cR (c:= .aH e) hx
 | obj ps=>
  simp only [Sy.bP] at hx
  split at hx
  · split at hx
    · rename_i b off _ ws hb
      cases hw:Nat.beq off 0&&Nat.beq ws.length (CK.bT S ps) with
      | false=>rw [hw] at hx; cases hx
      | true=>
       rw [hw,cond_true] at hx
       obtain ⟨⟨y,u'⟩,hy,hx⟩:=Option.bind_eq_some_iff.1 hx
       cases hx
       exact obj _ _ (DF.cO hy)
    · cases hx
  · cases hx
 | bD t ps=>
  simp only [Sy.bP] at hx
  split at hx
  · obtain ⟨⟨y,u1⟩,hy,hx⟩:=Option.bind_eq_some_iff.1 hx
    obtain ⟨⟨z,u2⟩,hz,hx⟩:=Option.bind_eq_some_iff.1 hx
    cases hx
    exact (DF.eu hy).append (DF.eu hz)
  · cases hx
 | opt ps=>
  simp only [Sy.bP] at hx
  split at hx
  · cases hx; intro u hu; simp at hu
  · split at hx
    · rename_i b off _ ws hb
      cases hw:Nat.beq off 0&&Nat.beq ws.length (CK.bT S ps) with
      | false=>rw [hw] at hx; cases hx
      | true=>
       rw [hw,cond_true] at hx
       obtain ⟨⟨y,u'⟩,hy,hx⟩:=Option.bind_eq_some_iff.1 hx
       cases hx
       exact obj _ _ (DF.cO hy)
    · cases hx
  · cases hx
 | bV ps=>
  simp only [Sy.bP] at hx
  split at hx
  · split at hx
    · rename_i b n _ ws hb
      cases hw:Nat.beq n ws.length&&Nat.beq ws.length (CK.bT S ps) with
      | false=>rw [hw] at hx; cases hx
      | true=>
       rw [hw,cond_true] at hx
       obtain ⟨⟨y,u'⟩,hy,hx⟩:=Option.bind_eq_some_iff.1 hx
       cases hx
       exact obj _ _ (DF.cO hy)
    · cases hx
  · cases hx
 | err=>
  simp only [Sy.bP] at hx
  split at hx
  · cases hx; intro u hu; simp at hu
  · cases hx
 | aU=>
  simp only [Sy.bP] at hx
  split at hx
  · split at hx
    · split at hx
      · rename_i b off _ j hb _ l hj
        cases hw:Nat.beq off 0 with
        | false=>rw [hw] at hx; cases hx
        | true=>
         rw [hw] at hx
         cases hx
         intro u hu
         simp only [List.mem_cons,List.not_mem_nil,or_false] at hu
         rcases hu with rfl | rfl <;> exact .inl rfl
      · cases hx
    · cases hx
  · cases hx
 | nil=>
  simp only [Sy.bP] at hx
  split at hx
  · cases hx; intro u hu; simp at hu
  · cases hx
 | ro t=>
  simp only [Sy.bP] at hx
  obtain ⟨y,hy,hx⟩:=Option.bind_eq_some_iff.1 hx
  cases hx; intro u hu; simp at hu
 | fn A R=>
  simp only [Sy.bP] at hx
  obtain ⟨y,hy,hx⟩:=Option.bind_eq_some_iff.1 hx
  cases hx; intro u hu; simp at hu
theorem DF.cX {fs:List (eE S)} : ∀ {ks:List K} {bx:Bx S.C} {Vs:List (Sy.V S.C)} {x:Ks S.C ks} {us:aG S.C},cX S fs bx ks Vs=some (x,us)→DF us
 | [],_,[],_,_,h=>by cases h; intro u hu; simp at hu
 | [],_,_::_,_,_,h=>by cases h
 | _::_,_,[],_,_,h=>by cases h
 | k::ks,bx,V::Vs,x,us,h=>by
  simp only [Sy.cX] at h
  obtain ⟨⟨p,q⟩,h1,h⟩:=Option.bind_eq_some_iff.1 h
  obtain ⟨⟨p',q'⟩,h2,h⟩:=Option.bind_eq_some_iff.1 h
  cases h
  exact (DF.bP h1).append (DF.cX h2)
theorem tO {i:Nat} : ∀ {us:aG S.C} {bx gB:Bx S.C} (dS:Bool),(bx i=some .dead→gB i=some .dead)→ai bx us i=some .dead→ai gB (gm S dS us) i=some .dead
 | [],bx,gB,dS,h,hu=>by
  have :gm S dS ([]:aG S.C)= []:=by cases dS <;> rfl
  rw [this]; exact h hu
 | u::us,bx,gB,true,h,hu=>tO (us:=us) (bx:=ah bx u.1 (some u.2)) (gB:=ah gB u.1 (some u.2)) true (fun hi=>by
  by_cases e:i=u.1
  · rw [e,aL] at hi ⊢; exact hi
  · rw [aX _ _ e] at hi ⊢; exact h hi) hu
 | (k,B)::us,bx,gB,false,h,hu=>by
  have keep:ai gB ((k,B)::gm S false us) i=some .dead:=tO (us:=us) (bx:=ah bx k (some B)) (gB:=ah gB k (some B)) false (fun hi=>by
   by_cases e:i=k
   · rw [e,aL] at hi ⊢; exact hi
   · rw [aX _ _ e] at hi ⊢; exact h hi) hu
  cases B with
  | bn e l=>
   refine tO (us:=us) (bx:=ah bx k (some (.bn e l))) (gB:=gB) false (fun hi=> ?_) hu
   by_cases e:i=k
   · rw [e,aL] at hi
     cases hi
   · rw [aX _ _ e] at hi; exact h hi
  | _=>exact keep
theorem EY {i:Nat} : ∀ {us:aG S.C} {bx:Bx S.C},(∀ u ∈ us,u.2= .dead)→ai bx us i=bx i∨ai bx us i=some .dead
 | [],_,_=> .inl rfl
 | u::us,bx,h=>by
  rcases EY (us:=us) (bx:=ah bx u.1 (some u.2)) (fun v hv=>h v (by simp [hv])) with h1 | h1
  · by_cases e:i=u.1
    · right; show ai (ah bx u.1 (some u.2)) us i=_
      rw [h1,e,aL,h u (by simp)]
    · left; show ai (ah bx u.1 (some u.2)) us i=_
      rw [h1,aX _ _ e]
  · exact .inr h1
theorem JH {us:aG S.C} (h:DF us) (dS:Bool) (bx:Bx S.C) (i:Nat):
 ai bx (gm S dS us) i=bx i∨ai bx (gm S dS us) i=some .dead∨(dS=true∧ai bx (gm S dS us) i=ai bx us i):=by
 cases dS with
 | true=>exact .inr (.inr ⟨rfl,rfl⟩)
 | false=>
  rcases EY (i:=i) (us:=gm S false us) (bx:=bx) (fun u hu=>by
   unfold gm at hu
   rw [cond_false,List.mem_filter] at hu
   rcases h u hu.1 with h1 | ⟨e,l,h1⟩
   · exact h1
   · rw [h1] at hu; exact absurd hu.2 (by simp)) with h1 | h1
  · exact .inl h1
  · exact .inr (.inl h1)
theorem Inv.call (h:Inv P S w0 M0 s0 dq env a w μ) {cK gs:aG S.C} {dS:Bool} {M M' s':St} {w':World} {lam:Nat→Loc} {I:Nat→Prop} {xm:List Nat}
 (hdf:DF cK) (hk:Tk S env.bx (ai env.bx cK)) (hM:bM S env μ env.bx (ai env.bx cK) M) (hw:aW w w' M)
 (hs': ∀ b o,s' b o→b<w'.heap.size∧ ¬ M' b o∧(bU S w0 M0 s0 env.bx (ai env.bx cK) μ w b o∨M b o∨w.heap.size≤b))
 (pY: ∀ b o,M' b o→M b o∨w.heap.size≤b) (hG:bO P S w' s' I gs lam M') (hI: ∀ i,I i→i ∈ xm∨env.bx i=none)
 (hh: ∀ b ∈ xm,(∃ B,l7 S B∧env.bx b=some B)∧lam b=μ b∧ ∃ B,l7 S B∧(b,B) ∈ gs) (hl:dS=true∨ ∀ b o, ¬ s' b o):
 ∃ μ',Inv P S w0 M0 s0 dq { env with bx:=ai env.bx (gm S dS cK++gs) } a w' μ'∧bC w' s' w' (aD S w0 M0 s0 (ai env.bx (gm S dS cK++gs)) μ' w')∧
  Agree gs lam μ' (ai env.bx (gm S dS cK++gs)):=by
 rw [fG]
 generalize xk:ai env.bx (gm S dS cK)=c7
 let μ':Nat→Loc:=fun i=>if i ∈ gs.map (·.1) then lam i else μ i
 have hin: ∀ u ∈ gs,ai c7 gs u.1=some u.2∧μ' u.1=lam u.1:=fun u hu=>⟨vn gs c7 hG.one u hu,if_pos (List.mem_map.2 ⟨u,hu,rfl⟩)⟩
 have hout: ∀ i,(∀ u ∈ gs,u.1≠i)→ai c7 gs i=c7 i∧μ' i=μ i:=fun i hi=>⟨oF gs c7 hi,if_neg fun hm=>by
  obtain ⟨u,hu,he⟩:=List.mem_map.1 hm; exact hi u hu he⟩
 have eg: ∀ i,c7 i=env.bx i∨c7 i=some .dead∨(dS=true∧c7 i=ai env.bx cK i):=fun i=>by rw [← xk]; exact JH hdf dS env.bx i
 have gH: ∀ i,ai env.bx cK i=some .dead→c7 i=some .dead:=fun i hi=>by rw [← xk]; exact tO dS (fun h=>h) hi
 have hlv: ∀ i,live S c7 i→c7 i=env.bx i∧live S env.bx i:=fun i hi=>by
  have h1:c7 i=env.bx i:=by
   rcases eg i with h1 | h1 | ⟨_,h1⟩
   · exact h1
   · unfold live at hi; rw [h1] at hi; exact hi.elim
   · rw [h1]; exact hk.cQ ((di S h1).1 hi)
  exact ⟨h1,(di S h1).1 hi⟩
 let U:Nat→Prop:=fun i=>(∃ u ∈ gs,u.1=i)∨c7 i≠env.bx i
 have nG: ∀ b o,M b o→ ∃ i,live S env.bx i∧c7 i=some .dead∧(μ i).aC b o:=fun b o hm=>by
  obtain ⟨i,h1,_,h3,h4⟩:=hM b o hm
  exact ⟨i,h1,gH i h3,h4⟩
 have wW: ∀ i,live S env.bx i→c7 i=some .dead→U i:=fun i h1 h2=> .inr fun e=>by
  unfold live at h1; rw [← e,h2] at h1; exact h1
 have hT: ∀ b o,M b o→b<w.heap.size→ ∃ i,U i∧live S env.bx i∧(μ i).aC b o:=fun b o hm _=>by
  obtain ⟨i,h1,h2,h3⟩:=nG b o hm
  exact ⟨i,wW i h1 h2,h1,h3⟩
 have hU: ∀ i, ¬ U i→ai c7 gs i=env.bx i∧μ' i=μ i:=fun i hi=>by
  obtain ⟨h1,h2⟩:=hout i fun u hu e=>hi (.inl ⟨u,hu,e⟩)
  exact ⟨h1.trans (Classical.not_not.1 fun e=>hi (.inr e)),h2⟩
 have nM: ∀ i,live S (ai c7 gs) i→(∃ u ∈ gs,u.1=i∧μ' i=lam u.1)∨(c7 i=env.bx i∧live S env.bx i∧μ' i=μ i∧ai c7 gs i=c7 i):=fun i hi=>by
  by_cases hg: ∃ u ∈ gs,u.1=i
  · obtain ⟨u,hu,rfl⟩:=hg
    exact .inl ⟨u,hu,rfl,(hin u hu).2⟩
  · obtain ⟨h1,h2⟩:=hout i fun u hu e=>hg ⟨u,hu,e⟩
    obtain ⟨h3,h4⟩:=hlv i ((di S h1).1 hi)
    exact .inr ⟨h3,h4,h2,h1⟩
 have tD: ∀ u ∈ gs, ∀ b o,(lam u.1).aC b o→M' b o:=fun u hu b o hf=>(hG.aC b o).2 ⟨u,hu,hf⟩
 have hf: ∀ i,U i→live S (ai c7 gs) i→ ∀ b o,(μ' i).aC b o→w.heap.size≤b∨ ∃ j,U j∧live S env.bx j∧(μ j).aC b o:=by
  intro i hi xz b o hfo
  rcases nM i xz with ⟨u,hu,rfl,h2⟩ | ⟨h1,h2,h3,h4⟩
  · rw [h2] at hfo
    rcases pY b o (tD u hu b o hfo) with hm | hn
    · obtain ⟨j,j1,j2,j3⟩:=nG b o hm
      exact .inr ⟨j,wW j j1 j2,j1,j3⟩
    · exact .inl hn
  · rcases hi with ⟨u,hu,rfl⟩ | hi
    · rw [(hin u hu).2] at hfo
      rcases pY b o (tD u hu b o hfo) with hm | hn
      · obtain ⟨j,j1,j2,j3⟩:=nG b o hm
        exact .inr ⟨j,wW j j1 j2,j1,j3⟩
      · exact .inl hn
    · exact absurd h1 hi
 have qb:=h.later hw hT hU hf
 have ey:bC w' s' w' (aD S w0 M0 s0 (ai c7 gs) μ' w'):=by
  intro b o hs
  obtain ⟨q1,q2,q3⟩:=hs' b o hs
  refine ⟨⟨q1, ?_,fun i hi hfo=> ?_⟩,rfl⟩
  · rcases q3 with q3 | q3 | q3
    · exact q3.2.1
    · obtain ⟨i,i1,_,i3⟩:=nG b o q3
      exact (h.own i i1 b o i3).elim (fun h=> .inr (.inr h)) (fun h=> .inr (.inl h))
    · exact .inr (.inr (Nat.le_trans h.eV.size q3))
  · rcases nM i hi with ⟨u,hu,rfl,h2⟩ | ⟨h1,h2,h3,h4⟩
    · rw [h2] at hfo; exact q2 (tD u hu b o hfo)
    · rw [h3] at hfo
      rcases q3 with q3 | q3 | q3
      · rcases q3.2.2 i h2 with ⟨e,l,hq⟩ | hq
        · rcases hl with hl | hl
          · have :c7 i=some (.bn e l):=by rw [← xk,hl]; exact hq
            have hi':=(di S h4).1 hi
            unfold live at hi'
            rw [this] at hi'
            exact hi'
          · exact hl b o hs
        · exact hq hfo
      · obtain ⟨k,k1,k2,k3⟩:=nG b o q3
        refine h.cF i k (fun e=> ?_) h2 k1 b o hfo k3
        subst e
        rw [h1] at k2
        unfold live at h2; rw [k2] at h2; exact h2
      · exact absurd (iE P S (h.bE i) h2 hfo).1 (by omega)
 refine ⟨μ',h.step hw hT hU hf ?_ ?_ ?_ ?_,ey,hin⟩
 · intro i B0 hi
   by_cases hg: ∃ u ∈ gs,u.1=i
   · obtain ⟨u,hu,rfl⟩:=hg
     rcases hI u.1 (hG.dU u hu) with hm | hn
     · obtain ⟨⟨ws,d1,e1⟩,e2,vs,d3,e3⟩:=hh _ hm
       rw [hi] at e1
       cases e1
       have :u=(u.1,vs):=hG.one u hu _ e3 rfl
       refine ⟨_,(hin u hu).1, ?_⟩
       rw [show u.2=vs from congrArg Prod.snd this]
       exact GW S d1 d3 ((hin u hu).2.trans e2)
     · rw [hi] at hn; cases hn
   · obtain ⟨h1,h2⟩:=hout i fun u hu e=>hg ⟨u,hu,e⟩
     rw [h1,h2]
     rcases eg i with e1 | e1 | ⟨e0,e1⟩
     · exact ⟨B0,e1.trans hi,b8.refl S _ _⟩
     · exact ⟨_,e1,by cases B0 <;> rfl⟩
     · rcases hk i with e2 | ⟨e2,_⟩ | ⟨e,l,e2,e3⟩
       · exact ⟨B0,(e1.trans e2).trans hi,b8.refl S _ _⟩
       · exact ⟨_,e1.trans e2,by cases B0 <;> rfl⟩
       · rw [hi] at e2
         cases e2
         exact ⟨_,e1.trans e3,rfl,rfl,rfl⟩
 · intro i j hi hj hij li lj b o fi fj
   rcases nM i li with ⟨u,hu,rfl,h2⟩ | ⟨h1,h2,h3,h4⟩
   · rcases nM j lj with ⟨u',aJ,rfl,lW⟩ | ⟨h1',_,_,_⟩
     · rw [h2] at fi; rw [lW] at fj
       exact hG.cF u hu u' aJ hij b o fi fj
     · rcases hj with ⟨u',aJ,rfl⟩ | hj
       · rw [h2] at fi; rw [(hin u' aJ).2] at fj
         exact hG.cF u hu u' aJ hij b o fi fj
       · exact hj h1'
   · rcases hi with ⟨u,hu,rfl⟩ | hi
     · rcases nM j lj with ⟨u',aJ,rfl,lW⟩ | ⟨h1',_,_,_⟩
       · rw [(hin u hu).2] at fi; rw [lW] at fj
         exact hG.cF u hu u' aJ hij b o fi fj
       · rcases hj with ⟨u',aJ,rfl⟩ | hj
         · rw [(hin u hu).2] at fi; rw [(hin u' aJ).2] at fj
           exact hG.cF u hu u' aJ hij b o fi fj
         · exact hj h1'
     · exact hi h1
 · intro i B hi hB
   by_cases hg: ∃ u ∈ gs,u.1=i
   · obtain ⟨u,hu,rfl⟩:=hg
     rw [(hin u hu).1] at hB
     cases hB
     rw [(hin u hu).2]
     exact (hG.rb μ' _ hin u hu).mono ey
   · obtain ⟨h1,h2⟩:=hout i fun u hu e=>hg ⟨u,hu,e⟩
     rw [h1] at hB
     rw [h2]
     have hne:c7 i≠env.bx i:=hi.resolve_left hg
     rcases eg i with e1 | e1 | ⟨e0,e1⟩
     · exact absurd e1 hne
     · rw [e1] at hB; cases hB; trivial
     · rcases hk i with e2 | ⟨e2,_⟩ | ⟨e,l,e2,e3⟩
       · exact absurd (e1.trans e2) hne
       · rw [e1,e2] at hB; cases hB; trivial
       · have BR:c7 i=some (.bn e l):=e1.trans e3
         rw [BR] at hB
         cases hB
         have bF:live S env.bx i:=by unfold live; rw [e2]; trivial
         obtain ⟨g1,g2,g3,g4,g5⟩:=h.bE i _ e2
         refine ⟨g2,g3,fun k x p_=> ?_⟩
         obtain ⟨ds,d1,d2,n,d3⟩:=g5 k x p_
         refine ⟨ds,d1,fun j u hj=> ?_,n,d3.mono S qb (Nat.le_refl _)⟩
         have hj':=(List.getElem?_eq_some_iff.1 hj).1
         have nN:=(List.getElem?_eq_some_iff.1 p_).1
         have eW:(μ i).aC (μ i).b ((μ i).o+k*Ty.sz S e+j):=by
          refine ⟨rfl,by omega, ?_⟩
          have :(k+1)*Ty.sz S e≤(μ i).cap*Ty.sz S e:=Nat.mul_le_mul_right _ (by omega)
          rw [Nat.add_mul,Nat.one_mul] at this
          omega
         have Cj: ¬ M (μ i).b ((μ i).o+k*Ty.sz S e+j):=fun hm=>by
          obtain ⟨q,q1,q2,q3⟩:=nG _ _ hm
          refine h.cF i q (fun e=> ?_) bF q1 _ _ eW q3
          subst e
          rw [BR] at q2
          cases q2
         have Cg:=(iE P S (h.bE i) bF eW).1
         refine ⟨(hw.cell _ _ Cg Cj).trans (d2 j u hj),Nat.lt_of_lt_of_le Cg hw.size,(h.own i bF _ _ eW).elim (fun h=> .inr (.inr h)) (fun h=> .inr (.inl h)),fun q hq nL=> ?_⟩
         rcases nM q hq with ⟨u,hu,rfl,h2⟩ | ⟨r1,r2,r3,r4⟩
         · rw [h2] at nL
           rcases pY _ _ (tD u hu _ _ nL) with hm | hn
           · exact Cj hm
           · omega
         · rw [r3] at nL
           refine h.cF q i (fun e=> ?_) r2 bF _ _ nL eW
           subst e
           exact hne r1
 · intro i vs hi hvs v hv j hj
   by_cases hg: ∃ u ∈ gs,u.1=i
   · obtain ⟨u,hu,rfl⟩:=hg
     rw [(hin u hu).1] at hvs
     obtain ⟨u',aJ,he⟩:=hG.ref u hu vs (by rcases hvs with hvs | hvs <;> · rw [Option.some.inj hvs]; simp) v hv j hj
     rw [← he,(hin u' aJ).1]; simp
   · obtain ⟨h1,h2⟩:=hout i fun u hu e=>hg ⟨u,hu,e⟩
     have hne:c7 i≠env.bx i:=hi.resolve_left hg
     rw [h1] at hvs
     rcases eg i with e1 | e1 | ⟨e0,e1⟩
     · exact absurd e1 hne
     · rw [e1] at hvs; rcases hvs with hvs | hvs <;> cases hvs
     · rcases hk i with e2 | ⟨e2,_⟩ | ⟨e,l,e2,e3⟩
       · exact absurd (e1.trans e2) hne
       · rw [e1,e2] at hvs; rcases hvs with hvs | hvs <;> cases hvs
       · rw [e1,e3] at hvs; rcases hvs with hvs | hvs <;> cases hvs
end
end Go.Sy
namespace Go.Sy
section
variable {P:Program} {S:aN} {af:Nat→Nat}
theorem nc {bx aa:Bx S.C} {W:Sy.V S.C} {t:Ty} (hW: ∀ i ∈ ak S W,aa i=bx i):cq S aa t W=cq S bx t W:=by
 cases W with
 | aH b=>simp only [cq]; rw [hW b (by simp [ak])]
 | _=>rfl
theorem HH {bx aa:Bx S.C} {W:Sy.V S.C} (hW: ∀ i ∈ ak S W,aa i=bx i):b9 S aa W=b9 S bx W:=by
 cases W with
 | aH b=>simp only [b9]; rw [hW b (by simp [ak])]
 | _=>rfl
theorem EK {bx aa:Bx S.C} : ∀ {ts:List Ty} {vs:List (Sy.V S.C)},(∀ v ∈ vs, ∀ i ∈ ak S v,aa i=bx i)→eO S aa ts vs=eO S bx ts vs
 | [],_,_=>rfl
 | t::ts,[],_=>rfl
 | t::ts,v::vs,h=>by
  simp only [eO]
  rw [nc (h v (by simp)),EK fun v hv=>h v (by simp [hv])]
theorem xR {bx aa:Bx S.C} {t:Ty} {vs:List (Sy.V S.C)} (h: ∀ v ∈ vs, ∀ i ∈ ak S v,aa i=bx i):eY S aa t vs=eY S bx t vs:=by
 cases t with
 | st u=>simp only [eY]; rw [EK h]
 | _=>
  cases vs with
  | nil=>rfl
  | cons v vs=>exact nc (h v (by simp))
theorem BH {bx aa:Bx S.C} : ∀ {vs:List (Sy.V S.C)},(∀ v ∈ vs, ∀ i ∈ ak S v,aa i=bx i)→vs.flatMap (b9 S aa)=vs.flatMap (b9 S bx)
 | [],_=>rfl
 | v::vs,h=>by
  simp only [List.flatMap_cons]
  rw [HH (h v (by simp)),BH fun v hv=>h v (by simp [hv])]
theorem Es {bx aa:Bx S.C} {c:CK} {vs:List (Sy.V S.C)} (h: ∀ v ∈ vs, ∀ i ∈ ak S v,aa i=bx i):cR S aa c vs=cR S bx c vs:=by
 cases c with
 | data t=>
  simp only [cR]
  rw [xR h,BH fun v hv=>h v (List.mem_of_mem_take hv)]
 | aT e=>
  cases vs with
  | nil=>rfl
  | cons v vs=>
   have :=h v (by simp)
   cases v with
   | aT b e' l=>simp only [cR]; rw [this b (by simp [ak])]
   | _=>rfl
 | aH e=>
  cases vs with
  | nil=>rfl
  | cons v vs=>
   have :=h v (by simp)
   cases v with
   | aH b=>simp only [cR]; rw [this b (by simp [ak])]
   | pre b n=>simp only [cR]; rw [this b (by simp [ak])]
   | _=>rfl
theorem lA {i:Nat} : ∀ (us:aG S.C) {bx aa:Bx S.C},aa i=bx i→ai aa us i=ai bx us i
 | [],_,_,h=>h
 | u::us,bx,aa,h=>lA us (bx:=ah bx u.1 (some u.2)) (aa:=ah aa u.1 (some u.2)) (by
  by_cases e:i=u.1
  · rw [e,aL,aL]
  · rw [aX _ _ e,aX _ _ e]; exact h)
theorem vm: ∀ {cs:List CK} {bx aa:Bx S.C} {vs:List (Sy.V S.C)},(∀ v ∈ vs, ∀ i ∈ ak S v,aa i=bx i)→cO S aa cs vs=cO S bx cs vs
 | [],_,_,_,_=>rfl
 | c::cs,bx,aa,vs,h=>by
  simp only [cO]
  rw [Es h]
  cases cR S bx c vs with
  | none=>rfl
  | some a=>
   simp only [Option.bind_some]
   rw [vm fun v hv i hi=>lA _ (h v (List.mem_of_mem_drop hv) i hi)]
def fI (S:aN) (bx aa:Bx S.C) (V:Sy.V S.C):Prop:=
 ∀ i ∈ ax S V,aa i=bx i∧(∀ vs,(bx i=some (.cells vs)∨bx i=some (.bw vs))→ ∀ v ∈ vs, ∀ j ∈ ak S v,aa j=bx j)∧ ∀ j,bx i=some (.aU j)→aa j=bx j
theorem OC {us:aG S.C} {i:Nat} {vs:List (Sy.V S.C)} (h:DF us): ∀ {bx:Bx S.C},(ai bx us i=some (.cells vs)∨ai bx us i=some (.bw vs))→(bx i=some (.cells vs)∨bx i=some (.bw vs)):=by
 induction us with
 | nil=>exact fun h=>h
 | cons u us ih=>
  intro bx hu
  have :=ih (fun v hv=>h v (by simp [hv])) (bx:=ah bx u.1 (some u.2)) hu
  by_cases e:i=u.1
  · rw [e,aL] at this
    rcases h u (by simp) with h1 | ⟨_,_,h1⟩ <;> · rw [h1] at this; rcases this with h2 | h2 <;> cases h2
  · rw [aX _ _ e] at this; exact this
theorem OD {us:aG S.C} {i j:Nat} (h:DF us): ∀ {bx:Bx S.C},ai bx us i=some (.aU j)→bx i=some (.aU j):=by
 induction us with
 | nil=>exact fun h=>h
 | cons u us ih=>
  intro bx hu
  have :=ih (fun v hv=>h v (by simp [hv])) (bx:=ah bx u.1 (some u.2)) hu
  by_cases e:i=u.1
  · rw [e,aL] at this
    rcases h u (by simp) with h1 | ⟨_,_,h1⟩ <;> · rw [h1] at this; cases this
  · rw [aX _ _ e] at this; exact this
theorem fI.ai {bx aa:Bx S.C} {V:Sy.V S.C} {us:aG S.C} (hd:DF us) (h:fI S bx aa V):fI S (ai bx us) (ai aa us) V:=fun i hi=>
 ⟨lA us (h i hi).1,fun vs hvs v hv j hj=>lA us ((h i hi).2.1 vs (OC hd hvs) v hv j hj),fun j hj=>lA us ((h i hi).2.2 j (OD hd hj))⟩
theorem Gp {bx aa:Bx S.C} {t:Ty} {v:Sy.V S.C} (this: ∀ i ∈ ak S v,aa i=bx i∧ ∀ ws,(bx i=some (.cells ws)∨bx i=some (.bw ws))→ ∀ v ∈ ws, ∀ j ∈ ak S v,aa j=bx j):i_ S aa t v=i_ S bx t v:=by
 cases v with
 | ptr b off=>
  obtain ⟨h1,h2⟩:=this b (by simp [ak])
  cases off with
  | zero=>
   simp only [i_]
   rw [h1]
   split
   · rename_i ws hb
     rw [xR (h2 ws (.inr hb))]
   · rfl
  | succ n=>rfl
 | _=>rfl
theorem vT {bx aa:Bx S.C} : ∀ {ts:List Ty} {vs:List (Sy.V S.C)},(∀ v ∈ vs, ∀ i ∈ ak S v,aa i=bx i∧ ∀ ws,(bx i=some (.cells ws)∨bx i=some (.bw ws))→ ∀ v ∈ ws, ∀ j ∈ ak S v,aa j=bx j)→caps S aa ts vs=caps S bx ts vs
 | [],[],_=>rfl
 | [],_::_,_=>rfl
 | t::ts,[],_=>rfl
 | t::ts,v::vs,h=>by
  simp only [caps]
  have h1:i_ S aa t v=i_ S bx t v:=by
   have :=h v (by simp)
   cases v with
   | ptr b off=>
    obtain ⟨h1,h2⟩:=this b (by simp [ak])
    cases off with
    | zero=>
     simp only [i_]
     rw [h1]
     split
     · rename_i ws hb
       rw [xR (h2 ws (.inr hb))]
     · rfl
    | succ n=>rfl
   | _=>rfl
  rw [h1,vT fun v hv=>h v (by simp [hv])]
theorem HC {fs:List (eE S)} {bx aa:Bx S.C} {A R:List Ty} {V:Sy.V S.C} (h:fI S bx aa V):lU S fs aa A R V=lU S fs bx A R V:=by
 cases V with
 | dQ f vs=>
  simp only [lU]
  have : ∀ ts,caps S aa ts vs=caps S bx ts vs:=fun ts=>vT fun v hv i hi=>have q:=h i (by simp only [ax,List.mem_flatMap]; exact ⟨v,hv,hi⟩); ⟨q.1,q.2.1⟩
  simp only [this]
 | _=>rfl
theorem EA {bx aa:Bx S.C} {cs:List CK} {b:Nat} (h:fI S bx aa (.ptr b 0)):eu S aa cs b=eu S bx cs b:=by
 unfold eu
 rw [(h b (by simp [ax,ak])).1]
 split
 · rename_i vs hb
   have :cO S (ah aa b (some .dead)) cs (vs.drop 0)=cO S (ah bx b (some .dead)) cs (vs.drop 0):=by
    refine vm fun v hv i hi=> ?_
    have :=(h b (by simp [ax,ak])).2.1 vs (.inl hb) v (List.mem_of_mem_drop hv) i hi
    by_cases e:i=b
    · rw [e,aL,aL]
    · rw [aX _ _ e,aX _ _ e]; exact this
   rw [this]
 · rfl
theorem ND {fs:List (eE S)} {bx aa:Bx S.C} {k:K} {V:Sy.V S.C} (h:fI S bx aa V):bP S fs aa k V=bP S fs bx k V:=by
 have h1: ∀ (c:CK),cR S aa c [V]=cR S bx c [V]∨ ∃ u vs,V= .agg u vs∨V= .dQ u vs∨V= .ff vs:=by
  intro c
  cases V with
  | agg u vs=>exact .inr ⟨u,vs, .inl rfl⟩
  | dQ u vs=>exact .inr ⟨u,vs, .inr (.inl rfl)⟩
  | ff vs=>exact .inr ⟨0,vs, .inr (.inr rfl)⟩
  | _=>exact .inl (Es fun v hv i hi=>by simp at hv; subst hv; exact (h i hi).1)
 have obj: ∀ (cs:List CK) (b:Nat) (vs:List (Sy.V S.C)) (off:Nat),V= .ptr b off→bx b=some (.cells vs)→cO S (ah aa b (some .dead)) cs (vs.drop off)=cO S (ah bx b (some .dead)) cs (vs.drop off):=by
  rintro cs b vs off rfl hb
  refine vm fun v hv i hi=> ?_
  have :=(h b (by simp [ax,ak])).2.1 vs (.inl hb) v (List.mem_of_mem_drop hv) i hi
  by_cases e:i=b
  · rw [e,aL,aL]
  · rw [aX _ _ e,aX _ _ e]; exact this
 cases k with
 | val c=>
  cases c with
  | data t=>
   obtain ⟨d1,d2⟩:=pH (t:=t) fun i hi=>(h i hi).1
   simp only [bP,d1,d2]
  | aT e=>
   rcases h1 (.aT e) with h1 | ⟨u,vs,rfl | rfl | rfl⟩
   · exact h1
   all_goals rfl
  | aH e=>
   rcases h1 (.aH e) with h1 | ⟨u,vs,rfl | rfl | rfl⟩
   · exact h1
   all_goals rfl
 | obj cs=>
  cases V with
  | ptr b off=>
   simp only [bP]
   rw [(h b (by simp [ax,ak])).1]
   split
   · rename_i vs hb
     rw [obj cs b vs off rfl hb]
   · rfl
  | _=>rfl
 | opt cs=>
  cases V with
  | ptr b off=>
   simp only [bP]
   rw [(h b (by simp [ax,ak])).1]
   split
   · rename_i vs hb
     rw [obj cs b vs off rfl hb]
   · rfl
  | _=>rfl
 | bV cs=>
  cases V with
  | bV b n=>
   simp only [bP]
   rw [(h b (by simp [ax,ak])).1]
   split
   · rename_i vs hb
     have :cO S (ah aa b (some .dead)) cs (vs.drop 0)=cO S (ah bx b (some .dead)) cs (vs.drop 0):=by
      refine vm fun v hv i hi=> ?_
      have :=(h b (by simp [ax,ak])).2.1 vs (.inl hb) v (List.mem_of_mem_drop hv) i hi
      by_cases e:i=b
      · rw [e,aL,aL]
      · rw [aX _ _ e,aX _ _ e]; exact this
     rw [this]
   · rfl
  | _=>rfl
 | bD t cs=>
  cases V with
  | split b c=>
   simp only [bP]
   have hc:fI S bx aa (.ptr c 0):=fun i hi=>h i (by simp [ax,ak] at hi ⊢; exact .inr hi)
   have hb:fI S bx aa (.ptr b 0):=fun i hi=>h i (by simp [ax,ak] at hi ⊢; exact .inl hi)
   rw [EA hc]
   cases hy:eu S bx [.data t] c with
   | none=>rfl
   | some y=>
    simp only [Option.bind_some]
    rw [EA (hb.ai (DF.eu (us:=y.2) (x:=y.1) hy))]
  | _=>rfl
 | nil=>rfl
 | err=>rfl
 | aU=>
  cases V with
  | ptr b off=>
   simp only [bP]
   rw [(h b (by simp [ax,ak])).1]
   split
   · rename_i j hb
     rw [(h b (by simp [ax,ak])).2.2 j hb]
   · rfl
  | _=>rfl
 | ro t=>
  cases V with
  | ptr b off=>
   simp only [bP]
   have :=Gp (t:=t) (v:= .ptr b off) fun i hi=>⟨(h i hi).1,(h i hi).2.1⟩
   rw [this]
  | _=>rfl
 | fn A R=>simp only [bP]; rw [HC h]
theorem Ev {fs:List (eE S)} : ∀ {ks:List K} {bx aa:Bx S.C} {Vs:List (Sy.V S.C)},(∀ V ∈ Vs,fI S bx aa V)→cX S fs aa ks Vs=cX S fs bx ks Vs
 | [],_,_,[],_=>rfl
 | [],_,_,_::_,_=>rfl
 | k::ks,_,_,[],_=>rfl
 | k::ks,bx,aa,V::Vs,h=>by
  simp only [cX]
  rw [ND (h V (by simp))]
  cases hk:bP S fs bx k V with
  | none=>rfl
  | some a=>
   simp only [Option.bind_some]
   rw [Ev fun V' H9=>(h V' (by simp [H9])).ai (DF.bP (us:=a.2) (x:=a.1) hk)]
theorem bL.length {w:World} {s:St} : ∀ {M:St} {ks:List K} {x:Ks S.C ks} {vs:List Value},bL P S w s M ks x vs→vs.length=ks.length
 | _,[],_,_,h=>by rw [h.2]; rfl
 | _,k::ks,_,_,⟨M1,M2,v,r,h1,h2,h3,h4⟩=>by subst h2; rw [List.length_cons,bL.length h4]; rfl
theorem az.flat {w:World} {s s':St} {n:Nat} {t:Ty} (hf:tc S t=true) {x:t.den S.C} {cs:List Value} (h:az S w s n t x cs):az S w s' n t x cs:=by
 cases n with
 | zero=>exact h.elim
 | succ n=>cases t with
  | int k=>exact h
  | bool=>exact h
  | str=>exact h
  | pt=>exact h
  | sl e=>simp [tc] at hf
  | st u=>
   cases n with
   | zero=>
    have : ∀ (ts:List Ty) (x:ag S.C ts) (cs:List Value),bh S (fun t x cs=>az S w s 0 t x cs) ts x cs→bh S (fun t x cs=>az S w s' 0 t x cs) ts x cs:=by
     intro ts x cs h
     exact bh.mono S (fun t x cs h=>h.elim) ts x cs h
    exact this _ _ _ h
   | succ m=>exact (bh.flat S (m:=m) _ _ _ hf h)
theorem h_.flat {w:World} {s s' M:St} {c:CK} (hf:lT S c=true) {x:c.den S.C} {cs:List Value} (h:h_ S w s M c x cs):h_ S w s' M c x cs:=by
 cases c with
 | data t=>exact ⟨h.1,h.2.imp fun _ hn=>hn.flat hf⟩
 | aT e=>simp [lT] at hf
 | aH e=>
  obtain ⟨a,cap,L,h1,h2,h3,h4,h5⟩:=h
  refine ⟨a,cap,L,h1,h2,h3,h4,fun i y hi=> ?_⟩
  obtain ⟨ds,d1,d2,n,d3⟩:=h5 i y hi
  exact ⟨ds,d1,d2,n,d3.flat hf⟩
theorem eS.flat {w:World} {s s':St} : ∀ {M:St} {cs:List CK} {x:bk S.C cs} {vs:List Value},cs.all (lT S)=true→eS S w s M cs x vs→eS S w s' M cs x vs
 | _,[],_,_,_,h=>h
 | _,_::_,_,_,hf,⟨M1,M2,v1,v2,h1,h2,h3,h4,h5⟩=>by
  simp only [List.all_cons,Bool.and_eq_true] at hf
  exact ⟨M1,M2,v1,v2,h1,h2,h3,h4.flat hf.1,eS.flat hf.2 h5⟩
theorem cY.flat {w:World} {s s' M:St} {cs:List CK} (hf:cs.all (lT S)=true) {x:bk S.C cs} {v:Value} (h:cY S w s M cs x v):cY S w s' M cs x v:=by
 obtain ⟨b,o,ds,M',h1,h2,h3,h4,h5⟩:=h
 exact ⟨b,o,ds,M',h1,h2,h3,h4,h5.flat hf⟩
theorem iV.flat {w:World} {s s' M:St} {k:K} (hf:nC S k=true) {x:k.den S.C} {v:Value} (h:iV P S w s M k x v):iV P S w s' M k x v:=by
 cases k with
 | val c=>exact ⟨h.1.flat hf,h.2⟩
 | obj cs=>exact cY.flat hf h
 | aU=>exact h
 | opt cs=>
  cases x with
  | none=>exact h
  | some y=>exact cY.flat hf h
 | nil=>exact h
 | ro t=>simp [nC] at hf
 | fn a r=>simp [nC] at hf
 | bD t cs=>simp [nC] at hf
 | bV cs=>
  obtain ⟨p,h1,h2⟩:=h
  exact ⟨p,h1,cY.flat hf h2⟩
 | err=>exact h
theorem bL.flat {w:World} {s s':St} : ∀ {M:St} {ks:List K} {x:Ks S.C ks} {vs:List Value},ks.all (nC S)=true→bL P S w s M ks x vs→bL P S w s' M ks x vs
 | _,[],_,_,_,h=>h
 | _,_::_,_,_,hf,⟨M1,M2,v,r,h1,h2,h3,h4⟩=>by
  simp only [List.all_cons,Bool.and_eq_true] at hf
  exact ⟨M1,M2,v,r,h1,h2,h3.flat hf.1,bL.flat hf.2 h4⟩
def aE (P:Program) (S:aN) (e:Entry S):Prop:=iT P e.f∧ ∀ (w:World) (s M:St) (x:Ks S.C e.ps) (args:List Value) (r:Ks S.C (e.rs++outs e.ps)),
 bL P S w s M e.ps x args→(∀ b o,s b o→b<w.heap.size∧ ¬ M b o)→fH S w M→e.sp x=some r→
 Calls P e.f args.toArray w fun en w'=> ∃ us s' M',en= .returned (gP us)∧aW w w' M∧bL P S w' s' M' (e.rs++outs e.ps) r (us++dH e.ps args)∧
  (∀ b o,s' b o→b<w'.heap.size∧ ¬ M' b o∧(s b o∨M b o∨w.heap.size≤b))∧ ∀ b o,M' b o→M b o∨w.heap.size≤b
def kC (P:Program) (S:aN) (w0:World) (M0:St) (e:Entry S):Prop:=iT P e.f∧ ∀ (w:World) (s M:St) (x:Ks S.C e.ps) (args:List Value) (r:Ks S.C (e.rs++outs e.ps)),
 aW w0 w M0→(∀ b o,M b o→w0.heap.size≤b∨M0 b o)→bL P S w s M e.ps x args→(∀ b o,s b o→b<w.heap.size∧ ¬ M b o)→e.sp x=some r→
 Calls P e.f args.toArray w fun en w'=> ∃ us s' M',en= .returned (gP us)∧aW w w' M∧bL P S w' s' M' (e.rs++outs e.ps) r (us++dH e.ps args)∧
  (∀ b o,s' b o→b<w'.heap.size∧ ¬ M' b o∧(s b o∨M b o∨w.heap.size≤b))∧ ∀ b o,M' b o→M b o∨w.heap.size≤b
theorem aE.at {w0:World} {M0:St} {e:Entry S} (h:aE P S e) (hG:fH S w0 M0):kC P S w0 M0 e:=
 ⟨h.1,fun w s M x args r hc hM hx hs hr=>h.2 w s M x args r hx hs ⟨fun g hg=>by
  obtain ⟨g1,g2,v,g3,g4⟩:=hG.1 g hg
  refine ⟨Nat.lt_of_lt_of_le g1 hc.size,fun hm=> ?_,v,(hc.cell g.1.1 g.1.2 g1 g2).trans g3,g4⟩
  rcases hM _ _ hm with h1 | h1
  · exact absurd g1 (Nat.not_lt.2 h1)
  · exact g2 h1,fun g hg=>by
  obtain ⟨g1,g2,v,g3,g4⟩:=hG.2 g hg
  refine ⟨Nat.lt_of_lt_of_le g1 hc.size,fun o hm=> ?_,v,(hc.same g.1 g1 g2).trans g3,g4⟩
  rcases hM _ _ hm with h1 | h1
  · exact absurd g1 (Nat.not_lt.2 h1)
  · exact g2 o h1⟩ hr⟩
end
end Go.Sy
namespace Go.Sy
section
variable {P:Program} {S:aN} {af:Nat→Nat}
variable {w0:World} {M0 s0:St} {dq:List Deferred} {env:Env S.C} {a:Act} {w:World} {μ:Nat→Loc} {K:Act→World→Prop} {Q:Exit→Act→World→Prop} {o:Oper} {V:V S.C} {us:aG S.C}
theorem z8 {s:St} {bx:Bx S.C} {vs:List (Sy.V S.C)} {us:List Value} (h:aF P S w s μ bx vs us):RV P S w s μ bx (lz S vs) (gP us):=by
 cases vs with
 | nil=>cases h; exact ⟨#[],rfl,rfl⟩
 | cons v vs=>
  obtain ⟨c,r,rfl,h1,h2⟩:=h
  cases vs with
  | nil=>cases h2; exact iX h1
  | cons v' vs=>
   obtain ⟨c',r',rfl,h3,h4⟩:=h2
   exact ⟨_,rfl,c,c'::r',by simp,h1,c',r',rfl,h3,h4⟩
theorem Cy {vs:List (Sy.V S.C)} {j:Nat} (h:j ∈ ax S (lz S vs)): ∃ v ∈ vs,j ∈ ak S v∨j ∈ ax S v:=by
 cases vs with
 | nil=>simp [lz,ax] at h
 | cons v vs=>
  cases vs with
  | nil=>exact ⟨v,by simp, .inr h⟩
  | cons v' vs=>
   simp only [lz,ax,List.mem_flatMap] at h
   obtain ⟨u,hu,hj⟩:=h
   exact ⟨u,hu, .inl hj⟩
theorem Jy {s:St} {bx:Bx S.C} {V:Sy.V S.C} {v:Value} (h:bl P S w s μ bx V v) {j:Nat} (hj:j ∈ ax S V):j ∈ ak S V:=by
 cases V <;> first | exact hj | exact (h:False).elim
theorem Cx {s:St} {bx:Bx S.C} : ∀ {vs:List (Sy.V S.C)} {cs:List Value},aF P S w s μ bx vs cs→ ∀ v ∈ vs, ∀ j ∈ ax S v,j ∈ ak S v
 | [],_,_,v,hv,_,_=>by simp at hv
 | u::vs,_,⟨c,r,h1,h2,h3⟩,v,hv,j,hj=>by
  rcases List.mem_cons.1 hv with rfl | hv
  · exact Jy h2 hj
  · exact Cx h3 v hv j hj
theorem zb {c:Call} (ho:o.op= .call c) {f:Operand} (hc:c.callee= .value f) {g:Nat} {first cap:Array Value} (hf:a.eval f= .func (.func g) first cap) (hok:iT P g):
 (execOp a.eval o).run P w= .ok (.enter g (first++c.args.map a.eval++cap)) w:=by
 obtain ⟨fn,h1,h2,h3⟩:=hok
 unfold execOp
 simp only [ho]
 have lW: ¬ fn.name= "runtime.NumGoroutine" :=by simpa using h2
 have HW: ¬ fn.body=none:=fun e=>by rw [e] at h3; cases h3
 simp [resolve,hc,hf,Deferred.ofValue,invoke,callFunc,h1,lW,HW]
theorem yu: ∀ (ps:List Sy.K) (args:List Value),args.length=ps.length→(dH ps args).length=(outs ps).length
 | [],_,_=>by simp [dH,outs]
 | _::_,[],h=>by simp at h
 | k::ps,v::args,h=>by
  have ih:=yu ps args (by simpa using h)
  cases k <;> simp [dH,outs,ih]
theorem AB (hP:aO P S af) {T:eH S} {f:Nat} {args:Array Value} {C:(Ending→World→Prop)→Prop} (hmono: ∀ R R',(∀ en w',R en w'→R' en w')→C R→C R')
 (hT: ∀ e ∈ T.es,e.f=f→ ∀ (s M:St) (x:Ks S.C e.ps) (r:Ks S.C (e.rs++outs e.ps)),(∀ b o,M b o→w0.heap.size≤b∨M0 b o)→bL P S w s M e.ps x args.toList→(∀ b o,s b o→b<w.heap.size∧ ¬ M b o)→e.sp x=some r→
  C fun en w'=> ∃ us s' M',en= .returned (gP us)∧aW w w' M∧bL P S w' s' M' (e.rs++outs e.ps) r (us++dH e.ps args.toList)∧
   (∀ b o,s' b o→b<w'.heap.size∧ ¬ M' b o∧(s b o∨M b o∨w.heap.size≤b))∧ ∀ b o,M' b o→M b o∨w.heap.size≤b)
 (hF: ∀ e ∈ T.fs,eF P S e) (h:Inv P S w0 M0 s0 dq env a w μ) {B:Nat} {dX:Bx S.C}
 {Vs:List (Sy.V S.C)} (hargs:dO P S w (aD S w0 M0 s0 env.bx μ w) μ env.bx Vs args.toList)
 (hkn: ∀ V ∈ Vs,fI S env.bx dX V) (hnew: ∀ u ∈ us,B≤u.1→u.1<B+16→env.bx u.1=none)
 (hl:(kF S T B dX f Vs).leaf (V,us)):
 C fun en w'=> ∃ v μ',en= .returned v∧Inv P S w0 M0 s0 dq { env with bx:=ai env.bx us } a w' μ'∧RV P S w' (aD S w0 M0 s0 (ai env.bx us) μ' w') μ' (ai env.bx us) V v∧ ∀ j ∈ ax S V,ai env.bx us j≠none:=by
 unfold kF at hl
 split at hl
 · rename_i e tk hfind
   obtain ⟨e0,p7,hsel⟩:=List.exists_of_findSome?_eq_some hfind
   split at hsel
   · rename_i iB
     obtain ⟨ki,htk,hsel⟩:=Option.bind_eq_some_iff.1 hsel
     cases hsel
     cases hlim:Nat.ble (fB e.rs+fB (outs e.ps)) 16&&(cI S e.ps Vs).all fun b=> !(Nat.ble B b&&Nat.blt b (B+16)) with
     | false=>rw [hlim] at hl; exact hl.elim
     | true=>
      rw [hlim,cond_true] at hl
      rw [Bool.and_eq_true] at hlim
      obtain ⟨hlim,Ie⟩:=hlim
      have hlim:=Nat.le_of_ble_eq_true hlim
      obtain ⟨r,hr,hl⟩:=hl
      rw [Ev hkn] at htk
      obtain ⟨x,cK⟩:=tk
      dsimp only at hr hl
      obtain ⟨k1,M,kr,fr⟩:=rT hP.tocm h hF e.ps (Tk.refl S env.bx) hargs htk
      have Jk: ∀ (ks:List Sy.K) (bx:Bx S.C) (hk:Tk S env.bx bx) (Vs:List (Sy.V S.C)) (args:List Value) (x:Ks S.C ks) (us:aG S.C),dO P S w (aD S w0 M0 s0 env.bx μ w) μ env.bx Vs args→cX S T.fs bx ks Vs=some (x,us)→Tk S bx (ai bx us):=
       fun ks bx hk Vs args x us h1 h2=>(rT hP.tocm h hF ks hk h1 h2).1
      obtain ⟨oo,KQ,od⟩:=Ew (s:=aD S w0 M0 s0 env.bx μ w) (s':=aD S w0 M0 s0 env.bx μ w) h.bE e.ps (Tk.refl S env.bx) Jk hargs htk
      have hdf:=DF.cX htk
      have Ct: ∀ b o,bU S w0 M0 s0 env.bx (ai env.bx cK) μ w b o→b<w.heap.size∧ ¬ M b o:=by
       intro b o ⟨q1,q2,q3⟩
       refine ⟨q1,fun hm=> ?_⟩
       obtain ⟨i,i1,_,i3,i4⟩:=fr b o hm
       rcases q3 i i1 with ⟨_,_,hq⟩ | hq
       · rw [i3] at hq; cases hq
       · exact hq i4
      refine hmono _ _ ?_ (hT e p7 iB _ M x r (fun b o hm=>by obtain ⟨i,i1,_,_,i4⟩:=fr b o hm; exact h.own i i1 b o i4) kr Ct hr)
      rintro en w' ⟨vs,s',M',rfl,hw,hks,hs',pY⟩
      have IF: ∃ s2:St,bL P S w' s2 M' (e.rs++outs e.ps) r (vs++dH e.ps args.toList)∧(∀ b o,s2 b o→s' b o)∧(tQ S e=true∨ ∀ b o, ¬ s2 b o):=by
       cases hlk:tQ S e with
       | true=>exact ⟨s',hks,fun _ _ h=>h, .inl rfl⟩
       | false=>
        unfold tQ at hlk
        simp only [Bool.not_eq_false'] at hlk
        exact ⟨fun _ _=>False,hks.flat hlk,fun _ _ h=>h.elim, .inr fun _ _ h=>h⟩
      obtain ⟨s2,Cd,hs2,hlk⟩:=IF
      obtain ⟨q,M1,M2,us',ws,hq,hv1,hsp,Cl,n1,n2,l1,g1,r1,j_⟩:=CY hP.tocm e.rs B Cd hl
      obtain ⟨rfl,rfl⟩:=bg hq
      have hlen:=bL.length Cd
      have hlo:=bL.length Cl
      have hla:args.toList.length=e.ps.length:=bL.length kr
      have hol:=yu e.ps args.toList hla
      have hsame:vs=us'∧dH e.ps args.toList=ws:=by
       refine List.append_inj hv1 ?_
       have :=congrArg List.length hv1
       simp only [List.length_append] at this
       omega
      obtain ⟨rfl,rfl⟩:=hsame
      have xw: ∀ b ∈ cI S e.ps Vs, ∀ i,B≤i→i<B+16→i≠b:=by
       rintro b hb i h1 h2 rfl
       have :=List.all_eq_true.1 Ie i hb
       rw [show Nat.ble B i=true from Nat.ble_eq_true_of_le h1,show Nat.blt i (B+16)=true from Nat.ble_eq_true_of_le h2] at this
       cases this
      obtain ⟨l2,g2,Cc⟩:=iI (P:=P) hP.tocm e.ps q.2.2 (oo.later fun b o hs=>have hq:=Ct b o (jC S w0 M0 s0 env.bx (ai env.bx cK) μ w b o hs).1; hw.cell b o hq.1 hq.2) KQ (fun b hb i h1 h2=>xw b hb i (by omega) (by omega)) Cl
      obtain ⟨g,hag⟩:=bO.both g1 g2 (fun i h1 h2=>by
       rcases h2 with h2 | h2
       · exact xw i h2 i (by omega) (by omega) rfl
       · omega) hsp
      have xu:bO P S w' s2 (fun i=> ∃ u ∈ (q.2.1++dL S q.2.2 e.ps Vs (gw S e.rs (outs e.ps) r).2),u.1=i) (q.2.1++dL S q.2.2 e.ps Vs (gw S e.rs (outs e.ps) r).2) _ M':=
       ⟨fun u hu=>⟨u,hu,rfl⟩,g.one,g.rb,g.lv,g.aC,g.cF,g.ref⟩
      obtain ⟨μ',hI,ey,BQ⟩:=h.call (xm:=cI S e.ps Vs) hdf k1 fr hw (fun b o hs=>hs' b o (hs2 b o hs)) pY xu (fun i hi=>by
       obtain ⟨u,hu,rfl⟩:=hi
       rcases g.dU u hu with h1 | h1 | h1
       · exact .inr (hnew u (List.mem_append.2 (.inr hu)) h1.1 (by omega))
       · exact .inl h1
       · exact .inr (hnew u (List.mem_append.2 (.inr hu)) (by omega) (by omega)))
       (fun b hb=>⟨(od b hb).1,by
        unfold both
        rw [if_neg]
        · exact (Cc b hb).1
        · intro hm
          obtain ⟨u,hu,he⟩:=List.mem_map.1 hm
          have :=g1.dU u hu
          rw [he] at this
          exact xw b hb b this.1 (by omega) rfl,by
        obtain ⟨vs,hh,hvs⟩:=(Cc b hb).2
        exact ⟨vs,hh,List.mem_append.2 (.inr hvs)⟩⟩) hlk
      have cu:=(j_ _ _ (hag _ _ BQ).1).mono ey
      refine ⟨_,μ',rfl,hI,z8 cu,fun j hj=> ?_⟩
      obtain ⟨v,hv,hj⟩:=Cy hj
      obtain ⟨u,hu,he⟩:=r1 v hv j (hj.elim id fun hj=>Cx cu v hv j hj)
      have :=(BQ u (List.mem_append.2 (.inl hu))).1
      rw [he] at this
      rw [this]
      simp
   · cases hsel
 · exact hl.elim
theorem Gm (hP:aO P S af) {T:eH S} (hT: ∀ e ∈ T.es,kC P S w0 M0 e) (hF: ∀ e ∈ T.fs,eF P S e) (h:Inv P S w0 M0 s0 dq env a w μ) (hd: ∀ d,o.dst=some d→d<a.tmps.size) {B:Nat} {ids:List Nat}
 {Vs:List (Sy.V S.C)} {args:Array Value} {f:Nat} (hrun:iT P f→(execOp a.eval o).run P w= .ok (.enter f args) w) (hargs:dO P S w (aD S w0 M0 s0 env.bx μ w) μ env.bx Vs args.toList)
 (hkn: ∀ V ∈ Vs,fI S env.bx (restrict S env.bx ids) V) (hnew: ∀ u ∈ us,B≤u.1→u.1<B+16→env.bx u.1=none)
 (hl:(kF S T B (restrict S env.bx ids) f Vs).leaf (V,us)) (hK:Goal P S w0 M0 s0 dq env a o.dst V us K):o.wp P a w K Q:=by
 have hok:iT P f:=by
  unfold kF at hl
  split at hl
  · rename_i e tk hfind
    obtain ⟨e0,p7,hsel⟩:=List.exists_of_findSome?_eq_some hfind
    split at hsel
    · rename_i iB
      rw [← iB]; exact (hT e0 p7).1
    · cases hsel
  · exact hl.elim
 unfold Oper.wp
 rw [hrun hok]
 refine Calls.mono (AB (dq:=dq) hP (C:=fun R=>Calls P f args w R) (fun R R' hR hc=>Calls.mono hc hR) (fun e he iB s M x r hM hx hs hr=> ?_) hF h hargs hkn hnew hl) ?_
 · have hc:=(hT e he).2 w s M x args.toList r h.eV hM hx hs hr
   rw [iB,show args.toList.toArray=args from by simp] at hc
   exact hc
 · rintro en w' ⟨v,μ',rfl,hI,cu,dZ⟩
   refine hK _ w' μ' (hI.put hd cu dZ) ?_
   cases o.dst <;> simp [Act.put]
end
end Go.Sy
namespace Go.Sy
section
variable {P:Program} {S:aN} {af:Nat→Nat}
variable {w0:World} {M0 s0:St} {dq:List Deferred} {env:Env S.C} {a:Act} {w:World} {μ:Nat→Loc} {K:Act→World→Prop} {Q:Exit→Act→World→Prop} {o:Oper} {V:V S.C} {us:aG S.C}
theorem Inv.world (h:Inv P S w0 M0 s0 dq env a w μ) {w':World} (hw:aW w w' (fun _ _=>False)):
 Inv P S w0 M0 s0 dq env a w' μ∧bC w' (grown (aD S w0 M0 s0 env.bx μ w) w w') w' (aD S w0 M0 s0 env.bx μ w'):=by
 have qb:=h.later (T:=fun _ _=>False) (U:=fun _=>False) (aa:=env.bx) (μ':=μ) hw (fun _ _ h=>h.elim) (fun _ _=>⟨rfl,rfl⟩) (fun _ h=>h.elim)
 refine ⟨h.step (T:=fun _ _=>False) (U:=fun _=>False) hw (fun _ _ h=>h.elim) (fun _ _=>⟨rfl,rfl⟩) (fun _ h=>h.elim) (fun i B0 hi=>⟨B0,hi,b8.refl S _ _⟩) (fun _ _ h=>h.elim) (fun _ _ h=>h.elim) (fun _ _ h=>h.elim), ?_⟩
 rintro b o (hs | ⟨h1,h2⟩)
 · exact ⟨(qb b o hs).1,rfl⟩
 · exact ⟨⟨h2, .inr (.inr (Nat.le_trans h.eV.size h1)),fun i li hf=>absurd (iE P S (h.bE i) li hf).1 (by omega)⟩,rfl⟩
theorem A5 {bx aa:Bx S.C} : ∀ {ts:List Ty} {Vs:List (Sy.V S.C)},(∀ V ∈ Vs, ∀ i ∈ ax S V,aa i=bx i)→gD S aa ts Vs=gD S bx ts Vs
 | [],[],_=>rfl
 | [],_::_,_=>rfl
 | _::_,[],_=>rfl
 | t::ts,V::Vs,h=>by
  obtain ⟨h1,h2⟩:=pH (t:=t) (h V (by simp))
  simp only [gD,h1,h2]
  rw [A5 fun V hV=>h V (by simp [hV])]
theorem wu {bx:Bx S.C} : ∀ {ts:List Ty} {Vs:List (Sy.V S.C)} {x:ag S.C ts} {us:aG S.C},gD S bx ts Vs=some (x,us)→cl bx us
 | [],[],_,_,h=>by cases h; intro u hu; simp at hu
 | [],_::_,_,_,h=>by cases h
 | _::_,[],_,_,h=>by cases h
 | t::ts,V::Vs,x,us,h=>by
  simp only [gD] at h
  obtain ⟨y,hy,h⟩:=Option.bind_eq_some_iff.1 h
  obtain ⟨⟨z,u2⟩,hz,h⟩:=Option.bind_eq_some_iff.1 h
  cases h
  exact (cl.cy bx V).append (wu hz)
theorem wz (hS:cm S) (h:Inv P S w0 M0 s0 dq env a w μ) {US:aG S.C} (hU:cl env.bx US): ∀ {ts:List Ty} {Vs:List (Sy.V S.C)} {args:List Value} {x:ag S.C ts} {us:aG S.C},
 dO P S w (aD S w0 M0 s0 env.bx μ w) μ env.bx Vs args→gD S env.bx ts Vs=some (x,us)→(∀ u ∈ us,u ∈ US)→dW S w (bU S w0 M0 s0 env.bx (ai env.bx US) μ w) ts x args
 | [],[],_,_,_,hv,h,_=>hv
 | [],_::_,_,_,_,_,h,_=>by cases h
 | _::_,[],_,_,_,_,h,_=>by cases h
 | t::ts,V::Vs,args,x,us,⟨v,r,hargs,h1,h2⟩,hx,hs=>by
  simp only [gD] at hx
  obtain ⟨y,hy,hx⟩:=Option.bind_eq_some_iff.1 hx
  obtain ⟨⟨z,u2⟩,hz,hx⟩:=Option.bind_eq_some_iff.1 hx
  cases hx
  obtain ⟨_,d2⟩:=sS hS h (Tk.refl S env.bx) h1 hy
  refine ⟨v,r,hargs, ?_, ?_⟩
  · rw [show ag.head (ag.cons y z)=y from by cases ts <;> rfl]
    exact d2.mono S (oA S (hU.tk (us:=cy S env.bx V) fun u hu=>hs u (by simp [hu])))
  · rw [show ag.tail (ag.cons y z)=z from by cases ts <;> rfl]
    exact wz hS h hU h2 hz fun u hu=>hs u (by simp [hu])
theorem EM {s:St} {bx:Bx S.C} : ∀ {ts:List Ty} {x:ag S.C ts} {us:List Value},dW S w s ts x us→aF P S w s μ bx (mT S ts x) us∧ ∀ v ∈ mT S ts x,ax S v= []∧ak S v= []
 | [],_,_,h=>⟨h,by simp [mT]⟩
 | t::ts,x,us,⟨v,r,h1,h2,h3⟩=>by
  obtain ⟨h4,h5⟩:=EM (bx:=bx) h3
  refine ⟨⟨v,r,h1,h2,h4⟩,fun u hu=> ?_⟩
  rcases List.mem_cons.1 hu with rfl | hu
  · exact ⟨rfl,rfl⟩
  · exact h5 u hu
theorem E1 (hP:aO P S af) (h:Inv P S w0 M0 s0 dq env a w μ) (hd: ∀ d,o.dst=some d→d<a.tmps.size) {f:Nat} {args:Array Value} {us:aG S.C} (hfz:cl env.bx us) {r:List Ty} {y:ag S.C r}
 (hrun:(execOp a.eval o).run P w= .ok (.enter f args) w)
 (hc:Calls P f args w fun e w'=> ∃ us',e= .returned (gP us')∧aW w w' (fun _ _=>False)∧dW S w' (grown (aD S w0 M0 s0 (ai env.bx us) μ w) w w') r y us')
 (hK:Goal P S w0 M0 s0 dq env a o.dst (lz S (mT S r y)) us K):o.wp P a w K Q:=by
 have h1:=h.tk hfz.ki
 unfold Oper.wp
 rw [hrun]
 refine Calls.mono hc ?_
 rintro en w' ⟨vs,rfl,hw,gk⟩
 obtain ⟨h2,hl⟩:=h1.world hw
 obtain ⟨h3,h4⟩:=EM (P:=P) (μ:=μ) (bx:=ai env.bx us) (gk.mono S hl)
 refine hK _ w' μ (h2.put hd (z8 h3) fun j hj=> ?_) ?_
 · obtain ⟨v,hv,hj⟩:=Cy hj
   obtain ⟨e1,e2⟩:=h4 v hv
   rw [e1,e2] at hj
   simp at hj
 · cases o.dst <;> simp [Act.put]
theorem Gn (hP:aO P S af) {T:eH S} (hT: ∀ e ∈ T.es,kC P S w0 M0 e) (hF: ∀ e ∈ T.fs,eF P S e) (h:Inv P S w0 M0 s0 dq env a w μ) (hd: ∀ d,o.dst=some d→d<a.tmps.size) {B:Nat} {ids:List Nat}
 {c:Call} (ho:o.op= .call c) {f:Operand} (hc:c.callee= .value f) {Vs:List (Sy.V S.C)} {Vf:Sy.V S.C} (hargs:c.args.toList.mapM (aK S env.tm)=some Vs) (hf:aK S env.tm f=some Vf)
 (hkn: ∀ V ∈ Vs,fI S env.bx (restrict S env.bx ids) V) (IS:fI S env.bx (restrict S env.bx ids) Vf) (hnew: ∀ u ∈ us,B≤u.1→u.1<B+16→env.bx u.1=none)
 (hl:(o8 S T B (restrict S env.bx ids) Vs Vf).leaf (V,us)) (hK:Goal P S w0 M0 s0 dq env a o.dst V us K):o.wp P a w K Q:=by
 obtain ⟨hvs,_⟩:=sG h hargs
 obtain ⟨tH,_⟩:=bf h hf
 have nI: ∀ {ts:List Ty} {x:ag S.C ts} {us:aG S.C},gD S (restrict S env.bx ids) ts Vs=some (x,us)→gD S env.bx ts Vs=some (x,us):=fun hx=>by
  rw [A5 (bx:=env.bx) fun V hV i hi=>(hkn V hV i hi).1] at hx; exact hx
 cases Vf with
 | fv A R g=>
  simp only [o8] at hl
  split at hl
  · rename_i x us' hx
    obtain ⟨y,hy,hl⟩:=hl
    obtain ⟨rfl,rfl⟩:=bg hl
    have hx:=nI hx
    have hfz:=wu hx
    have gk:=(wz hP.tocm h hfz hvs hx fun u hu=>hu).mono S (vl hfz.ki)
    have tH:iU P S w (aD S w0 M0 s0 env.bx μ w) A R g (a.eval f):=tH
    obtain ⟨g',first,cap,he,hok,lY⟩:=tH
    have :=lY w _ (Er hfz.ki) (h.lV.at h.eV fun _ _ h=>h.elim) x _ y gk hy
    refine E1 hP h hd hfz (zb ho hc he hok) ?_ hK
    rw [show (c.args.toList.map a.eval).toArray=c.args.map a.eval from by rw [← Array.toList_map,Array.toArray_toList]] at this
    exact this
  · exact hl.elim
 | dQ g vs=>
  obtain ⟨cs,he,hcs⟩:=tH
  cases vs with
  | nil=>
   simp only [o8] at hl
   have It:cs= #[]:=by have h0:cs.toList= []:=hcs; exact Array.toList_eq_nil_iff.1 h0
   subst It
   refine Gm hP hT hF h hd (args:=c.args.map a.eval) (fun hok=> ?_) (by simpa using hvs) hkn hnew hl hK
   have :=zb (w:=w) ho hc he hok
   simpa using this
  | cons v vs=>
   simp only [o8] at hl
   split at hl
   · rename_i e hfind
     split at hl
     · rename_i y x us' hy hx
       obtain ⟨z,hz,hl⟩:=hl
       obtain ⟨rfl,rfl⟩:=bg hl
       have hx:=nI hx
       have hfz:=wu hx
       have gk:=(wz hP.tocm h hfz hvs hx fun u hu=>hu).mono S (vl hfz.ki)
       have hmem:=List.mem_of_find?_eq_some hfind
       have iB:e.f=g:=by simpa using List.find?_some hfind
       obtain ⟨hok,lY⟩:=hF e hmem
       rw [iB] at hok lY
       have hy:caps S env.bx e.c (v::vs)=some y:=by
        rw [← vT (bx:=env.bx) (aa:=restrict S env.bx ids) fun u hu i hi=>have q:=IS i (by simp only [ax,List.mem_flatMap]; exact ⟨u,hu,hi⟩); ⟨q.1,q.2.1⟩]
        exact hy
       have hcap:=vU hP.tocm h (Tk.refl S env.bx) e.c hcs hy
       have hcap2:eD S w (aD S w0 M0 s0 (ai env.bx us) μ w) e.c y cs.toList:=by
        refine eD.mono ?_ _ _ _ hcap
        exact (oA S hfz.ki).trans (vl hfz.ki)
       refine E1 hP h hd hfz (zb ho hc he hok) ?_ hK
       have :=lY w _ x y z (c.args.toList.map a.eval) cs.toList (h.lV.at h.eV fun _ _ h=>h.elim) gk hcap2 hz
       rw [show (c.args.toList.map a.eval++cs.toList).toArray= #[]++c.args.map a.eval++cs from by simp] at this
       exact this
     · exact hl.elim
   · exact hl.elim
 | _=>exact hl.elim
theorem wP {bx dX:Bx S.C} : ∀ (vs:List (Sy.V S.C)) (u:Nat×cP S.C),u ∈ iz S dX vs→(∀ i B,dX i=some B→bx i=some B)→ ∃ ws,u.2= .bw ws∧bx u.1=some (.cells ws)
 | [],u,hu,_=>by simp [iz] at hu
 | v::vs,u,hu,h=>by
  cases v with
  | ptr b off=>
   simp only [iz,List.mem_append] at hu
   rcases hu with hu | hu
   · split at hu
     · rename_i ws hb
       simp at hu
       subst hu
       exact ⟨ws,rfl,h _ _ hb⟩
     · simp at hu
   · exact wP vs u hu h
  | _=>exact wP vs u hu h
theorem Bs {bx:Bx S.C} {i:Nat} : ∀ {us:aG S.C} (aa:Bx S.C),(∀ u ∈ us, ∃ ws,u.2= .bw ws∧bx u.1=some (.cells ws))→ai aa us i=aa i∨ ∃ ws,bx i=some (.cells ws)∧ai aa us i=some (.bw ws)
 | [],_,_=> .inl rfl
 | u::us,aa,h=>by
  rcases Bs (us:=us) (ah aa u.1 (some u.2)) (fun v hv=>h v (by simp [hv])) with h1 | h1
  · by_cases e:i=u.1
    · right
      obtain ⟨ws,h2,h3⟩:=h u (by simp)
      refine ⟨ws,e▸h3, ?_⟩
      show ai (ah aa u.1 (some u.2)) us i=_
      rw [h1,e,aL,h2]
    · left
      show ai (ah aa u.1 (some u.2)) us i=_
      rw [h1,aX _ _ e]
  · exact .inr h1
theorem Inv.tf (h:Inv P S w0 M0 s0 dq env a w μ) {aa:Bx S.C} (hk: ∀ i,aa i=env.bx i∨ ∃ ws,env.bx i=some (.cells ws)∧aa i=some (.bw ws)):Inv P S w0 M0 s0 dq { env with bx:=aa } a w μ:=by
 have hlv: ∀ i,live S aa i→aa i=env.bx i:=fun i hi=>by
  rcases hk i with e | ⟨ws,_,e⟩
  · exact e
  · unfold live at hi; rw [e] at hi; exact hi.elim
 have hf: ∀ i, ¬ aa i=env.bx i→live S aa i→False:=fun i hi hl=>hi (hlv i hl)
 have hl:bC w (aD S w0 M0 s0 env.bx μ w) w (aD S w0 M0 s0 aa μ w):=h.later (T:=fun _ _=>False) (U:=fun i=> ¬ aa i=env.bx i) (aW.refl w _) (fun _ _ h=>h.elim) (fun i hi=>⟨Classical.not_not.1 hi,rfl⟩) (fun i hi hl=>(hf i hi hl).elim)
 have hc: ∀ i B0,env.bx i=some B0→ ∃ B,aa i=some B∧b8 S (μ i) (μ i) B0 B:=fun i B0 bp=>by
  rcases hk i with e | ⟨ws,e1,e2⟩
  · exact ⟨B0,e.trans bp,b8.refl S _ _⟩
  · rw [bp] at e1; cases e1
    exact ⟨_,e2,rfl⟩
 refine h.step (T:=fun _ _=>False) (U:=fun i=> ¬ aa i=env.bx i) (aW.refl w _) (fun _ _ h=>h.elim) (fun i hi=>⟨Classical.not_not.1 hi,rfl⟩)
  (fun i hi hl=>(hf i hi hl).elim) hc (fun i _ hi _ _ hl=>(hf i hi hl).elim) (fun i B hi hB=> ?_) (fun i vs hi hvs v hv j hj=> ?_)
 · rcases hk i with e | ⟨ws,e1,e2⟩
   · exact absurd e hi
   · rw [e2] at hB
     cases hB
     obtain ⟨g1,g2,g3,cs,g4,g5⟩:=h.bE i _ e1
     have bF:live S env.bx i:=by unfold live; rw [e1]; trivial
     have hlen:=aF.length P S g5
     refine ⟨g1,cs,fun j u hj=>⟨g4 j u hj, ?_⟩,aF.step P S hl hc (h.gN i ws (.inl e1)) g5⟩
     have hj':=(List.getElem?_eq_some_iff.1 hj).1
     have eW:(μ i).aC (μ i).b ((μ i).o+j):=⟨rfl,by omega,by omega⟩
     refine ⟨(iE P S (h.bE i) bF eW).1,(h.own i bF _ _ eW).elim (fun h=> .inr (.inr h)) (fun h=> .inr (.inl h)),fun q hq nL=> ?_⟩
     refine h.cF q i (fun e=> ?_) ((di S (hlv q hq)).1 hq) bF _ _ nL eW
     subst e
     unfold live at hq; rw [e2] at hq; exact hq
 · rcases hk i with e | ⟨ws,e1,e2⟩
   · exact absurd e hi
   · rw [e2] at hvs
     rcases hvs with hvs | hvs
     · cases hvs
     · cases hvs
       have :=h.gN i _ (.inl e1) v hv j hj
       obtain ⟨B0,bp⟩:=Option.ne_none_iff_exists'.1 this
       obtain ⟨B',eJ,_⟩:=hc j B0 bp
       rw [eJ]; simp
theorem z6 {s:St} {bx:Bx S.C} : ∀ {vs:List (Sy.V S.C)} {cs:List Value},vs.all (br S)=true→dO P S w s μ bx vs cs→aF P S w s μ bx vs cs
 | [],_,_,h=>h
 | v::vs,_,hs,⟨c,r,h1,h2,h3⟩=>by
  simp only [List.all_cons,Bool.and_eq_true] at hs
  refine ⟨c,r,h1, ?_,z6 hs.2 h3⟩
  cases v <;> first | exact h2 | simp [br] at hs
theorem Ko (h:Inv P S w0 M0 s0 dq env a w μ) (hd: ∀ d,o.dst=some d→d<a.tmps.size) {f:Nat} {cs:Array Operand} {ids:List Nat} (ho:o.op= .makeFunc (.func f) #[] cs)
 (hl:(match cs.toList.mapM (aK S env.tm) with
  | some vs=>cond (vs.all (br S)) (ay S (.dQ f vs) (iz S (restrict S env.bx ids) vs)) .fail
  | none=> .fail).leaf (V,us)) (hK:Goal P S w0 M0 s0 dq env a o.dst V us K):o.wp P a w K Q:=by
 split at hl
 · rename_i vs hvs
   cases hs:vs.all (br S) with
   | false=>rw [hs] at hl; exact hl.elim
   | true=>
    rw [hs,cond_true] at hl
    obtain ⟨rfl,rfl⟩:=bg hl
    obtain ⟨h1,h2⟩:=sG h hvs
    have h3:=z6 hs h1
    have hall: ∀ i,ai env.bx (iz S (restrict S env.bx ids) vs) i=env.bx i∨ ∃ ws,env.bx i=some (.cells ws)∧ai env.bx (iz S (restrict S env.bx ids) vs) i=some (.bw ws):=fun i=>
     Bs env.bx fun u hu=>wP vs u hu fun i B hB=>dA hB
    have hI:=h.tf hall
    have hc: ∀ i B0,env.bx i=some B0→ ∃ B,ai env.bx (iz S (restrict S env.bx ids) vs) i=some B∧b8 S (μ i) (μ i) B0 B:=fun i B0 bp=>by
     rcases hall i with e | ⟨ws,e1,e2⟩
     · exact ⟨B0,e.trans bp,b8.refl S _ _⟩
     · rw [bp] at e1; cases e1
       exact ⟨_,e2,rfl⟩
    have qb:bC w (aD S w0 M0 s0 env.bx μ w) w (aD S w0 M0 s0 (ai env.bx (iz S (restrict S env.bx ids) vs)) μ w):=fun b o ⟨q1,q2,q3⟩=>⟨⟨q1,q2,fun i hi=>q3 i (by
     rcases hall i with e | ⟨ws,_,e⟩
     · exact (di S e).1 hi
     · unfold live at hi; rw [e] at hi; exact hi.elim)⟩,rfl⟩
    have dZ: ∀ v ∈ vs, ∀ j ∈ ak S v,env.bx j≠none:=fun v hv j hj=>by
     obtain ⟨x,hx,he⟩:=h2 v hv
     refine (bf h he).2 j ?_
     cases v <;> first | exact hj | simp [ak] at hj
    unfold Oper.wp
    have hrun:(execOp a.eval o).run P w= .ok (.value (.func (.func f) #[] (cs.map a.eval))) w:=by
     unfold execOp
     simp only [ho]
     simp [Instr.makeFunc]
    rw [hrun]
    refine hK _ w μ (hI.put hd (V:= .dQ f vs) ⟨_,rfl, ?_⟩ fun j hj=> ?_) ?_
    · have :=aF.step P S qb hc dZ h3
      simpa using this
    · simp only [ax,List.mem_flatMap] at hj
      obtain ⟨v,hv,hj⟩:=hj
      obtain ⟨B0,bp⟩:=Option.ne_none_iff_exists'.1 (dZ v hv j hj)
      obtain ⟨B',eJ,_⟩:=hc j B0 bp
      dsimp only
      rw [eJ]; simp
    · cases o.dst <;> simp [Act.put]
 · exact hl.elim
theorem Kx (h:Inv P S w0 M0 s0 dq env a w μ) (hd: ∀ d,o.dst=some d→d<a.tmps.size) {c:Call} (ho:o.op= .call c) {b:Builtin} (hc:c.callee= .builtin b) {args:List (Sy.V S.C)}
 (hargs:c.args.toList.mapM (aK S env.tm)=some args)
 (hl:(match args with
  | [v,w]=>match v.int?,w.int? with
   | some (k,x),some (k',y)=>if k=k' then match b with
    | .min=>ay S (.d (.int k) (Min.min (α:=Int) x y)) []
    | .max=>ay S (.d (.int k) (Max.max (α:=Int) x y)) []
    | _=>Tr.fail else Tr.fail
   | _,_=>Tr.fail
  | _=>Tr.fail).leaf (V,us)) (hK:Goal P S w0 M0 s0 dq env a o.dst V us K):o.wp P a w K Q:=by
 split at hl
 · rename_i v u
   obtain ⟨xs,xx,hxs,jU,hex⟩:=Aj hargs
   have har:c.args= #[xs,xx]:=by
    have :c.args=c.args.toList.toArray:=by simp
    rw [this,hxs]
   split at hl
   · rename_i k x k' y hv hu
     split at hl
     · rename_i hkk
       subst hkk
       have e1:=fQ (bf h jU).1 hv
       have e2:=fQ (bf h hex).1 hu
       split at hl
       · obtain ⟨rfl,rfl⟩:=bg hl
         refine wp_pure (V:= .d (.int k) (Min.min (α:=Int) x y)) h (v:= .int k (Min.min x y)) ?_ hd (fC ..) (by simp [ax,ak]) hK
         unfold execOp
         simp only [ho]
         simp [resolve,hc,har,e1,e2,invoke,builtin,Builtin.min_,Builtin.min2]
         split <;> first | omega | (simp; omega)
       · obtain ⟨rfl,rfl⟩:=bg hl
         refine wp_pure (V:= .d (.int k) (Max.max (α:=Int) x y)) h (v:= .int k (Max.max x y)) ?_ hd (fC ..) (by simp [ax,ak]) hK
         unfold execOp
         simp only [ho]
         simp [resolve,hc,har,e1,e2,invoke,builtin,Builtin.max_,Builtin.max2]
         split <;> first | omega | (simp; omega)
       · exact hl.elim
     · exact hl.elim
   · exact hl.elim
 · exact hl.elim
end
end Go.Sy
namespace Go.Sy
section
variable {P:Program} {S:aN} {af:Nat→Nat}
variable {w0:World} {M0 s0:St} {dq:List Deferred} {env:Env S.C} {a:Act} {w:World} {μ:Nat→Loc} {K:Act→World→Prop} {Q:Exit→Act→World→Prop} {o:Oper} {V:V S.C} {us:aG S.C}
theorem Al {s:St} {bx:Bx S.C} {e:Ty} (he:aZ e=false) {V:Sy.V S.C} {v:Value} {x:e.den S.C} (hv:bl P S w s μ bx V v) (hx:cq S (fun _=>none) e V=some x): ∃ n,az S w s n e x [v]:=by
 have hd: ∀ (u:Ty) (y:u.den S.C),bS S w s u y v→dw S u e y=some x→ ∃ n,az S w s n e x [v]:=by
  intro u y hr hc
  obtain ⟨rfl,rfl⟩:=c8 hc
  obtain ⟨h1,n,hn⟩:=hr
  rw [az.iq h1 he] at hn
  exact ⟨n,hn⟩
 cases V with
 | d u y=>exact hd u y hv hx
 | pr p i=>
  obtain ⟨rfl,rfl⟩:=c8 hx
  cases hv
  exact ⟨1,rfl⟩
 | aT b e l=>exact hd (.sl e) l hv.1 hx
 | b6=>
  cases e with
  | sl e=>
   cases hx
   cases hv
   exact ⟨1,none,0,rfl,Nat.le_refl _, .inl rfl⟩
  | _=>cases hx
 | _=>cases hx
theorem EI {s:St} {bx:Bx S.C} : ∀ (ts:List Ty) (hts:ts.all (fun t=> !aZ t)=true) {vs:List (Sy.V S.C)} {cs:List Value} {x:ag S.C ts},aF P S w s μ bx vs cs→eO S (fun _=>none) ts vs=some x→ ∃ n,bh S (fun t x cs=>az S w s n t x cs) ts x (cs.take ts.length)
 | [],_,_,cs,_,_,_=>⟨0,by simp [bh]⟩
 | t::ts,hts,[],_,_,_,hx=>by simp [eO] at hx
 | t::ts,hts,V::vs,cs,x,⟨c,r,hcs,hv,hr⟩,hx=>by
  simp only [List.all_cons,Bool.and_eq_true,Bool.not_eq_true'] at hts
  simp only [eO] at hx
  obtain ⟨y,hy,hx⟩:=Option.bind_eq_some_iff.1 hx
  obtain ⟨z,hz,hx⟩:=Option.bind_eq_some_iff.1 hx
  cases hx
  obtain ⟨n,hn⟩:=Al hts.1 hv hy
  obtain ⟨m,hm⟩:=EI ts hts.2 hr hz
  refine ⟨max n m,c,r.take ts.length,by simp [hcs], ?_, ?_⟩
  · rw [show ag.head (ag.cons y z)=y from by cases ts <;> rfl]
    exact hn.up S (by omega)
  · rw [show ag.tail (ag.cons y z)=z from by cases ts <;> rfl]
    exact bh.mono S (fun t x cs hr=>hr.up S (by omega)) _ _ _ hm
theorem A6 (hP:aO P S af) {s:St} {bx:Bx S.C} {u:Nat} {V:Sy.V S.C} {v:Value} {x:S.C u} (hv:RV P S w s μ bx V v) (hx:datum S (fun _=>none) (.st u) V=some x): ∃ cs n,v= .agg cs∧bh S (fun t x cs=>az S w s n t x cs) (S.F u) (S.ex u x) cs.toList:=by
 cases V with
 | agg u' vs=>
  simp only [datum] at hx
  split at hx
  · rename_i hu
    obtain ⟨cs,g1,g2,g3,g4⟩:=hv
    simp only [eY] at hx
    obtain ⟨y,hy,hx⟩:=Option.bind_eq_some_iff.1 hx
    cases hx
    obtain ⟨n,hn⟩:=EI (S.F u) (hP.flat u) g4 hy
    have hlen:=aF.length P S g4
    rw [List.take_of_length_le (by rw [hlen,g2,hu]; exact Nat.le_refl _)] at hn
    refine ⟨cs,n,g1, ?_⟩
    rw [hP.nw]
    exact hn
  · cases hx
 | d t y=>
  simp only [datum] at hx
  obtain ⟨rfl,h2⟩:=c8 hx
  cases h2
  obtain ⟨ha,n,hr⟩:=hv
  have : ∃ cs,v= .agg cs:=by
   cases v <;> first | exact ⟨_,rfl⟩ | (simp [Go.Sy.isAgg,aZ] at ha)
  obtain ⟨cs,rfl⟩:=this
  cases n with
  | zero=>exact hr.elim
  | succ n=>exact ⟨cs,n,rfl,hr⟩
 | _=>cases hx
theorem s_ {t:Ty} {ts:List Ty} (x y:ag S.C (t::ts)):fN S (t::ts) x y↔nv S t (ag.head x) (ag.head y)∧fN S ts (ag.tail x) (ag.tail y):=by
 cases ts with
 | nil=>exact ⟨fun h=>⟨h,trivial⟩,fun h=>h.1⟩
 | cons u ts=>exact Iff.rfl
theorem My (hP:aO P S af) {s:St} {n m:Nat} {t:Nat} {T:Ty} (h4:match T with | .int _=>True | .bool=>True | .str=>True | _=>False) (h3:S.ty t=some T) {x y:T.den S.C} {c c':Value} (e2:az S w s n T x [c]) (f2:az S w s m T y [c']) (d:Nat):
 ∃ b0,(Op.equalIn (d+1) t c c').run P w= .ok b0 w∧(b0=true↔nv S T x y):=by
 have hty:=(hP.ty t T h3).2
 cases n with
 | zero=>exact e2.elim
 | succ n=>
 cases m with
 | zero=>exact f2.elim
 | succ m=>
 cases T with
 | int k=>
  have e2: [c]= [Value.int k _]:=e2
  have f2: [c']= [Value.int k _]:=f2
  cases e2; cases f2
  exact ⟨_,run_equalIn_int w d t k k _ _ hty,by show _↔ @Eq Int _ _; exact beq_iff_eq⟩
 | bool=>
  have e2: [c]= [Value.bool _]:=e2
  have f2: [c']= [Value.bool _]:=f2
  cases e2; cases f2
  exact ⟨_,run_equalIn_bool' w d t _ _ hty,by show _↔ @Eq Bool _ _; exact beq_iff_eq⟩
 | str=>
  have e2: [c]= [Value.string ⟨List.toArray _⟩]:=e2
  have f2: [c']= [Value.string ⟨List.toArray _⟩]:=f2
  cases e2; cases f2
  exact ⟨_,run_equalIn_string w d t _ _ hty,by show _↔ @Eq (List UInt8) _ _; rw [ByteArray.toList_eq,ByteArray.toList_eq]; exact beq_iff_eq⟩
 | st u=>exact h4.elim
 | sl e=>exact h4.elim
 | pt=>exact h4.elim
theorem DJ (hP:aO P S af) {s:St} {d:Nat} {n m:Nat} : ∀ (fs:List Field) (ts:List Ty) (i:Nat) (xs ys:Array Value) (x y:ag S.C ts),oQ S fs ts i→
 bh S (fun t x cs=>az S w s n t x cs) ts x (xs.toList.drop i)→bh S (fun t x cs=>az S w s m t x cs) ts y (ys.toList.drop i)→ ∃ b,(Op.eqFields (d+1) xs ys fs).run P w= .ok b w∧(b=true↔fN S ts x y)
 | [],[],_,_,_,_,_,_,_,_=>⟨true,by simp [Op.eqFields],by simp [fN]⟩
 | [],_::_,_,_,_,_,_,h,_,_=>h.elim
 | _::_,[],_,_,_,_,_,h,_,_=>h.elim
 | fd::fs,T::ts,i,xs,ys,x,y,⟨h1,h2,h3,h4,h5⟩,⟨c,r,e1,e2,e3⟩,⟨c',r',f1,f2,f3⟩=>by
  have nx:xs.toList.drop (i+1)=r:=by rw [← List.drop_drop,e1]; rfl
  have ny:ys.toList.drop (i+1)=r':=by rw [← List.drop_drop,f1]; rfl
  obtain ⟨b,g1,g2⟩:=DJ hP (d:=d) fs ts (i+1) xs ys (ag.tail x) (ag.tail y) h5 (by rw [nx]; exact e3) (by rw [ny]; exact f3)
  have hsz:Ty.sz S T=1∧aZ T=false:=by cases T <;> first | exact ⟨rfl,rfl⟩ | exact h4.elim
  have I3:i<xs.size:=by
   have :=congrArg List.length e1
   simp at this; omega
  have I4:i<ys.size:=by
   have :=congrArg List.length f1
   simp at this; omega
  have hm: ∀ ds,dG T ds=ds.headD Go.undef:=by intro ds; cases T <;> first | rfl | exact h4.elim
  have px:=j9 hP h3 (cs:=xs) (off:=i) (by rw [hsz.1]; omega) w
  have py:=j9 hP h3 (cs:=ys) (off:=i) (by rw [hsz.1]; omega) w
  rw [hm,e1,hsz.1] at px
  rw [hm,f1,hsz.1] at py
  have px:(part fd.type xs i).run P w= .ok c w:=px
  have py:(part fd.type ys i).run P w= .ok c' w:=py
  have heq: ∃ b0,(Op.equalIn (d+1) fd.type c c').run P w= .ok b0 w∧(b0=true↔nv S T (ag.head x) (ag.head y)):=by
   have hty:=(hP.ty fd.type T h3).2
   cases n with
   | zero=>exact e2.elim
   | succ n=>
   cases m with
   | zero=>exact f2.elim
   | succ m=>
   cases T with
   | int k=>
    have e2: [c]= [Value.int k _]:=e2
    have f2: [c']= [Value.int k _]:=f2
    cases e2; cases f2
    exact ⟨_,run_equalIn_int w d fd.type k k _ _ hty,by show _↔ @Eq Int _ _; exact beq_iff_eq⟩
   | bool=>
    have e2: [c]= [Value.bool _]:=e2
    have f2: [c']= [Value.bool _]:=f2
    cases e2; cases f2
    exact ⟨_,run_equalIn_bool' w d fd.type _ _ hty,by show _↔ @Eq Bool _ _; exact beq_iff_eq⟩
   | str=>
    have e2: [c]= [Value.string ⟨List.toArray _⟩]:=e2
    have f2: [c']= [Value.string ⟨List.toArray _⟩]:=f2
    cases e2; cases f2
    exact ⟨_,run_equalIn_string w d fd.type _ _ hty,by show _↔ @Eq (List UInt8) _ _; rw [ByteArray.toList_eq,ByteArray.toList_eq]; exact beq_iff_eq⟩
   | st u=>exact h4.elim
   | sl e=>exact h4.elim
   | pt=>exact h4.elim
  obtain ⟨b0,k1,k2⟩:=heq
  rw [s_]
  simp only [Op.eqFields,h2,ne_eq,not_false_eq_true,if_true,h1,Sem.run_bind,px,py,k1,Result.andThen_ok]
  cases b0 with
  | true=>
   simp only [Bool.not_true,Bool.false_eq_true,if_false]
   exact ⟨b,g1,by rw [g2]; exact ⟨fun h=>⟨k2.1 rfl,h⟩,fun h=>h.2⟩⟩
  | false=>
   simp only [Bool.not_false,if_true,Sem.run_pure]
   exact ⟨false,rfl,fun h=>(by cases h),fun h=>(by have :=k2.2 h.1; cases this)⟩
def kn:(ts us:List Ty)→ag S.C (ts++us)→ag S.C ts
 | [],_,_=>()
 | _::ts,us,x=>ag.cons (ag.head x) (kn ts us (ag.tail x))
def rV:(ts us:List Ty)→ag S.C (ts++us)→ag S.C us
 | [],_,x=>x
 | _::ts,us,x=>rV ts us (ag.tail x)
theorem head_cons {t:Ty} {ts:List Ty} (x:t.den S.C) (r:ag S.C ts):ag.head (ag.cons x r)=x:=by cases ts <;> rfl
theorem tail_cons {t:Ty} {ts:List Ty} (x:t.den S.C) (r:ag S.C ts):ag.tail (ag.cons x r)=r:=by cases ts <;> rfl
theorem Bk: ∀ (ts us:List Ty) (x y:ag S.C (ts++us)),fN S (ts++us) x y↔fN S ts (kn ts us x) (kn ts us y)∧fN S us (rV ts us x) (rV ts us y)
 | [],us,x,y=>by
  show _↔True∧_
  rw [true_and]; rfl
 | t::ts,us,x,y=>by
  have h:=s_ (S:=S) (t:=t) (ts:=ts++us) x y
  have h2:=s_ (S:=S) (t:=t) (ts:=ts) (kn (t::ts) us x) (kn (t::ts) us y)
  show fN S (t::(ts++us)) x y↔_
  rw [h,h2,Bk ts us]
  simp only [kn,rV,head_cons,tail_cons]
  exact and_assoc.symm
theorem vz {R:(t:Ty)→t.den S.C→List Value→Prop} : ∀ (ts us:List Ty) (x:ag S.C (ts++us)) (cs:List Value),bh S R (ts++us) x cs→bh S R ts (kn ts us x) (cs.take ts.length)∧bh S R us (rV ts us x) (cs.drop ts.length)∧ts.length≤cs.length
 | [],us,x,cs,h=>⟨rfl,h,Nat.zero_le _⟩
 | t::ts,us,x,cs,⟨c,r,hc,h1,h2⟩=>by
  subst hc
  obtain ⟨a,b,l⟩:=vz ts us _ _ h2
  refine ⟨⟨c,r.take ts.length,rfl, ?_, ?_⟩,b,by simpa using l⟩
  · simp only [kn,head_cons]; exact h1
  · simp only [kn,tail_cons]; exact a
theorem zc (hP:aO P S af) {s:St} {d:Nat} {n m:Nat} : ∀ (fs:List Field) (ts:List Ty) (i:Nat) (xs ys:Array Value) (x y:ag S.C ts),oR P S fs ts i→
 bh S (fun t x cs=>az S w s n t x cs) ts x (xs.toList.drop i)→bh S (fun t x cs=>az S w s m t x cs) ts y (ys.toList.drop i)→ ∃ b,(Op.eqFields (d+3) xs ys fs).run P w= .ok b w∧(b=true↔fN S ts x y)
 | [],ts,_,_,_,_,_,h,_,_=>by
  have h:ts= []:=h
  subst h
  exact ⟨true,by simp [Op.eqFields],by simp [fN]⟩
 | fd::fs,ts,i,xs,ys,x,y,⟨h1,h2,h3⟩,hx,hy=>by
  have step: ∀ (b0 b:Bool) (c c':Value) (A B:Prop),(part fd.type xs i).run P w= .ok c w→(part fd.type ys i).run P w= .ok c' w→(Op.equalIn (d+3) fd.type c c').run P w= .ok b0 w→(b0=true↔A)→(Op.eqFields (d+3) xs ys fs).run P w= .ok b w→(b=true↔B)→
   ∃ b,(Op.eqFields (d+3) xs ys (fd::fs)).run P w= .ok b w∧(b=true↔A∧B):=by
   intro b0 b c c' A B px py k1 k2 g1 g2
   simp only [Op.eqFields,h2,ne_eq,not_false_eq_true,if_true,h1,Sem.run_bind,px,py,k1,Result.andThen_ok]
   cases b0 with
   | true=>
    simp only [Bool.not_true,Bool.false_eq_true,if_false]
    exact ⟨b,g1,by rw [g2]; exact ⟨fun h=>⟨k2.1 rfl,h⟩,fun h=>h.2⟩⟩
   | false=>
    simp only [Bool.not_false,if_true,Sem.run_pure]
    exact ⟨false,rfl,fun h=>(by cases h),fun h=>(by have :=k2.2 h.1; cases this)⟩
  rcases h3 with ⟨T,r,rfl,hty,hsc,h5⟩ | ⟨v,r,gs,rfl,hty,hu,hsi,hpos,hfl,h5⟩
  · obtain ⟨c,cr,e1,e2,e3⟩:=hx
    obtain ⟨c',GY,f1,f2,f3⟩:=hy
    have nx:xs.toList.drop (i+1)=cr:=by rw [← List.drop_drop,e1]; rfl
    have ny:ys.toList.drop (i+1)=GY:=by rw [← List.drop_drop,f1]; rfl
    obtain ⟨b,g1,g2⟩:=zc hP (d:=d) fs r (i+1) xs ys (ag.tail x) (ag.tail y) h5 (by rw [nx]; exact e3) (by rw [ny]; exact f3)
    have O5:oQ S [fd] [T] i:=⟨h1,h2,hty,hsc,trivial⟩
    have hsz:Ty.sz S T=1∧aZ T=false:=by cases T <;> first | exact ⟨rfl,rfl⟩ | exact hsc.elim
    have I3:i<xs.size:=by
     have :=congrArg List.length e1
     simp at this; omega
    have I4:i<ys.size:=by
     have :=congrArg List.length f1
     simp at this; omega
    have hm: ∀ ds,dG T ds=ds.headD Go.undef:=by intro ds; cases T <;> first | rfl | exact hsc.elim
    have px:=j9 hP hty (cs:=xs) (off:=i) (by rw [hsz.1]; omega) w
    have py:=j9 hP hty (cs:=ys) (off:=i) (by rw [hsz.1]; omega) w
    rw [hm,e1,hsz.1] at px
    rw [hm,f1,hsz.1] at py
    have px:(part fd.type xs i).run P w= .ok c w:=px
    have py:(part fd.type ys i).run P w= .ok c' w:=py
    obtain ⟨b0,k1,k2⟩:=My (w:=w) hP hsc hty e2 f2 (d+2)
    rw [s_]
    exact step b0 b c c' _ _ px py k1 k2 g1 g2
  · obtain ⟨x1,x2,lx⟩:=vz (S.F v) r x _ hx
    obtain ⟨y1,y2,ly⟩:=vz (S.F v) r y _ hy
    rw [List.drop_drop] at x2 y2
    obtain ⟨b,g1,g2⟩:=zc hP (d:=d) fs r (i+(S.F v).length) xs ys _ _ h5 x2 y2
    rw [List.length_drop] at lx ly
    have px:=j9 hP hty (cs:=xs) (off:=i) (by show i+(S.F v).length≤_; have :xs.toList.length=xs.size:=Array.length_toList; omega) w
    have py:=j9 hP hty (cs:=ys) (off:=i) (by show i+(S.F v).length≤_; have :ys.toList.length=ys.size:=Array.length_toList; omega) w
    have hfo:P.underlying fd.type=some (.struct (P.fieldsOf fd.type)):=by unfold Program.fieldsOf; rw [hu]
    have xo:P.fieldsOf fd.type=gs:=by unfold Program.fieldsOf; rw [hu]
    obtain ⟨b0,k1,k2⟩:=DJ hP (d:=d+1) gs.toList (S.F v) 0 ((xs.toList.drop i).take (S.F v).length).toArray ((ys.toList.drop i).take (S.F v).length).toArray _ _ hfl (by simpa using x1) (by simpa using y1)
    rw [Bk]
    refine step b0 b (.agg ((xs.toList.drop i).take (S.F v).length).toArray) (.agg ((ys.toList.drop i).take (S.F v).length).toArray) _ _ px py ?_ k2 g1 g2
    rw [run_equalIn_agg w (d+2) fd.type _ _ hfo hsi,xo]
    exact k1
theorem Nj (hP:aO P S af) (h:Inv P S w0 M0 s0 dq env a w μ) (hd: ∀ d,o.dst=some d→d<a.tmps.size) {op:BinOp} {t t':TypeId} {x y:Operand} (ho:o.op= .binOp op t x y t') (he:S.eq t=true)
 (hl:(match aK S env.tm x,aK S env.tm y with
  | some p,some q=>structEq S op t p q
  | _,_=> .fail).leaf (V,us)) (hK:Goal P S w0 M0 s0 dq env a o.dst V us K):o.wp P a w K Q:=by
 obtain ⟨u,ht,⟨fs,hu,hfl⟩,hsi,hgt⟩:=hP.eq t he
 have hfo:P.underlying t=some (.struct (P.fieldsOf t)):=by unfold Program.fieldsOf; rw [hu]
 have xo:P.fieldsOf t=fs:=by unfold Program.fieldsOf; rw [hu]
 split at hl
 · rename_i p q hx hy
   obtain ⟨hv1,_⟩:=bf h hx
   obtain ⟨eX,_⟩:=bf h hy
   unfold structEq at hl
   rw [ht] at hl
   dsimp only at hl
   split at hl
   · rename_i c d hc hd'
     obtain ⟨xs,n,e1,r1⟩:=A6 hP hv1 hc
     obtain ⟨ys,m,e2,r2⟩:=A6 hP eX hd'
     obtain ⟨b,g1,g2⟩:=zc hP (d:=9996) fs.toList (S.F u) 0 xs ys _ _ hfl (by simpa using r1) (by simpa using r2)
     have hrun:(Op.equalIn 10000 t (.agg xs) (.agg ys)).run P w= .ok b w:=by
      rw [run_equalIn_agg w 9999 t xs ys hfo hsi,xo]
      exact g1
     have fin: ∀ (z:Bool),(binOp op t (.agg xs) (.agg ys)).run P w= .ok (.bool z) w→RV P S w (aD S w0 M0 s0 env.bx μ w) μ env.bx V (.bool z)→ax S V= []→us= []→o.wp P a w K Q:=by
      rintro z hz hr hi rfl
      refine wp_pure h (v:= .bool z) ?_ hd hr (by simp [hi]) hK
      unfold execOp
      simp only [ho,e1,e2]
      simp [run_eqGuard_agg w op t x y xs ys hgt,hz]
     split at hl
     · obtain ⟨rfl,rfl⟩:=bg hl
       refine fin b (by rw [run_eql_struct,hrun]; rfl) ?_ rfl rfl
       show Value.bool b=Value.bool (@decide _ (pK S _ _ _))
       congr 1
       cases hb:b with
       | true=>exact (@decide_eq_true _ (_) (g2.1 hb)).symm
       | false=>exact (@decide_eq_false _ (_) (fun hq=>by rw [g2.2 hq] at hb; cases hb)).symm
     · obtain ⟨rfl,rfl⟩:=bg hl
       refine fin (!b) (by rw [run_neq_struct,hrun]; rfl) ?_ rfl rfl
       show Value.bool (!b)=Value.bool (@decide _ (@instDecidableNot _ (pK S _ _ _)))
       congr 1
       cases hb:b with
       | true=>exact (@decide_eq_false _ (_) (fun hq=>hq (g2.1 hb))).symm
       | false=>exact (@decide_eq_true _ (_) (fun hq=>by rw [g2.2 hq] at hb; cases hb)).symm
     · exact hl.elim
   · exact hl.elim
 · exact hl.elim
theorem uD {s:St} {bx:Bx S.C} {e:Ty} (he:aZ e=false): ∀ {vs:List (Sy.V S.C)} {cs:List Value} {l:List (e.den S.C)},aF P S w s μ bx vs cs→rowOf S e vs=some l→l.length=vs.length∧
 ∀ (j:Nat) (x:e.den S.C),l[j]? =some x→ ∃ c n,cs[j]? =some c∧az S w s n e x [c]
 | [],_,_,_,hl=>by
  cases hl
  exact ⟨rfl,fun j x h=>by simp at h⟩
 | v::vs,_,l,⟨c,r,rfl,h1,h2⟩,hl=>by
  simp only [rowOf] at hl
  obtain ⟨x,hx,hl⟩:=Option.bind_eq_some_iff.1 hl
  obtain ⟨l',hl',hl⟩:=Option.bind_eq_some_iff.1 hl
  cases hl
  obtain ⟨h3,h4⟩:=uD he h2 hl'
  refine ⟨by simp [h3],fun j y hj=> ?_⟩
  cases j with
  | zero=>
   simp at hj
   subst hj
   obtain ⟨n,hn⟩:=Al he h1 hx
   exact ⟨c,n,rfl,hn⟩
  | succ j=>
   obtain ⟨c',n,h5,h6⟩:=h4 j y (by simpa using hj)
   exact ⟨c',n,by simpa using h5,h6⟩
theorem vL (hP:aO P S af) {t n u:Nat} {e:Ty} (h:kD S t=some (n,e,u)): ∃ te,S.ty t=some (.st u)∧P.underlying t=some (.array n te)∧S.ty te=some e∧Ty.sz S e=1∧aZ e=false∧S.F u=List.replicate n e:=by
 unfold kD at h
 cases ha:S.ar t with
 | none=>rw [ha] at h; cases h
 | some p=>
  obtain ⟨n',e'⟩:=p
  rw [ha] at h
  dsimp only at h
  split at h
  · cases h
  · rename_i u' Ja hu
    cases h
    obtain ⟨_,_,h3⟩:=hP.ty t _ hu
    rw [ha] at h3
    obtain ⟨te,h4,h5,h6,_⟩:=h3
    rcases h6 with ⟨h6,h7,h8⟩ | ⟨w,rfl,_⟩
    · exact ⟨te,hu,h4,h5,h6,h7,h8⟩
    · exact absurd rfl (Ja w)
  · cases h
theorem F4 (hP:aO P S af) {t n m u:Nat} (h:sI S t=some (n,m,u)): ∃ te,S.ty t=some (.st u)∧P.underlying t=some (.array n te)∧S.ty te=some (.st m):=by
 unfold sI at h
 cases ha:S.ar t with
 | none=>rw [ha] at h; cases h
 | some p=>
  obtain ⟨n',e'⟩:=p
  rw [ha] at h
  dsimp only at h
  split at h
  · rename_i w u' hu
    cases h
    obtain ⟨_,_,h3⟩:=hP.ty t _ hu
    rw [ha] at h3
    obtain ⟨te,h4,h5,_⟩:=h3
    exact ⟨te,hu,h4,h5⟩
  · cases h
theorem MC (hP:aO P S af) {t n te:Nat} {e:Ty} (hu:P.underlying t=some (.array n te)) (he:S.ty te=some e) (h1:Ty.sz S e=1) {b o':Nat} {k:IntKind} {i:Int} (h0:0≤i) (hi:i<(n:Int)) (w:World):
 (Instr.indexAt t (.pointer (some ⟨b,o',none⟩)) (.int k i)).run P w= .ok (.pointer (some ⟨b,o'+i.toNat,none⟩)) w:=by
 simp [Instr.indexAt,asIntOf,run_underlying hu,h0,hi,hP.size he w,Addr.add_mid,h1,Instr.sureAddr]
theorem MA (hP:aO P S af) {t n te:Nat} {e:Ty} (hu:P.underlying t=some (.array n te)) (he:S.ty te=some e) (h1:Ty.sz S e=1) (hst:aZ e=false) {cs:Array Value} {c:Value} {k:IntKind} {i:Int} (h0:0≤i) (hi:i<(n:Int)) (hc:cs.toList[i.toNat]? =some c) (w:World):
 (Instr.index t (.agg cs) (.int k i)).run P w= .ok c w:=by
 have hlt:i.toNat<cs.size:=by
  have :=(List.getElem?_eq_some_iff.1 hc).1
  simpa using this
 have :=j9 hP he (cs:=cs) (off:=i.toNat) (by rw [h1]; omega) w
 rw [h1] at this
 simp only [Instr.index,asIntOf,Sem.run_bind,Sem.run_pure,Result.andThen_ok,run_underlying hu]
 simp only [h0,hi,and_self,if_true,Sem.run_bind,hP.size he w,Result.andThen_ok,h1,Nat.mul_one,this]
 congr 1
 have hm: ∀ ds,dG e ds=ds.headD Go.undef:=by intro ds; cases e <;> first | rfl | simp [aZ] at hst
 have lZ:cs.toList[i.toNat]=c:=by
  have :=(List.getElem?_eq_some_iff.1 hc).2
  exact this
 rw [hm,List.drop_eq_getElem_cons (by simpa using hlt),lZ]
 rfl
theorem OJ (h:Inv P S w0 M0 s0 dq env a w μ) {o:Oper} {K:Act→World→Prop} {Q:Exit→Act→World→Prop} {V:Sy.V S.C} {v:Value} {us:aG S.C}
 (hrun:(execOp a.eval o).run P w= .ok (.value v) w) (hd: ∀ d,o.dst=some d→d<a.tmps.size) (hk: ∀ i,ai env.bx us i=env.bx i∨ ∃ ws,env.bx i=some (.cells ws)∧ai env.bx us i=some (.bw ws))
 (hv:Inv P S w0 M0 s0 dq { env with bx:=ai env.bx us } a w μ→RV P S w (aD S w0 M0 s0 (ai env.bx us) μ w) μ (ai env.bx us) V v) (hr: ∀ i ∈ ax S V,ai env.bx us i≠none)
 (hK: ∀ a' w' μ',Inv P S w0 M0 s0 dq (env.apply o.dst V us) a' w' μ'→a'.tmps.size=a.tmps.size→K a' w'):o.wp P a w K Q:=by
 unfold Oper.wp
 rw [hrun]
 have hI:=h.tf hk
 refine hK _ w μ (hI.put hd (hv hI) hr) ?_
 cases o.dst <;> simp [Act.put]
theorem F1 (hP:aO P S af) (h:Inv P S w0 M0 s0 dq env a w μ) (hd: ∀ d,o.dst=some d→d<a.tmps.size) {t:TypeId} {x i:Operand} {ids:List Nat} {n u:Nat} {e:Ty} (ho:o.op= .indexAddr t x i) (hte:kD S t=some (n,e,u))
 (hl:(match aK S env.tm x,aK S env.tm i with
  | some v,some w=>match w.int? with
   | some (_,j)=>vM S n e u (restrict S env.bx ids) j v
   | none=> .fail
  | _,_=> .fail).leaf (V,us)) (hK:Goal P S w0 M0 s0 dq env a o.dst V us K):o.wp P a w K Q:=by
 obtain ⟨te,ht,hu,he,h1,hst,hF⟩:=vL hP hte
 split at hl
 · rename_i v wv hx hi
   obtain ⟨hv,cH⟩:=bf h hx
   obtain ⟨jW,_⟩:=bf h hi
   split at hl
   · rename_i k j hn
     have hin:=fQ jW hn
     have run: ∀ (b off:Nat),a.eval x= .pointer (some ⟨b,off,none⟩)→0≤j→j<(n:Int)→(execOp a.eval o).run P w= .ok (.value (.pointer (some ⟨b,off+j.toNat,none⟩))) w:=by
      intro b off he' h0 hj
      unfold execOp
      simp only [ho,he',hin]
      simp [MC hP hu he h1 h0 hj]
     unfold vM at hl
     split at hl
     · rename_i b off
       have main: ∀ (vs:List (Sy.V S.C)),(env.bx b=some (.cells vs)∨env.bx b=some (.bw vs))→(match rowOf S e ((vs.drop off).take n) with
        | some l=> .gd (c_ j l.length) (ay S (.cG e (eI S e l j)) [(b, .bw vs)])
        | none=> .fail:Rt S).leaf (V,us)→o.wp P a w K Q:=by
        intro vs hb bQ
        clear hl
        split at bQ
        · rename_i l hrow
          obtain ⟨hg,rfl,rfl⟩:=dY bQ
          have g0:0≤j:=hg ⟨0≤j,inferInstance⟩ (by simp [c_,gd])
          have g1:j<(l.length:Int):=hg ⟨j<(l.length:Int),inferInstance⟩ (by simp [c_,gd])
          have hk: ∀ i,ai env.bx [(b,cP.bw vs)] i=env.bx i∨ ∃ ws,env.bx i=some (.cells ws)∧ai env.bx [(b,cP.bw vs)] i=some (.bw ws):=by
           intro i
           by_cases e':i=b
           · subst e'
             rcases hb with hb | hb
             · exact .inr ⟨vs,hb,aL ..⟩
             · exact .inl ((aL ..).trans hb.symm)
           · exact .inl (aX _ _ e')
          have hlen:l.length≤n∧l.length≤vs.length - off:=by
           have : ∀ (e:Ty) (vs:List (Sy.V S.C)) (l:List (e.den S.C)),rowOf S e vs=some l→l.length=vs.length:=by
            intro e vs
            induction vs with
            | nil=>intro l hl; cases hl; rfl
            | cons v vs ih=>
             intro l hl
             simp only [rowOf] at hl
             obtain ⟨x,hx,hl⟩:=Option.bind_eq_some_iff.1 hl
             obtain ⟨l',hl',hl⟩:=Option.bind_eq_some_iff.1 hl
             cases hl
             simp [ih l' hl']
           have :=this e _ l hrow
           rw [List.length_take,List.length_drop] at this
           omega
          have xH:a.eval x= .pointer (some ⟨(μ b).b,(μ b).o+off,none⟩):=hv
          refine OJ (V:= .cG e (eI S e l j)) h (run _ _ xH g0 (by omega)) hd hk (fun hI=> ?_) (by simp [ax,ak]) hK
          have gi:ai env.bx [(b,cP.bw vs)] b=some (.bw vs):=aL ..
          obtain ⟨_,cs,cz,cu⟩:=hI.bE b _ gi
          obtain ⟨_,fu⟩:=uD hst (aF.take P S n (aF.drop P S off cu)) hrow
          obtain ⟨c,m,hc,hr⟩:=fu j.toNat _ (nE g0 g1)
          refine ⟨(μ b).b,(μ b).o+off+j.toNat,[c],rfl,fun q u hq=> ?_,by rw [h1]; rfl,m,hr⟩
          cases q with
          | zero=>
           simp at hq
           subst hq
           rw [List.getElem?_take] at hc
           split at hc
           · rw [List.getElem?_drop] at hc
             have :=cz (off+j.toNat) c hc
             rw [Nat.add_zero,Nat.add_assoc]
             exact this
           · cases hc
          | succ q=>simp at hq
        · exact bQ.elim
       split at hl
       · rename_i vs hb; exact main vs (.inl (dA hb)) hl
       · rename_i vs hb; exact main vs (.inr (dA hb)) hl
       · exact hl.elim
     · rename_i t' y
       split at hl
       · rename_i y' hc
         obtain ⟨rfl,rfl⟩:=c8 hc
         split at hl
         · rename_i l hrow
           obtain ⟨hg,rfl,rfl⟩:=dY hl
           have g0:0≤j:=hg ⟨0≤j,inferInstance⟩ (by simp [c_,gd])
           have g1:j<(l.length:Int):=hg ⟨j<(l.length:Int),inferInstance⟩ (by simp [c_,gd])
           obtain ⟨b,o',ds,xH,cz,hlen,m,hr⟩:=hv
           obtain ⟨cu,_⟩:=ja (P:=P) hP.tocm μ env.bx hr
           obtain ⟨kK,fu⟩:=uD hst (aF.take P S n cu) hrow
           rw [List.length_take] at kK
           obtain ⟨c,m',hc,hr'⟩:=fu j.toNat _ (nE g0 g1)
           refine wp_pure (V:= .cG e (eI S e l j)) h (run _ _ xH g0 (by omega)) hd ⟨b,o'+j.toNat,[c],rfl,fun q u hq=> ?_,by rw [h1]; rfl,m',hr'⟩ (by simp [ax,ak]) hK
           cases q with
           | zero=>
            simp at hq
            subst hq
            rw [List.getElem?_take] at hc
            split at hc
            · have :=cz j.toNat c hc
              rw [Nat.add_zero]
              exact this
            · cases hc
           | succ q=>simp at hq
         · exact hl.elim
       · exact hl.elim
     · exact hl.elim
   · exact hl.elim
 · exact hl.elim
theorem Nh (hP:aO P S af) (h:Inv P S w0 M0 s0 dq env a w μ) (hd: ∀ d,o.dst=some d→d<a.tmps.size) {t:TypeId} {x y:Operand} {ids:List Nat} {n u:Nat} {e:Ty} (ho:o.op= .store t x y) (hte:kD S t=some (n,e,u))
 (dZ: ∀ V,aK S env.tm y=some V→ ∀ i ∈ ax S V,restrict S env.bx ids i=env.bx i)
 (hl:(match aK S env.tm x,aK S env.tm y with
  | some p,some v=>zA S u (restrict S env.bx ids) v p
  | _,_=> .fail).leaf (V,us)) (hK:Goal P S w0 M0 s0 dq env a o.dst V us K):o.wp P a w K Q:=by
 obtain ⟨te,ht,_⟩:=vL hP hte
 split at hl
 · rename_i p v hx hy
   unfold zA at hl
   split at hl
   · rename_i b off
     split at hl
     · rename_i vs hb
       cases hf:fits S (cellsOf S v) (Ty.sz S (.st u))&&Nat.ble (off+Ty.sz S (.st u)) vs.length with
       | false=>rw [hf] at hl; exact hl.elim
       | true=>
        rw [hf] at hl
        obtain ⟨rfl,rfl⟩:=bg hl
        refine Ec hP h hd (V:= .skip) (us:= [(b, .cells (setCells S vs off (cellsOf S v)))]) ho dZ ?_ fun a' w' μ' hI hsz=> ?_
        · rw [ht,hx,hy]
          simp only [rP]
          rw [hb]
          dsimp only
          rw [hf]
          rfl
        · have hfr:=hI.tf (aa:=ai env.bx [(b, .bw (setCells S vs off (cellsOf S v)))]) fun i=>by
           by_cases e':i=b
           · subst e'
             exact .inr ⟨_,aL ..,aL ..⟩
           · exact .inl ((aX _ _ e').trans (aX _ _ e').symm)
          exact hK a' w' μ' hfr hsz
     · exact hl.elim
   · exact hl.elim
 · exact hl.elim
theorem F3 (hP:aO P S af) (h:Inv P S w0 M0 s0 dq env a w μ) (hd: ∀ d,o.dst=some d→d<a.tmps.size) {t:TypeId} {x i:Operand} {n u:Nat} {e:Ty} (ho:o.op= .index t x i) (hte:kD S t=some (n,e,u))
 (hl:(match aK S env.tm x,aK S env.tm i with
  | some v,some w=>match w.int? with
   | some (_,j)=>vN S n e u j v
   | none=> .fail
  | _,_=> .fail).leaf (V,us)) (hK:Goal P S w0 M0 s0 dq env a o.dst V us K):o.wp P a w K Q:=by
 obtain ⟨te,ht,hu,he,h1,hst,hF⟩:=vL hP hte
 split at hl
 · rename_i v wv hx hi
   obtain ⟨hv,cH⟩:=bf h hx
   obtain ⟨jW,_⟩:=bf h hi
   split at hl
   · rename_i k j hn
     have hin:=fQ jW hn
     unfold vN at hl
     split at hl
     · rename_i vs hcells
       split at hl
       · rename_i l hrow
         obtain ⟨hg,rfl,rfl⟩:=dY hl
         have g0:0≤j:=hg ⟨0≤j,inferInstance⟩ (by simp [c_,gd])
         have g1:j<(l.length:Int):=hg ⟨j<(l.length:Int),inferInstance⟩ (by simp [c_,gd])
         have xC: ∃ cs,a.eval x= .agg cs∧aF P S w (aD S w0 M0 s0 env.bx μ w) μ env.bx vs cs.toList:=by
          unfold oZ at hcells
          split at hcells
          · rename_i u' vs'
            cases hb:Nat.beq u u' with
            | false=>rw [hb] at hcells; cases hcells
            | true=>
             rw [hb] at hcells
             cases hcells
             obtain ⟨cs,g1,g2,g3,g4⟩:=hv
             exact ⟨cs,g1,g4⟩
          · rename_i t' y
            obtain ⟨y',hc,hcells⟩:=Option.bind_eq_some_iff.1 hcells
            cases hcells
            obtain ⟨rfl,rfl⟩:=c8 hc
            obtain ⟨ha,m,hr⟩:=hv
            have : ∃ cs,a.eval x= .agg cs:=by
             cases e':a.eval x <;> rw [e'] at ha <;> first | exact ⟨_,rfl⟩ | (simp [Go.Sy.isAgg,aZ] at ha)
            obtain ⟨cs,hcs⟩:=this
            rw [hcs] at hr
            exact ⟨cs,hcs,(ja (P:=P) hP.tocm μ env.bx hr).1⟩
          · cases hcells
         obtain ⟨cs,hcs,cu⟩:=xC
         obtain ⟨kK,fu⟩:=uD hst (aF.take P S n cu) hrow
         rw [List.length_take] at kK
         obtain ⟨c,m',hc,hr'⟩:=fu j.toNat _ (nE g0 g1)
         have eK:cs.toList[j.toNat]? =some c:=by
          rw [List.getElem?_take] at hc
          split at hc
          · exact hc
          · cases hc
         refine wp_pure (V:= .d e (eI S e l j)) h (v:=c) ?_ hd ?_ (by simp [ax,ak]) hK
         · unfold execOp
           simp only [ho,hcs,hin]
           simp [MA hP hu he h1 hst g0 (by omega:j<(n:Int)) eK]
         · have :=tX hr'
           have hm: ∀ ds,dG e ds=ds.headD Go.undef:=by intro ds; cases e <;> first | rfl | simp [aZ] at hst
           rw [hm] at this
           exact this
       · exact hl.elim
     · exact hl.elim
   · exact hl.elim
 · exact hl.elim
theorem Ak {w k:Nat} {j:Int} {vs:List (Sy.V S.C)} : ∀ {i m:Nat},(sH S w k j vs i m).leaf (V,us)→ ∃ q,i≤q∧q<i+m∧j=(q:Int)∧V= .agg w ((vs.drop (q*k)).take k)∧us= []
 | _,0,h=>h.elim
 | i,m+1,h=>by
  rcases h with ⟨hj,h⟩ | ⟨_,h⟩
  · obtain ⟨rfl,rfl⟩:=bg h
    exact ⟨i,Nat.le_refl _,by omega,hj,rfl,rfl⟩
  · obtain ⟨q,h1,h2,h3⟩:=Ak h
    exact ⟨q,by omega,by omega,h3⟩
theorem MB (hP:aO P S af) {t n te m:Nat} (hu:P.underlying t=some (.array n te)) (he:S.ty te=some (.st m)) {cs:Array Value} {k:IntKind} {q:Nat} (hi:q<n) (hle:q*(S.F m).length+(S.F m).length≤cs.size) (w:World):
 (Instr.index t (.agg cs) (.int k (q:Int))).run P w= .ok (dG (.st m) ((cs.toList.drop (q*(S.F m).length)).take (S.F m).length)) w:=by
 have :=j9 hP he (cs:=cs) (off:=q*(S.F m).length) hle w
 have h0:(0:Int)≤(q:Int):=by omega
 have hi':(q:Int)<(n:Int):=by omega
 have hsz:Ty.sz S (.st m)=(S.F m).length:=rfl
 rw [hsz] at this
 simp only [Instr.index,asIntOf,Sem.run_bind,Sem.run_pure,Result.andThen_ok,run_underlying hu]
 simp only [h0,hi',and_self,if_true,Sem.run_bind,hP.size he w,Result.andThen_ok,hsz,Int.toNat_natCast,this]
theorem F2 (hP:aO P S af) (h:Inv P S w0 M0 s0 dq env a w μ) (hd: ∀ d,o.dst=some d→d<a.tmps.size) {t:TypeId} {x i:Operand} {n m u:Nat} (ho:o.op= .index t x i) (hte:sI S t=some (n,m,u))
 (hl:(match aK S env.tm x,aK S env.tm i with
  | some v,some w=>match oZ S u v,w.int? with
   | some vs,some (_,j)=>cond (Nat.beq vs.length (n*(S.F m).length)) (sH S m (S.F m).length j vs 0 n) .fail
   | _,_=> .fail
  | _,_=> .fail).leaf (V,us)) (hK:Goal P S w0 M0 s0 dq env a o.dst V us K):o.wp P a w K Q:=by
 obtain ⟨te,ht,hu,he⟩:=F4 hP hte
 split at hl
 · rename_i v wv hx hi
   obtain ⟨hv,cH⟩:=bf h hx
   obtain ⟨jW,_⟩:=bf h hi
   split at hl
   · rename_i vs k j hcells hn
     have hin:=fQ jW hn
     cases hb:Nat.beq vs.length (n*(S.F m).length) with
     | false=>rw [hb] at hl; exact hl.elim
     | true=>
      rw [hb,cond_true] at hl
      have hlen:=Nat.eq_of_beq_eq_true hb
      obtain ⟨q,_,hq,rfl,rfl,rfl⟩:=Ak hl
      have xC: ∃ cs:Array Value,a.eval x= .agg cs∧vs.all (br S)=true∧aF P S w (aD S w0 M0 s0 env.bx μ w) μ env.bx vs cs.toList∧ ∀ V ∈ vs, ∀ i ∈ ak S V,env.bx i≠none:=by
       unfold oZ at hcells
       split at hcells
       · rename_i u' vs'
         cases hb:Nat.beq u u' with
         | false=>rw [hb] at hcells; cases hcells
         | true=>
          rw [hb] at hcells
          cases hcells
          obtain ⟨cs,g1,g2,g3,g4⟩:=hv
          exact ⟨cs,g1,g3,g4,fun V hV i hi=>cH i (by simp only [ax,List.mem_flatMap]; exact ⟨V,hV,hi⟩)⟩
       · rename_i t' y
         obtain ⟨y',hc,hcells⟩:=Option.bind_eq_some_iff.1 hcells
         cases hcells
         obtain ⟨rfl,rfl⟩:=c8 hc
         obtain ⟨ha,r,hr⟩:=hv
         have : ∃ cs,a.eval x= .agg cs:=by
          cases e':a.eval x <;> rw [e'] at ha <;> first | exact ⟨_,rfl⟩ | (simp [Go.Sy.isAgg,aZ] at ha)
         obtain ⟨cs,hcs⟩:=this
         rw [hcs] at hr
         obtain ⟨x1,x2,x3⟩:=ja (P:=P) hP.tocm μ env.bx hr
         exact ⟨cs,hcs,x2,x1,fun V hV i hi=>by rw [x3 V hV] at hi; simp at hi⟩
       · cases hcells
      obtain ⟨cs,hcs,kL,cu,dZ⟩:=xC
      have hcl:cs.size=n*(S.F m).length:=by
       have :=aF.length P S cu
       rw [hlen] at this
       simpa using this
      have hle:q*(S.F m).length+(S.F m).length≤n*(S.F m).length:=by
       have :(q+1)*(S.F m).length≤n*(S.F m).length:=Nat.mul_le_mul_right _ (by omega)
       rw [Nat.add_mul,Nat.one_mul] at this
       exact this
      have hvl:((vs.drop (q*(S.F m).length)).take (S.F m).length).length=(S.F m).length:=by
       rw [List.length_take,List.length_drop]; omega
      refine wp_pure (V:= .agg m ((vs.drop (q*(S.F m).length)).take (S.F m).length)) h (v:= .agg ((cs.toList.drop (q*(S.F m).length)).take (S.F m).length).toArray) ?_ hd
       ⟨_,rfl,hvl, ?_,by rw [List.toList_toArray]; exact aF.take P S _ (aF.drop P S _ cu)⟩ (fun i hi=> ?_) hK
      · unfold execOp
        simp only [ho,hcs,hin]
        simp [MB hP hu he (cs:=cs) (k:=k) (by omega:q<n) (by omega),dG]
      · rw [List.all_eq_true] at kL ⊢
        exact fun V hV=>kL V (List.mem_of_mem_drop (List.mem_of_mem_take hV))
      · simp only [ax,List.mem_flatMap] at hi
        obtain ⟨V,hV,hi⟩:=hi
        exact dZ V (List.mem_of_mem_drop (List.mem_of_mem_take hV)) i hi
   · exact hl.elim
 · exact hl.elim
end
end Go.Sy
namespace Go.Sy
section
variable {P:Program} {S:aN} {af:Nat→Nat}
variable {w0:World} {M0 s0:St} {dq:List Deferred} {env:Env S.C} {a:Act} {w:World} {μ:Nat→Loc} {K:Act→World→Prop} {Q:Exit→Act→World→Prop} {o:Oper} {V:V S.C} {us:aG S.C}
theorem Kd {x y:Operand} {n:Nat} (h:tU x y=some n):x= .const (.int .i64 (n:Int))∧y= .const (.int .i64 (n:Int))∧n≤8:=by
 unfold tU at h
 split at h
 · rename_i p q
   cases hc:Nat.beq p q&&Nat.ble p 8 with
   | false=>rw [hc] at h; cases h
   | true=>
    rw [hc,cond_true] at h
    cases h
    rw [Bool.and_eq_true] at hc
    have e1:=Nat.eq_of_beq_eq_true hc.1
    subst e1
    exact ⟨rfl,rfl,Nat.le_of_ble_eq_true hc.2⟩
 · cases h
theorem z7 {s:St} {bx:Bx S.C} : ∀ (n:Nat) (cs:List Value),cs=List.replicate n (Value.slice none 0 0)→aF P S w s μ bx (List.replicate n (.b6:Sy.V S.C)) cs
 | 0,_,h=>h
 | n+1,_,h=>⟨.slice none 0 0,List.replicate n (.slice none 0 0),h,rfl,z7 n _ rfl⟩
theorem Kn (hP:aO P S af) (h:Inv P S w0 M0 s0 dq env a w μ) (hd: ∀ d,o.dst=some d→d<a.tmps.size) {vw:Bool} {B:Nat} {t:TypeId} {x y:Operand} (ho:o.op= .makeSlice t x y)
 (hnew: ∀ u ∈ us,B≤u.1→u.1<B+16→env.bx u.1=none)
 (hl:(match dD S t,aK S env.tm x,aK S env.tm y with
  | some e,some v,some w=>match cond (vw&&xU e&&Nat.ble (af t) 64) (tU x y) none with
   | some n=>ay S (.bV B n) [(B, .cells (List.replicate n .b6))]
   | none=>match v.int?,w.int? with
    | some (.i64,n),some (.i64,m)=>Tr.gd [gd (0≤n),gd (n≤m),gd (m*af t≤limit)] (ay S (.aH (B)) [(B, .arr e (List.replicate n.toNat (Ty.zero S e)))])
    | _,_=>Tr.fail
  | _,_,_=>Tr.fail).leaf (V,us)) (hK:Goal P S w0 M0 s0 dq env a o.dst V us K):o.wp P a w K Q:=by
 split at hl
 · rename_i e v u ht hx hy
   split at hl
   · rename_i n hn
     cases hc:(vw&&xU e&&Nat.ble (af t) 64) with
     | false=>rw [hc] at hn; cases hn
     | true=>
     rw [hc,cond_true] at hn
     simp only [Bool.and_eq_true] at hc
     obtain ⟨⟨_,ey⟩,nH⟩:=hc
     have nH:=Nat.le_of_ble_eq_true nH
     obtain ⟨hex,IC,Pe⟩:=Kd hn
     obtain ⟨rfl,rfl⟩:=bg hl
     obtain ⟨e1,rfl⟩: ∃ e1,e= .sl e1:=by
      cases e with
      | sl e1=>exact ⟨e1,rfl⟩
      | _=>cases ey
     have ht':=jQ ht
     obtain ⟨te,ie,z,hu,hte,hie,hby,eg,_⟩:=hP.sl ht'
     obtain ⟨⟨i,z,h1,h2,h3,h4,h5⟩,_⟩:=hP.ty te _ hte
     rw [hie] at h1
     cases h1
     have hz:z.cells.toList= [.slice none 0 0]:=h5
     have hsz:ie.size=1:=h2
     have O7:(n:Int)*af t≤512:=by
      have q1:(af t:Int)≤64:=by omega
      have q2:(n:Int)≤8:=by omega
      exact Int.le_trans (Int.mul_le_mul q2 q1 (by omega) (by omega)) (by decide)
     have hrun:=run_make (P:=P) w t te ie z hu hie h3 .i64 .i64 n n (by omega) (Int.le_refl _) (by rw [hby,Int.mul_comm]; omega) (by omega)
     have hB:=hnew _ (List.mem_singleton.2 rfl) (Nat.le_refl _) (by show B<B+16; omega)
     have hcells:(madeCells z.cells (n*1)).toList=List.replicate n (Value.slice none 0 0):=by
      have hzs:z.cells= #[.slice none 0 0]:=by
       have :z.cells=z.cells.toList.toArray:=by simp
       rw [this,hz]
      rw [hzs,Nat.mul_one]
      unfold madeCells
      apply List.ext_getElem
      · simp
      · intro j Pa hj2
        simp [Nat.mod_one]
     have nt:=kQ (w:=w) (cs:=madeCells z.cells (n*1)) (t:=te)
     rw [size_madeCells,Nat.mul_one] at nt
     refine lB (i:=B) (B:= .cells (List.replicate n .b6)) (V:= .bV B n) (v:= .slice (some ⟨w.heap.size,0,none⟩) n n) (L:=⟨w.heap.size,0,n,0,false⟩) (w':=w.alloc (.cells (madeCells z.cells (n*1)) te)) h ?_ hd (aW.alloc w _ _) hB (fun b o' hf=>Nat.le_of_eq hf.1.symm)
      (fun hl _ h3=>⟨⟨?_, ?_, ?_,_, ?_,z7 n _ hcells⟩, ?_⟩) (fun vs hvs v hv j hj=> ?_) (fun j hj=> .inl (by simpa [ax,ak] using hj)) hK
     · unfold execOp
       simp only [ho,hex,IC]
       have :(Instr.makeSlice t (.int .i64 (n:Int)) (.int .i64 (n:Int))).run P w= .ok (.slice (some ⟨w.heap.size,0,none⟩) n n) (w.alloc (.cells (madeCells z.cells (n*1)) te)):=by
        rw [hrun,hsz]; rfl
       simp [this,Act.eval]
     · rw [List.all_eq_true]
       intro v hv
       rw [List.eq_of_mem_replicate hv]; rfl
     · simp
     · simpa using nt.1
     · simpa using nt.2
     · show Value.slice _ n n= .slice (some ⟨(ah μ B _ B).b,(ah μ B _ B).o,none⟩) n n
       rw [aL]
     · have :v= .b6:=by
        rcases hvs with hvs | hvs
        · cases hvs; exact List.eq_of_mem_replicate hv
        · cases hvs
       rw [this] at hj
       simp [ak] at hj
   · exact Kp hP h hd ho hnew (by rw [ht,hx,hy]; exact hl) hK
 · exact hl.elim
theorem EG {e:Ty} : ∀ {vs:List (Sy.V S.C)} {l:List (List (e.den S.C))},oC S e vs=some l→l.length=vs.length
 | [],l,h=>by cases h; rfl
 | v::vs,l,h=>by
  cases v with
  | aT b e' x=>
   simp only [oC] at h
   obtain ⟨y,hy,h⟩:=Option.bind_eq_some_iff.1 h
   obtain ⟨r,hr,h⟩:=Option.bind_eq_some_iff.1 h
   cases h
   show (y::r).length=_
   simp only [List.length_cons]
   exact congrArg (· +1) (EG hr)
  | _=>cases h
theorem EF {s:St} {bx:Bx S.C} {e:Ty} : ∀ {vs:List (Sy.V S.C)} {l:List (List (e.den S.C))} {cs:List Value},oC S e vs=some l→aF P S w s μ bx vs cs→ ∀ (i:Nat) (x:List (e.den S.C)),l[i]? =some x→ ∃ c,cs[i]? =some c∧bS S w s (.sl e) x c
 | [],l,cs,h,_,i,x,hx=>by cases h; simp at hx
 | v::vs,l,cs,h,⟨c,r,hc,h1,h2⟩,i,x,hx=>by
  cases v with
  | aT b e' y=>
   simp only [oC] at h
   obtain ⟨z,hz,h⟩:=Option.bind_eq_some_iff.1 h
   obtain ⟨q,hq,h⟩:=Option.bind_eq_some_iff.1 h
   cases h
   subst hc
   cases i with
   | zero=>
    have hx:some z=some x:=hx
    cases hx
    refine ⟨c,rfl, ?_⟩
    obtain ⟨he,hz⟩:=c8 hz
    cases he
    cases hz
    exact h1.1
   | succ i=>
    have hx:q[i]? =some x:=hx
    exact EF hq h2 i x hx
  | _=>cases h
theorem F5 {nl:Bool} (h:Inv P S w0 M0 s0 dq env a w μ) (hd: ∀ d,o.dst=some d→d<a.tmps.size) {x:Operand} {B:Nat} {ids:List Nat} (ho:execOp a.eval o=pure (.value (a.eval x)))
 (hnew: ∀ u ∈ us,B≤u.1→u.1<B+16→env.bx u.1=none)
 (hl:(match aK S env.tm x with
  | some .b6=>cond nl (ay S .b6 []) (match dD S o.type with
   | some e=>ay S (.aT B e []) [(B, .tail)]
   | none=> .fail)
  | some (.bV b n)=>settle S (dD S o.type) (restrict S env.bx ids) b n
  | some v=>ay S v []
  | none=> .fail).leaf (V,us)) (hK:Goal P S w0 M0 s0 dq env a o.dst V us K):o.wp P a w K Q:=by
 have hrun:(execOp a.eval o).run P w= .ok (.value (a.eval x)) w:=by rw [ho]; rfl
 split at hl
 · rename_i hx
   exact yg (nl:=nl) h hd (x:=x) (B:=B) ho hnew (by rw [hx]; exact hl) hK
 · rename_i b n hx
   obtain ⟨hv,hr⟩:=bf h hx
   unfold settle at hl
   split at hl
   · rename_i vs hb
     have hb:=dA hb
     split at hl
     · obtain ⟨rfl,rfl⟩:=bg hl
       exact wp_pure h hrun hd hv hr hK
     · split at hl
       · rename_i e he
         split at hl
         · rename_i l hlr
           cases hn:Nat.beq n vs.length with
           | false=>rw [hn] at hl; exact hl.elim
           | true=>
            rw [hn,cond_true] at hl
            have hn:=Nat.eq_of_beq_eq_true hn
            obtain ⟨rfl,rfl⟩:=bg hl
            have hall: ∀ i,ai env.bx [(b,cP.bw vs)] i=env.bx i∨ ∃ ws,env.bx i=some (.cells ws)∧ai env.bx [(b,cP.bw vs)] i=some (.bw ws):=fun i=>by
             by_cases e:i=b
             · subst e; exact .inr ⟨vs,hb,aL _ _ _⟩
             · exact .inl (aX _ _ e)
            have hI:=h.tf hall
            obtain ⟨_,cs,cz,cu⟩:=hI.bE b (.bw vs) (aL _ _ _)
            have kK:=EG hlr
            have hv:a.eval x= .slice (some ⟨(μ b).b,(μ b).o,none⟩) n n:=hv
            unfold Oper.wp
            rw [hrun]
            refine hK _ w μ (hI.put hd (V:= .d (.sl (.sl e)) l) ?_ (by simp [ax,ak])) ?_
            · rw [hv,hn, ← kK]
              refine zx (Nat.le_refl _) fun i y hy=> ?_
              obtain ⟨c,hc,ha,m,hm⟩:=EF hlr cu i y hy
              refine ⟨[c],rfl,fun j u hj=> ?_,m, ?_⟩
              · cases j with
                | zero=>
                 simp at hj
                 subst hj
                 have :=cz i c hc
                 rw [show i*Ty.sz S (.sl e)=i from Nat.mul_one i]
                 exact this
                | succ j=>simp at hj
              · rwa [az.iq ha rfl] at hm
            · cases o.dst <;> simp [Act.put]
         · exact hl.elim
       · exact hl.elim
   · exact hl.elim
 · rename_i v I9 Pf hx
   refine yg (nl:=nl) h hd (x:=x) (B:=B) ho hnew ?_ hK
   rw [hx]
   cases v with
   | b6=>exact absurd rfl I9
   | _=>exact hl
 · exact hl.elim
theorem Hh (hP:aO P S af) (h:Inv P S w0 M0 s0 dq env a w μ) (hd: ∀ d,o.dst=some d→d<a.tmps.size) {op:BinOp} {t t':TypeId} {x:Operand} (ho:o.op= .binOp op t x (.const .nilIface) t')
 (hl:(match aK S env.tm x with
  | some (.err b)=>cond (S.kN t) (match op with
   | .eql=>ay S (.d .bool b) []
   | .neq=>ay S (.d .bool (Bool.not b)) []
   | _=> .fail) .fail
  | _=> .fail).leaf (V,us)) (hK:Goal P S w0 M0 s0 dq env a o.dst V us K):o.wp P a w K Q:=by
 split at hl
 · rename_i b hx
   obtain ⟨hv,_⟩:=bf h hx
   have hv:oS b (a.eval x):=hv
   cases hi:S.kN t with
   | false=>rw [hi] at hl; exact hl.elim
   | true=>
    rw [hi,cond_true] at hl
    obtain ⟨ms,hu⟩:=hP.kN t hi
    have hif:P.isIface t=true:=by unfold Program.isIface; rw [hu]
    have hg:(eqGuard op t x (.const .nilIface) (a.eval x) .nilIface).run P w= .ok () w:=by
     cases b with
     | true=>
      have hv:a.eval x= .nilIface:=hv
      rw [hv,eqGuard_nil_constR]; rfl
     | false=>
      obtain ⟨u,p,hv⟩:=hv
      rw [hv]
      exact wD rfl w
    have fin: ∀ r:Bool,V= .d .bool r→us= []→(binOp op t (a.eval x) .nilIface).run P w= .ok (.bool r) w→o.wp P a w K Q:=by
     rintro r rfl rfl hr
     refine wp_pure h (V:= .d .bool r) (v:= .bool r) ?_ hd (jO ..) (by simp [ax,ak]) hK
     unfold execOp
     simp only [ho]
     have e:a.eval (.const .nilIface)= .nilIface:=rfl
     rw [e]
     simp [hg,hr]
    split at hl
    · obtain ⟨h1,h2⟩:=bg hl
      refine fin b h1 h2 ?_
      cases b with
      | true=>
       have hv:a.eval x= .nilIface:=hv
       rw [hv]; exact run_eql_nil_nil_at w t hif
      | false=>
       obtain ⟨u,p,hv⟩:=hv
       rw [hv]; exact run_eql_iface_nil w t hif u p
    · obtain ⟨h1,h2⟩:=bg hl
      refine fin (Bool.not b) h1 h2 ?_
      cases b with
      | true=>
       have hv:a.eval x= .nilIface:=hv
       rw [hv]; exact run_neq_nil_nil_at w t hif
      | false=>
       obtain ⟨u,p,hv⟩:=hv
       rw [hv]; exact run_neq_iface_nil w t hif u p
    · exact hl.elim
 · exact hl.elim
theorem yo {T:eH S} {B:Nat} {op:BinOp} {t t' ty:TypeId} {x y:Operand} {tm:Nat→Sy.V S.C} {bx:Bx S.C} (hy:y≠ .const .nilIface):
 b_ S T af B (.binOp op t x y t') ty tm bx=cond (S.eq t) (match aK S tm x,aK S tm y with
 | some a,some b=>structEq S op t a b
 | _,_=> .fail) (match aK S tm x,aK S tm y with
 | some a,some b=>match sJ S op t a b with
  | some (gs,v)=> .gd gs (ay S v [])
  | none=> .fail
 | _,_=> .fail):=by
 cases y with
 | const v=>cases v <;> first | rfl | exact absurd rfl hy
 | _=>rfl
end
end Go.Sy
namespace Go.Sy
section
variable {P:Program} {S:aN} {af:Nat→Nat}
variable {w0:World} {M0 s0:St} {dq:List Deferred} {env:Env S.C} {a:Act} {w:World} {μ:Nat→Loc} {K:Act→World→Prop} {Q:Exit→Act→World→Prop} {o:Oper} {V:V S.C} {us:aG S.C}
theorem JW {B:Nat} {fp:List Nat} {bx:Bx S.C} (h:jg S bx B fp us=true): ∀ u ∈ us,B≤u.1→u.1<B+16→bx u.1=none:=by
 intro u hu h1 h2
 have :=List.all_eq_true.1 h u hu
 rw [Bool.and_eq_true,show Nat.ble B u.1=true from Nat.ble_eq_true_of_le h1,show Nat.blt u.1 (B+16)=true from Nat.ble_eq_true_of_le h2] at this
 exact Option.isNone_iff_eq_none.1 (by simpa using this.2)
theorem nD {o:Op} {tm:Nat→Sy.V S.C} {x:Operand} (hx:x ∈ o.operands.toList) {V:Sy.V S.C} (hV:aK S tm x=some V) {i:Nat} (hi:i ∈ ax S V):
 i ∈ o.operands.toList.flatMap (nW S tm):=
 List.mem_flatMap.2 ⟨x,hx,by unfold nW; rw [hV]; exact hi⟩
theorem mC {bx:Bx S.C} {ids:List Nat} {i:Nat} (h:i ∈ ids):restrict S bx ids i=bx i:=by
 unfold restrict
 rw [List.contains_iff_mem.2 h]; rfl
theorem A9 {bx:Bx S.C} {ids more:List Nat} {V:Sy.V S.C} (h: ∀ i ∈ ax S V,i ∈ ids):fI S bx (restrict S bx (deep S bx ids++more)) V:=fun i hi=>
 ⟨mC (List.mem_append.2 (.inl (List.mem_append.2 (.inl (h i hi))))),fun vs hvs v hv j hj=>mC (List.mem_append.2 (.inl (List.mem_append.2 (.inr (List.mem_flatMap.2 ⟨i,h i hi,by
  rcases hvs with hvs | hvs <;> · rw [hvs]; exact List.mem_flatMap.2 ⟨v,hv,hj⟩⟩))))),
  fun j hj=>mC (List.mem_append.2 (.inl (List.mem_append.2 (.inr (List.mem_flatMap.2 ⟨i,h i hi,by rw [hj]; simp⟩)))))⟩
theorem KU (hP:aO P S af) {T:eH S} (hT: ∀ e ∈ T.es,kC P S w0 M0 e) (hF: ∀ e ∈ T.fs,eF P S e) (h:Inv P S w0 M0 s0 dq env a w μ) (hd: ∀ d,o.dst=some d→d<a.tmps.size) {B:Nat}
 (hl:(b_ S T af B o.op o.type env.tm (restrict S env.bx (aC S T.vw B o.op env.tm env.bx).1)).leaf (V,us)) (tG:jg S env.bx B (aC S T.vw B o.op env.tm env.bx).2 us=true)
 (hK:Goal P S w0 M0 s0 dq env a o.dst V us K):o.wp P a w K Q:=by
 have hnew:=JW tG
 clear tG
 cases ho:o.op with
 | move x=>rw [ho] at hl; exact yg h hd (x:=x) (by unfold execOp; simp only [ho]) hnew hl hK
 | assign x=>rw [ho] at hl; exact F5 h hd (x:=x) (by unfold execOp; simp only [ho]) hnew hl hK
 | pick c x y=>rw [ho] at hl; exact K6 h hd ho hl hK
 | alloc t=>rw [ho] at hl; exact FW hP h hd ho hnew hl hK
 | box t x=>rw [ho] at hl; exact Gf hP h hd ho hnew hl hK
 | build t ps=>rw [ho] at hl; exact Gh hP h hd ho hl hK
 | buildSlice t len ps=>
  rw [ho] at hl
  unfold b_ at hl
  dsimp only at hl
  split at hl
  rotate_left
  · exact hl.elim
  rename_i e het
  cases hv:(T.vw&&Nat.beq len 0) with
  | true=>
   rw [hv,cond_true] at hl
   have h0:=Nat.eq_of_beq_eq_true (Bool.and_eq_true_iff.1 hv).2
   subst h0
   exact G9 hP h hd ho het hnew hl hK
  | false=>
  rw [hv,cond_false] at hl
  refine Gg hP h hd ho (fun i x hm V hV j hj=> ?_) hnew (by rw [het]; exact hl) hK
  exact mC (List.mem_append.2 (.inl (nD (x:=x) (by simp only [Op.operands]; exact List.mem_map.2 ⟨(i,x),hm,rfl⟩) hV hj)))
 | load t x=>rw [ho] at hl; exact Kg hP h hd ho hl hK
 | store t x y=>
  rw [ho] at hl
  unfold b_ at hl
  dsimp only at hl
  split at hl
  · rename_i n e u hte
    refine Nh hP h hd ho hte (fun V hV j hj=> ?_) hl hK
    exact mC (List.mem_append.2 (.inl (nD (x:=y) (by simp [Op.operands]) hV hj)))
  · refine Ec hP h hd ho (fun V hV j hj=> ?_) hl hK
    exact mC (List.mem_append.2 (.inl (nD (x:=y) (by simp [Op.operands]) hV hj)))
 | nilCheck x=>rw [ho] at hl; exact KE h hd ho hl hK
 | binOp op t x y t'=>
  rw [ho] at hl
  by_cases hy:y= .const .nilIface
  · subst hy
    exact Hh hP h hd ho hl hK
  rw [yo hy] at hl
  cases he:S.eq t with
  | true=>rw [he,cond_true] at hl; exact Nj hP h hd ho he hl hK
  | false=>rw [he,cond_false] at hl; exact Ga hP h hd ho hl hK
 | unOp op t x=>rw [ho] at hl; exact OB h hd ho hl hK
 | convert s t x=>rw [ho] at hl; exact GX hP h hd ho hl hK
 | makeFunc fn first cs=>
  rw [ho] at hl
  cases fn with
  | func f=>
   obtain ⟨l⟩:=first
   cases l with
   | nil=>exact Ko h hd ho hl hK
   | cons x r=>exact hl.elim
  | _=>exact hl.elim
 | makeSlice t x y=>rw [ho] at hl; exact Kn hP h hd ho hnew hl hK
 | slice t x lo hi m=>
  rw [ho] at hl
  cases m with
  | none=>exact Na hP h hd ho hl hK
  | some m=>
   cases lo with
   | none=>exact hl.elim
   | some lo=>
    cases hi with
    | none=>exact hl.elim
    | some hi=>exact M_ hP h hd ho hl hK
 | fieldAddr t x f=>rw [ho] at hl; exact HA hP h hd ho hl hK
 | field t x f=>rw [ho] at hl; exact HB hP h hd ho hl hK
 | indexAddr t x i=>
  rw [ho] at hl
  unfold b_ at hl
  dsimp only at hl
  split at hl
  · rename_i n e u hte; exact F1 hP h hd ho hte hl hK
  · exact Jz hP h hd ho hl hK
 | index t x i=>
  rw [ho] at hl
  unfold b_ at hl
  dsimp only at hl
  split at hl
  · rename_i n e u hte; exact F3 hP h hd ho hte hl hK
  · split at hl
    · rename_i n m u hte; exact F2 hP h hd ho hte hl hK
    · exact JB hP h hd ho hl hK
 | extract x i=>rw [ho] at hl; exact Hw h hd ho hl hK
 | call c=>
  rw [ho] at hl
  unfold b_ at hl
  dsimp only at hl
  split at hl
  · exact hl.elim
  · rename_i args hargs
    obtain ⟨callee,o9,A3⟩:=c
    have hmem: ∀ V ∈ args, ∃ x ∈ o9.toList,aK S env.tm x=some V:=(sG h hargs).2
    cases callee with
    | builtin b=>
     cases b with
     | len=>exact JU hP h hd ho rfl hargs hl hK
     | append=>
      refine FY hP h hd ho rfl hargs (fun V hV j hj=> ?_) hnew hl hK
      obtain ⟨x,hx,he⟩:=hmem V hV
      exact mC (List.mem_append.2 (.inl (nD (x:=x) (by simp only [Op.operands,Call.operands]; simpa using hx) he hj)))
     | clear=>exact GP hP h hd ho rfl hargs hl hK
     | _=>exact Kx h hd ho rfl hargs hl hK
    | value f=>
     dsimp only at hl
     split at hl
     · rename_i Vf hf
       refine Gn hP hT hF h hd ho rfl hargs hf (fun V hV=> ?_) ?_ hnew hl hK
       · obtain ⟨x,hx,he⟩:=hmem V hV
         exact A9 fun i hi=>nD (x:=x) (by simp only [Op.operands,Call.operands]; simp; right; simpa using hx) he hi
       · exact A9 fun i hi=>nD (x:=f) (by simp only [Op.operands,Call.operands]; simp) hf hi
     · exact hl.elim
    | invoke r n=>exact hl.elim
 | _=>rw [ho] at hl; exact hl.elim
end
end Go.Sy
namespace Go.Sy
section
variable {P:Program} {S:aN} {af:Nat→Nat} {T:eH S}
variable {w0:World} {M0 s0:St} {dq:List Deferred} {env:Env S.C} {a:Act} {w:World} {μ:Nat→Loc}
theorem Eb {R:Type} {B:Nat} {dst:Option Nat} {o:Op} {ty:Nat} {k:Env S.C→Option R} {r:R} (h:zz S T af B dst o ty env k=some r):
 ∃ V us,(b_ S T af B o ty env.tm (restrict S env.bx (aC S T.vw B o env.tm env.bx).1)).leaf (V,us)∧jg S env.bx B (aC S T.vw B o env.tm env.bx).2 us=true∧k (env.apply dst V us)=some r:=by
 unfold zz at h
 obtain ⟨⟨V,us⟩,h1,h2⟩:=Tr.mF _ h
 dsimp only at h2
 cases hl:jg S env.bx B (aC S T.vw B o env.tm env.bx).2 us with
 | false=>rw [hl] at h2; cases h2
 | true=>rw [hl] at h2; exact ⟨V,us,h1,hl,h2⟩
def lI (V:Sy.V S.C) (x:Bool):Prop:=(V= .d .bool x)∨ ∃ p i,V= .pr p i∧ @decide p i=x
theorem lI.val {s:St} {bx:Bx S.C} {V:Sy.V S.C} {x:Bool} (h:lI V x) {v:Value} (hv:RV P S w s μ bx V v):v= .bool x:=by
 rcases h with rfl | ⟨p,i,rfl,rfl⟩
 · exact lK hv
 · exact hv
theorem zy {R:Type} {g:Bool} {dst:Option Nat} {k:Env S.C→Option R} {r:R} (h:splitK S g dst env k=some r):
 (g=false∧k env=some r)∨ ∃ t x,g=true∧dst=some t∧lI (env.tm t) x∧k { env with tm:=ah env.tm t (.d .bool x) } =some r:=by
 cases g with
 | false=>exact .inl ⟨rfl,h⟩
 | true=>
  right
  cases dst with
  | none=>cases h
  | some t=>
   simp only [splitK] at h
   split at h
   · rename_i x ht
     cases x with
     | true=>exact ⟨t,true,rfl,rfl, .inl ht,h⟩
     | false=>exact ⟨t,false,rfl,rfl, .inl ht,h⟩
   · rename_i p i ht
     by_cases hp:p
     · rw [if_pos hp] at h
       exact ⟨t,true,rfl,rfl, .inr ⟨p,i,ht,decide_eq_true hp⟩,h⟩
     · rw [if_neg hp] at h
       exact ⟨t,false,rfl,rfl, .inr ⟨p,i,ht,decide_eq_false hp⟩,h⟩
   · cases h
theorem Inv.y7 (h:Inv P S w0 M0 s0 dq env a w μ) {t:Nat} {x:Bool} (hk:lI (env.tm t) x):Inv P S w0 M0 s0 dq { env with tm:=ah env.tm t (.d .bool x) } a w μ:=by
 have hv:=hk.val (h.f_ t)
 refine ⟨fun u=> ?_,h.bE,h.cF,h.own,fun u i hi=> ?_,h.gN,h.eV,h.nu,h.lV⟩
 · by_cases e:u=t
   · subst e
     show RV P S w _ μ env.bx (ah env.tm u (.d .bool x) u) _
     rw [aL,hv]
     exact jO ..
   · show RV P S w _ μ env.bx (ah env.tm t (.d .bool x) u) _
     rw [aX _ _ e]
     exact h.f_ u
 · have hi':i ∈ ax S (ah env.tm t (.d .bool x) u):=hi
   by_cases e:u=t
   · subst e
     rw [aL] at hi'
     simp [ax,ak] at hi'
   · rw [aX _ _ e] at hi'
     exact h.ref u i hi'
theorem HM {a:Act} {t:Nat} {x:Bool} (h:a.tmps.getD t Go.undef= .bool x):a.tmps[t]? =some (.bool x):=by
 rw [Array.getD_eq_getD_getElem?] at h
 cases e:a.tmps[t]? with
 | none=>rw [e] at h; cases h
 | some v=>rw [e] at h; exact congrArg some h
theorem zR {ops:Array Oper} {o:Oper} {b:Bool} (h:Inv P S w0 M0 s0 dq env a w μ) (hw:jF S ops o env.tm=some b):Region.wanted o (yielded ops a.tmps)=b:=by
 unfold jF at hw
 unfold Region.wanted
 split at hw
 · rename_i hg
   rw [hg]
   exact Option.some.inj hw
 · rename_i j want hg
   rw [hg]
   dsimp only
   split at hw
   · cases hw
   · rename_i t ht
     unfold yielded
     rw [ht]
     simp only [Option.bind_some]
     split at hw
     · rename_i x hx
       have hv:=h.f_ t
       rw [hx] at hv
       rw [HM (lK hv)]
       cases hw
       cases x <;> cases want <;> rfl
     · rename_i hx
       have hv:=h.f_ t
       rw [hx] at hv
       have hv:a.tmps.getD t Go.undef=Go.undef:=hv
       cases hw
       rw [Array.getD_eq_getD_getElem?] at hv
       cases e:a.tmps[t]? with
       | none=>rfl
       | some v=>
        rw [e] at hv
        have hv:v=Go.undef:=hv
        rw [hv]
        rfl
     · cases hw
theorem Lc (a:Act) (dst:Option Nat) (v:Value):(a.put dst v).tmps.size=a.tmps.size:=by cases dst <;> simp [Act.put]
theorem Inv.skip (h:Inv P S w0 M0 s0 dq env a w μ) {dst:Option Nat} (hd: ∀ d,dst=some d→d<a.tmps.size):Inv P S w0 M0 s0 dq (env.apply dst .skip []) (a.put dst undef) w μ:=
 h.put hd (V:= .skip) (v:=undef) rfl (by simp [ax,ak])
theorem E3 {o:Oper} {K:Act→World→Prop} {Q:Exit→Act→World→Prop} (h:o.wp P a w K Q):o.wp P a w (fun a' w'=>K a' w'∧ ∃ v d,a'=({ a with defers:=d } :Act).put o.dst v) Q:=by
 unfold Oper.wp at *
 generalize (execOp a.eval o).run P w=r at *
 cases r with
 | ok n w'=>
  cases n <;> simp only [Oper.upon] at h ⊢ <;>
   first
    | exact ⟨h,_,_,rfl⟩
    | exact Calls.mono h (fun e w'' he=>by cases e <;> first | exact ⟨he,_,a.defers,rfl⟩ | exact he)
    | exact Rows.mono h (fun _ _ he=>⟨he,_,a.defers,rfl⟩)
 | halt x w'=>cases x <;> simp only [Oper.upon] at h ⊢ <;> exact h
theorem C2 (hP:aO P S af) (hT: ∀ e ∈ T.es,kC P S w0 M0 e) (hF: ∀ e ∈ T.fs,eF P S e) (h:Inv P S w0 M0 s0 dq env a w μ) {o:Oper} (hd: ∀ d,o.dst=some d→d<a.tmps.size) {B:Nat} {V:Sy.V S.C} {us:aG S.C} {K:Act→World→Prop} {Q:Exit→Act→World→Prop}
 (hl:(b_ S T af B o.op o.type env.tm (restrict S env.bx (aC S T.vw B o.op env.tm env.bx).1)).leaf (V,us)) (tG:jg S env.bx B (aC S T.vw B o.op env.tm env.bx).2 us=true)
 (hK: ∀ a' w' μ',Inv P S w0 M0 s0 dq (env.apply o.dst V us) a' w' μ'→(∃ v d,a'=({ a with defers:=d } :Act).put o.dst v)→K a' w'):o.wp P a w K Q:=
 Oper.wp_mono (fun a' w' ⟨⟨μ',hI⟩,hv⟩=>hK a' w' μ' hI hv) (E3 (KU hP hT hF h hd hl tG (K:=fun a' w'=> ∃ μ',Inv P S w0 M0 s0 dq (env.apply o.dst V us) a' w' μ') fun a' w' μ' hI _=>⟨μ',hI⟩))
structure sy (ops:Array Oper) (Z:Act→Prop):Prop where
 dst: ∀ a,Z a→ ∀ o ∈ ops.toList, ∀ d,o.dst=some d→d<a.tmps.size
 put: ∀ a,Z a→ ∀ o ∈ ops.toList, ∀ v d,Z (({ a with defers:=d } :Act).put o.dst v)
theorem FU {R:Type} {a b:Option R} {r:R} (h:agree a b=some r):a=some r∧b=some r:=by
 unfold agree at h
 split at h
 · rename_i e; exact ⟨h,e▸h⟩
 · cases h
theorem Mx (d:Nat) {t te:TypeId} (hu:P.underlying t=some (.slice te)) (a:Option Addr) (n c:Nat) (w:World):(Op.equalIn (d+1) t (.slice a n c) (.slice none 0 0)).run P w= .ok a.isNone w:=by
 unfold Op.equalIn
 cases a <;> simp [run_underlying hu]
theorem DN {t te:TypeId} (hu:P.underlying t=some (.slice te)) (a:Option Addr) (n c:Nat) (w:World):(Op.equal t (.slice a n c) (.slice none 0 0)).run P w= .ok a.isNone w:=Mx 9999 hu a n c w
theorem KF (hP:aO P S af) (h:Inv P S w0 M0 s0 dq env a w μ) {o:Oper} (hd: ∀ d,o.dst=some d→d<a.tmps.size) {m:Nat} {v:Bool} (hn:qG S o.op env.tm=some (m,v)) {Q:Exit→Act→World→Prop} :
 ∃ x:Bool,(x=v∨m=0)∧ ∀ K:Act→World→Prop,(∀ a' w' μ',Inv P S w0 M0 s0 dq (env.apply o.dst (.d .bool x) []) a' w' μ'→(∃ v d,a'=({ a with defers:=d } :Act).put o.dst v)→K a' w')→o.wp P a w K Q:=by
 unfold qG at hn
 split at hn
 · rename_i op t x ty ho
   split at hn
   · rename_i e het
     obtain ⟨te,_,_,hu,_⟩:=hP.sl (jQ het)
     split at hn
     · rename_i e' l hx
       obtain ⟨hv,_⟩:=bf h hx
       obtain ⟨ad,cap,e1,e2,e3⟩:=ic hv
       have go: ∀ (y:Bool),(binOp op t (.slice ad l.length cap) (.slice none 0 0)).run P w= .ok (.bool y) w→ ∀ K:Act→World→Prop,(∀ a' w' μ',Inv P S w0 M0 s0 dq (env.apply o.dst (.d .bool y) []) a' w' μ'→(∃ v d,a'=({ a with defers:=d } :Act).put o.dst v)→K a' w')→o.wp P a w K Q:=by
        intro y hrun K hK
        refine Oper.wp_mono (fun a' w' ⟨⟨μ',hI⟩,hv⟩=>hK a' w' μ' hI hv) (E3 (wp_pure (K:=fun a' w'=> ∃ μ',Inv P S w0 M0 s0 dq (env.apply o.dst (.d .bool y) []) a' w' μ') (V:= .d .bool y) (v:= .bool y) h ?_ hd (jO ..) (by simp [ax,ak]) fun a' w' μ' hI _=>⟨μ',hI⟩))
        unfold execOp
        simp only [ho,e1]
        have hg:(eqGuard op t x (.const (.slice none 0 0)) (.slice ad l.length cap) (.slice none 0 0)).run P w= .ok () w:=wD rfl w
        have hev:a.eval (.const (.slice none 0 0))= .slice none 0 0:=rfl
        simp [hg,hrun,hev]
       have hlen:ad=none→List.length l=0:=by
        intro h0
        rcases e3 with e3 | ⟨b,o',n',e3,_⟩
        · exact e3
        · rw [h0] at e3; cases e3
       split at hn <;> cases hn
       · refine ⟨ad.isNone, ?_,go _ (by simp [binOp,DN hu])⟩
         cases ad with
         | none=>exact .inr (hlen rfl)
         | some _=>exact .inl rfl
       · refine ⟨!ad.isNone, ?_,go _ (by simp [binOp,DN hu])⟩
         cases ad with
         | none=>exact .inr (hlen rfl)
         | some _=>exact .inl rfl
     · cases hn
   · cases hn
 · cases hn
def sx (T:eH S) (dq:List Deferred) (Z:Act→Prop):Prop:=
 ∀ f ops,T.dc=some (f,ops)→ ∀ a,Z a→dq= [⟨.fn (.func f) #[],(ops.map a.eval).toArray⟩]
theorem MQ (h:Inv P S w0 M0 s0 dq env a w μ) {x y:Operand} (hs:zm S env.tm x y=true):a.eval x=a.eval y:=by
 unfold zm at hs
 split at hs
 · rw [Bool.and_eq_true,decide_eq_true_eq,decide_eq_true_eq] at hs
   rw [hs.1,hs.2]
 · rename_i t u
   split at hs
   · rename_i b o b' o' h1 h2
     rw [Bool.and_eq_true] at hs
     have e1:=Nat.eq_of_beq_eq_true hs.1
     have e2:=Nat.eq_of_beq_eq_true hs.2
     have r1:=h.f_ t
     have r2:=h.f_ u
     rw [h1] at r1
     rw [h2] at r2
     have r1:a.tmps.getD t undef=_:=r1
     have r2:a.tmps.getD u undef=_:=r2
     show a.tmps.getD t undef=a.tmps.getD u undef
     rw [r1,r2,e1,e2]
   · cases hs
 · cases hs
theorem DZ (h:Inv P S w0 M0 s0 dq env a w μ): ∀ {xs ys:List Operand},vb S env.tm xs ys=true→xs.map a.eval=ys.map a.eval
 | [],[],_=>rfl
 | x::xs,y::ys,hs=>by
  simp only [vb,Bool.and_eq_true] at hs
  rw [List.map_cons,List.map_cons,MQ h hs.1,DZ h hs.2]
 | [],_::_,h=>by cases h
 | _::_,[],h=>by cases h
theorem G1 (h:Inv P S w0 M0 s0 dq env a w μ) {Z:Act→Prop} (hD:sx T dq Z) (hN:Z a) {o:Oper} (hd: ∀ d,o.dst=some d→d<a.tmps.size) (hi:tI o.op=true) (hdf:env.df=false) (hk:sW S env.tm T.dc o.op=true)
 {K:Act→World→Prop} {Q:Exit→Act→World→Prop} (hK: ∀ ds,Inv P S w0 M0 s0 dq { env.apply o.dst .skip [] with df:=true } (({ a with defers:=ds } :Act).put o.dst undef) w μ→K (({ a with defers:=ds } :Act).put o.dst undef) w):o.wp P a w K Q:=by
 cases ho:o.op <;> rw [ho] at hi <;> try (cases hi; done)
 rename_i c
 rw [ho] at hk
 obtain ⟨callee,args,tys⟩:=c
 cases callee with
 | builtin b=>cases hk
 | invoke r n=>cases hk
 | value fo=>
  cases fo with
  | func f=>
   unfold sW at hk
   cases hdc:T.dc with
   | none=>rw [hdc] at hk; cases hk
   | some p=>
    obtain ⟨g,ops⟩:=p
    rw [hdc] at hk
    dsimp only at hk
    rw [Bool.and_eq_true] at hk
    have hfg:=Nat.eq_of_beq_eq_true hk.1
    subst hfg
    have hq:=hD f ops hdc a hN
    have hargs:(ops.map a.eval).toArray=args.map a.eval:=by
     rw [← DZ h hk.2]
     apply Array.ext'
     simp
    have h0:a.defers= []:=by rw [h.nu,hdf]; rfl
    unfold Oper.wp
    have hrun:(execOp a.eval o).run P w= .ok (.defer ⟨.fn (.func f) #[],args.map a.eval⟩) w:=by
     unfold execOp
     simp only [ho]
     simp [resolve,Deferred.ofValue,Act.eval]
    rw [hrun]
    show K _ _
    refine hK _ ?_
    have hs:=h.skip hd
    refine ⟨?_,hs.bE,hs.cF,hs.own,hs.ref,hs.gN,hs.eV, ?_,hs.lV⟩
    · intro t
      have :=hs.f_ t
      cases B7:o.dst <;> rw [B7] at this <;> exact this
    · rw [hargs] at hq
      cases B7:o.dst <;> (show (_::a.defers)=dq; rw [h0,hq])
  | _=>cases hk
theorem mA (hP:aO P S af) (hT: ∀ e ∈ T.es,kC P S w0 M0 e) (hF: ∀ e ∈ T.fs,eF P S e) {R:Type} {cj:Nat} {ops:Array Oper} {cZ:Array Nat} {draw:Bool} {k:Env S.C→Option R} {r:R} {Z:Act→Prop} {Q:Exit→Act→World→Prop}
 (hZ:sy ops Z) (hD:sx T dq Z) (hQ: ∀ env' a' w' μ',k env'=some r→Inv P S w0 M0 s0 dq env' a' w' μ'→Z a'→Q .normal a' w'):
 ∀ (l:List Oper) (n:Nat) (cw:List (Nat×Option (List Nat×List Nat))) (env:Env S.C) (a:Act) (w:World) (μ:Nat→Loc),l=ops.toList.drop n→fU S T af cj ops draw cZ k l n cw env=some r→
 Inv P S w0 M0 s0 dq env a w μ→Z a→wpOps P ops Q (List.range' n l.length) a w
 | [],n,cw,env,a,w,μ,hl,hr,h,hN=>by
  simp only [fU] at hr
  cases hc:(!draw||(jM ops cZ cw&&rY ops)) with
  | false=>rw [hc] at hr; cases hr
  | true=>rw [hc] at hr; exact hQ env a w μ hr h hN
 | o::l,n,cw,env,a,w,μ,hl,hr,h,hN=>by
  have fu:ops[n]? =some o:=by
   have :=congrArg (·[0]?) hl
   simp at this
   simpa using this.symm
  have hmem:o ∈ ops.toList:=by
   have :o ∈ ops.toList.drop n:=by rw [← hl]; simp
   exact List.mem_of_mem_drop this
  have hd: ∀ d,o.dst=some d→d<a.tmps.size:=hZ.dst a hN o hmem
  have hl':l=ops.toList.drop (n+1):=by
   rw [← List.drop_drop, ← hl]; rfl
  rw [List.length_cons,List.range'_succ,wpOps_cons]
  unfold wpOp
  rw [fu]
  dsimp only
  simp only [fU] at hr
  cases hw:jF S ops o env.tm with
  | none=>rw [hw] at hr; cases hr
  | some b=>
   rw [hw] at hr
   rw [zR h hw]
   cases b with
   | false=>
    rw [if_neg (by simp)]
    exact mA hP hT hF hZ hD hQ l (n+1) _ _ _ w μ hl' hr (h.skip hd) (hZ.put a hN o hmem undef a.defers)
   | true=>
    rw [if_pos rfl]
    left
    dsimp only at hr
    cases hdf:tI o.op with
    | true=>
     rw [hdf] at hr
     dsimp only at hr
     cases hc:(draw||env.df|| !sW S env.tm T.dc o.op) with
     | true=>rw [hc] at hr; cases hr
     | false=>
      rw [hc,cond_false] at hr
      simp only [Bool.or_eq_false_iff,Bool.not_eq_false'] at hc
      exact G1 h hD hN hd hdf hc.1.2 hc.2 fun ds hI=>mA hP hT hF hZ hD hQ l (n+1) _ _ _ w μ hl' hr hI (hZ.put a hN o hmem undef ds)
    | false=>
    rw [hdf] at hr
    dsimp only at hr
    cases hn:qG S o.op env.tm with
    | some p=>
     obtain ⟨m,v⟩:=p
     rw [hn] at hr
     cases jT:draw with
     | true=>rw [jT] at hr; cases hr
     | false=>
     rw [jT] at hr
     simp only [cond_false] at hr
     obtain ⟨x,Jr,IJ⟩:=KF (Q:=Q) hP h hd hn
     have Ir:splitK S (qv ops n) o.dst (env.apply o.dst (.d .bool x) []) (fun e=>fU S T af cj ops false cZ k l (n+1) ((n,some ([],[]))::cw) e)=some r:=by
      by_cases hm:m=0
      · rw [if_pos hm] at hr
        obtain ⟨r1,r2⟩:=FU hr
        cases x <;> cases v <;> first | exact r1 | exact r2
      · rw [if_neg hm] at hr
        rcases Jr with rfl | h0
        · exact hr
        · exact absurd h0 hm
     refine IJ _ fun a' w' μ' hI ⟨v,d,hs⟩=> ?_
     rcases zy Ir with ⟨_,h4⟩ | ⟨t,y,_,_,hk,h4⟩
     · exact mA hP hT hF hZ hD hQ l (n+1) _ _ a' w' μ' hl' h4 hI (hs▸hZ.put a hN o hmem v d)
     · exact mA hP hT hF hZ hD hQ l (n+1) _ _ a' w' μ' hl' h4 (hI.y7 hk) (hs▸hZ.put a hN o hmem v d)
    | none=>
    rw [hn] at hr
    obtain ⟨V,us,h1,h2,h3⟩:=Eb hr
    refine C2 hP hT hF h hd h1 h2 fun a' w' μ' hI ⟨v,d,hs⟩=> ?_
    rcases zy h3 with ⟨_,h4⟩ | ⟨t,x,_,_,hk,h4⟩
    · exact mA hP hT hF hZ hD hQ l (n+1) _ _ a' w' μ' hl' h4 hI (hs▸hZ.put a hN o hmem v d)
    · exact mA hP hT hF hZ hD hQ l (n+1) _ _ a' w' μ' hl' h4 (hI.y7 hk) (hs▸hZ.put a hN o hmem v d)
end
end Go.Sy
namespace Go.Sy
theorem F8 (ops:List Oper): ∀ (acc:Array Nat), ∃ b:Array Nat,(ops.foldl (init:=acc) fun acc o=>acc.push (o.after.foldl (fun s e=>if Region.binds .any e then s ||| 2 ^ e.on ||| acc.getD e.on 0 else s) 0))=b∧
 (∀ j,j<acc.size→b.getD j 0=acc.getD j 0)∧b.size=acc.size+ops.length∧
 ∀ j o,ops[j]? =some o→ ∀ i,(b.getD (acc.size+j) 0).testBit i=true→ ∃ e ∈ o.after.toList,Region.binds .any e=true∧(e.on=i∨(e.on<acc.size+j∧(b.getD e.on 0).testBit i=true)):=by
 induction ops with
 | nil=>intro acc; exact ⟨acc,rfl,fun _ _=>rfl,rfl,fun j o h=>by simp at h⟩
 | cons o ops ih=>
  intro acc
  obtain ⟨b,h1,h2,h3,h4⟩:=ih (acc.push (o.after.foldl (fun s e=>if Region.binds .any e then s ||| 2 ^ e.on ||| acc.getD e.on 0 else s) 0))
  refine ⟨b,h1,fun j hj=> ?_,by rw [h3]; simp; omega,fun j o' hj i hi=> ?_⟩
  · rw [h2 j (by simp; omega)]
    simp only [Array.getD_eq_getD_getElem?]
    rw [Array.getElem?_push_lt hj]
    simp [hj]
  · cases j with
    | zero=>
     simp at hj
     subst hj
     rw [Nat.add_zero] at hi ⊢
     rw [h2 acc.size (by simp)] at hi
     simp only [Array.getD_eq_getD_getElem?,Array.getElem?_push_size,Option.getD_some] at hi
     rw [← Array.foldl_toList] at hi
     have : ∀ (l:List Edge) (s:Nat),(l.foldl (fun s e=>if Region.binds .any e then s ||| 2 ^ e.on ||| (acc[e.on]?.getD 0) else s) s).testBit i=true→s.testBit i=true∨ ∃ e ∈ l,Region.binds .any e=true∧(e.on=i∨(acc[e.on]?.getD 0).testBit i=true):=by
      intro l
      induction l with
      | nil=>intro s h; exact .inl h
      | cons e l ih2=>
       intro s h
       rcases ih2 _ h with h | ⟨e',he',h⟩
       · dsimp only at h
         by_cases hb:Region.binds .any e=true
         · rw [if_pos hb,Nat.testBit_or,Nat.testBit_or,Bool.or_eq_true,Bool.or_eq_true,Nat.testBit_two_pow] at h
           rcases h with (h | h) | h
           · exact .inl h
           · exact .inr ⟨e,by simp,hb, .inl (by simpa using h)⟩
           · exact .inr ⟨e,by simp,hb, .inr h⟩
         · rw [if_neg hb] at h; exact .inl h
       · exact .inr ⟨e',by simp [he'],h⟩
     rcases this _ _ hi with h | ⟨e,he,hb,h⟩
     · simp at h
     · refine ⟨e,he,hb,h.imp id fun h=> ?_⟩
       have hlt:e.on<acc.size:=by
        rcases Nat.lt_or_ge e.on acc.size with hlt | hge
        · exact hlt
        · rw [Array.getElem?_eq_none hge] at h; simp at h
       refine ⟨hlt, ?_⟩
       rw [h2 e.on (by simp; omega)]
       simp only [Array.getD_eq_getD_getElem?]
       rw [Array.getElem?_push_lt hlt]
       simpa [hlt] using h
    | succ j=>
     have hs:(acc.push (o.after.foldl (fun s e=>if Region.binds .any e then s ||| 2 ^ e.on ||| acc.getD e.on 0 else s) 0)).size+j=acc.size+(j+1):=by simp; omega
     have :=h4 j o' (by simpa using hj) i (by rw [hs]; exact hi)
     rw [hs] at this
     exact this
theorem Ao {ops:Array Oper} {j:Nat} {o:Oper} (hj:ops[j]? =some o) {i:Nat} (hi:((Region.before ops).getD j 0).testBit i=true):
 ∃ e ∈ o.after.toList,Region.binds .any e=true∧(e.on=i∨(e.on<j∧((Region.before ops).getD e.on 0).testBit i=true)):=by
 obtain ⟨b,h1,h2,h3,h4⟩:=F8 ops.toList #[]
 have hb:Region.before ops=b:=by
  rw [← h1]
  unfold Region.before
  rw [← Array.foldl_toList]
 rw [hb] at hi ⊢
 have :=h4 j o (by simpa using hj) i (by simpa using hi)
 simpa using this
def oO (ops:Array Oper) (D:Nat→Bool):Prop:= ∀ j o,D j=true→ops[j]? =some o→ ∀ e ∈ o.after.toList,Region.binds .any e=true→D e.on=true
theorem oO.before {ops:Array Oper} {D:Nat→Bool} (h:oO ops D) (hn: ∀ j,D j=true→j<ops.size): ∀ (j i:Nat),D j=true→((Region.before ops).getD j 0).testBit i=true→D i=true:=by
 intro j
 induction j using Nat.strongRecOn with
 | _ j ih=>
  intro i hj hi
  have hlt:=hn j hj
  obtain ⟨e,he,hb,h1⟩:=Ao (ops:=ops) (j:=j) (o:=ops[j]) (by simp [hlt]) hi
  have :=h j ops[j] hj (by simp [hlt]) e he hb
  rcases h1 with rfl | ⟨h1,h2⟩
  · exact this
  · exact ih e.on h1 i this h2
theorem Mj {ops:Array Oper} {D:Nat→Bool} (h:oO ops D) (hn: ∀ j,D j=true→j<ops.size) {j:Nat} {o:Oper} (hj:ops[j]? =some o) (hr: ∀ e ∈ o.after.toList,Region.binds .any e=true→D e.on=true) {i:Nat}
 (hi:((Region.before ops).getD j 0).testBit i=true):D i=true:=by
 obtain ⟨e,he,hb,h1⟩:=Ao hj hi
 rcases h1 with rfl | ⟨h1,h2⟩
 · exact hr e he hb
 · exact h.before hn e.on i (hr e he hb) h2
def cnt (D:Nat→Bool):Nat→Nat
 | 0=>0
 | n+1=>cnt D n+cond (D n) 0 1
theorem AU {D:Nat→Bool} {i:Nat} : ∀ {n:Nat},n≤i→cnt (ah D i true) n=cnt D n
 | 0,_=>rfl
 | n+1,h=>by
  simp only [cnt]
  rw [AU (by omega),aX _ _ (by omega)]
theorem AV {D:Nat→Bool} {i:Nat} (hi:D i=false): ∀ {n:Nat},i<n→cnt (ah D i true) n+1=cnt D n
 | 0,h=>by omega
 | n+1,h=>by
  simp only [cnt]
  by_cases e:i=n
  · subst e
    rw [AU (Nat.le_refl _),aL,hi]
    rfl
  · rw [aX _ _ (Ne.symm e)]
    have :=AV hi (n:=n) (by omega)
    omega
theorem AW {D:Nat→Bool} : ∀ {n:Nat},cnt D n=0→ ∀ i,i<n→D i=true
 | 0,_,i,h=>by omega
 | n+1,hc,i,h=>by
  simp only [cnt] at hc
  by_cases e:i=n
  · subst e
    cases hd:D i with
    | true=>rfl
    | false=>rw [hd] at hc; simp at hc
  · exact AW (D:=D) (n:=n) (by omega) i (by omega)
end Go.Sy
namespace Go.Sy
section
variable {P:Program} {S:aN} {af:Nat→Nat} {T:eH S}
theorem mapM_congr {α β:Type} {f g:α→Option β} : ∀ {l:List α},(∀ x ∈ l,f x=g x)→l.mapM f=l.mapM g
 | [],_=>rfl
 | x::l,h=>by
  rw [List.mapM_cons,List.mapM_cons,h x (by simp),mapM_congr fun y hy=>h y (by simp [hy])]
theorem KT {B:Nat} {o:Op} {ty:Nat} {tm iQ:Nat→V S.C} {bx:Bx S.C} (h: ∀ x ∈ o.operands.toList,aK S tm x=aK S iQ x):b_ S T af B o ty tm bx=b_ S T af B o ty iQ bx:=by
 have h1: ∀ x,o.operands.toList= [x]→aK S tm x=aK S iQ x:=fun x e=>h x (by rw [e]; simp)
 cases o with
 | move x=>simp only [b_,h1 x (by simp [Op.operands])]
 | assign x=>simp only [b_,h1 x (by simp [Op.operands])]
 | pick c x y=>simp only [b_,h c (by simp [Op.operands]),h x (by simp [Op.operands]),h y (by simp [Op.operands])]
 | alloc t=>rfl
 | box t x=>simp only [b_,h1 x (by simp [Op.operands])]
 | build t ps=>
  simp only [b_]
  rw [mapM_congr (l:=ps.toList) fun p hp=>by rw [h p.2 (by simp only [Op.operands]; exact List.mem_map.2 ⟨p,hp,rfl⟩)]]
 | buildSlice t len ps=>
  simp only [b_]
  rw [mapM_congr (l:=ps.toList) fun p hp=>by rw [h p.2 (by simp only [Op.operands]; exact List.mem_map.2 ⟨p,hp,rfl⟩)]]
 | load t x=>simp only [b_,h1 x (by simp [Op.operands])]
 | store t x y=>simp only [b_,h x (by simp [Op.operands]),h y (by simp [Op.operands])]
 | nilCheck x=>simp only [b_,h1 x (by simp [Op.operands])]
 | binOp op t x y t'=>
  have hx:=h x (by simp [Op.operands])
  have hy:=h y (by simp [Op.operands])
  by_cases e:y= .const .nilIface
  · subst e
    simp only [b_,hx]
  · rw [yo e,yo e,hx,hy]
 | unOp op t x=>simp only [b_,h1 x (by simp [Op.operands])]
 | convert s t x=>simp only [b_,h1 x (by simp [Op.operands])]
 | makeFunc fn first cs=>
  cases fn with
  | func f=>
   obtain ⟨l⟩:=first
   cases l with
   | nil=>
    simp only [b_]
    rw [mapM_congr (l:=cs.toList) fun x hx=>h x (by simpa [Op.operands] using hx)]
   | cons x r=>rfl
  | _=>rfl
 | makeSlice t x y=>simp only [b_,h x (by simp [Op.operands]),h y (by simp [Op.operands])]
 | slice t x lo hi m=>
  cases m with
  | some m=>
   cases lo with
   | none=>rfl
   | some lo=>
    cases hi with
    | none=>rfl
    | some hi=>simp only [b_,h x (by simp [Op.operands]),h lo (by simp [Op.operands]),h hi (by simp [Op.operands]),h m (by simp [Op.operands])]
  | none=>
   have e1:fR S tm lo=fR S iQ lo:=by
    cases lo with
    | none=>rfl
    | some y=>simp only [fR]; rw [h y (by simp [Op.operands])]
   have e2:fR S tm hi=fR S iQ hi:=by
    cases hi with
    | none=>rfl
    | some y=>simp only [fR]; rw [h y (by simp [Op.operands])]
   simp only [b_,h x (by simp [Op.operands]),e1,e2]
 | fieldAddr t x f=>simp only [b_,h1 x (by simp [Op.operands])]
 | field t x f=>simp only [b_,h1 x (by simp [Op.operands])]
 | indexAddr t x i=>simp only [b_,h x (by simp [Op.operands]),h i (by simp [Op.operands])]
 | index t x i=>simp only [b_,h x (by simp [Op.operands]),h i (by simp [Op.operands])]
 | extract x i=>simp only [b_,h1 x (by simp [Op.operands])]
 | call c=>
  obtain ⟨callee,o9,A3⟩:=c
  have ha:o9.toList.mapM (aK S tm)=o9.toList.mapM (aK S iQ):=mapM_congr fun x hx=>h x (by simp only [Op.operands,Call.operands]; simp; right; simpa using hx)
  unfold b_
  dsimp only
  rw [ha]
  cases callee with
  | builtin b=>cases b <;> rfl
  | value f=>
   dsimp only
   rw [h f (by simp [Op.operands,Call.operands])]
  | invoke r n=>rfl
 | _=>rfl
theorem wN {α β:Type} {f g:α→List β} : ∀ {l:List α},(∀ x ∈ l,f x=g x)→l.flatMap f=l.flatMap g
 | [],_=>rfl
 | x::l,h=>by rw [List.flatMap_cons,List.flatMap_cons,h x (by simp),wN fun y hy=>h y (by simp [hy])]
theorem G0 {bx aa:Bx S.C} {ids:List Nat} (h: ∀ i ∈ ids,aa i=bx i):deep S aa ids=deep S bx ids:=by
 unfold deep
 congr 1
 exact wN fun i hi=>by rw [h i hi]
theorem HG {B:Nat} {o:Op} {tm iQ:Nat→V S.C} {bx aa:Bx S.C} (h: ∀ x ∈ o.operands.toList,aK S iQ x=aK S tm x) (hb: ∀ i ∈ (aC S T.vw B o tm bx).1,aa i=bx i):aC S T.vw B o iQ aa=aC S T.vw B o tm bx:=by
 have hi:o.operands.toList.flatMap (nW S iQ)=o.operands.toList.flatMap (nW S tm):=
  wN fun x hx=>by unfold nW; rw [h x hx]
 have h1: ∀ x,o.operands.toList= [x]→aK S iQ x=aK S tm x:=fun x e=>h x (by rw [e]; simp)
 cases o with
 | move x=>simp only [aC,h1 x (by simp [Op.operands])]
 | assign x=>simp only [aC,h1 x (by simp [Op.operands])]
 | call c=>
  obtain ⟨callee,o9,A3⟩:=c
  cases callee with
  | builtin b=>
   cases b with
   | len=>simp only [aC]; rw [hi]
   | _=>simp only [aC]; rw [hi]
  | value f=>
   simp only [aC]
   rw [hi,G0 fun i hm=>hb i (by simp only [aC]; exact List.mem_append.2 (.inl (List.mem_append.2 (.inl hm))))]
  | invoke r n=>simp only [aC]; rw [hi]
 | _=>simp only [aC] <;> rw [hi]
structure cL (S:aN) where
 dst:Option Nat
 W:V S.C
 us:aG S.C
 fp:Option (List Nat×List Nat)
def cL.put (e:cL S) (env:Env S.C):Env S.C:=env.apply e.dst e.W e.us
def bA (D:Nat→Bool):List (cL S)→Nat→Env S.C→Env S.C
 | [],_,env=>env
 | e::es,n,env=>bA D es (n+1) (cond (D n) (e.put env) env)
def Spec (T:eH S) (af:Nat→Nat) (cj:Nat) (ops:Array Oper) (env:Env S.C) (n:Nat) (o:Oper) (e:cL S):Prop:=
 e.dst=o.dst∧((jF S ops o env.tm=some false∧e.W= .skip∧e.us= []∧e.fp=none)∨
  (jF S ops o env.tm=some true∧e.fp=some (aC S T.vw (ig cj n o.dst) o.op env.tm env.bx)∧jg S env.bx (ig cj n o.dst) (aC S T.vw (ig cj n o.dst) o.op env.tm env.bx).2 e.us=true∧
   ∃ V,(b_ S T af (ig cj n o.dst) o.op o.type env.tm (restrict S env.bx (aC S T.vw (ig cj n o.dst) o.op env.tm env.bx).1)).leaf (V,e.us)∧
    (e.W=V∨ ∃ t x,o.dst=some t∧lI V x∧e.W= .d .bool x)))
def mX (T:eH S) (af:Nat→Nat) (cj:Nat) (ops:Array Oper):List Oper→Nat→Env S.C→List (cL S)→Prop
 | [],_,_,es=>es= []
 | o::l,n,env,es=> ∃ e r,es=e::r∧Spec T af cj ops env n o e∧mX T af cj ops l (n+1) (e.put env) r
def pT:List (cL S)→Nat→List (Nat×Option (List Nat×List Nat))→List (Nat×Option (List Nat×List Nat))
 | [],_,cw=>cw
 | e::es,n,cw=>pT es (n+1) ((n,e.fp)::cw)
theorem Hf (es:List (cL S)) (n:Nat) (env:Env S.C): ∀ {D:Nat→Bool},(∀ i,n≤i→i<n+es.length→D i=true)→bA D es n env=es.foldl (fun env e=>e.put env) env:=by
 induction es generalizing n env with
 | nil=>intro D _; rfl
 | cons e es ih=>
  intro D h
  simp only [bA,List.foldl_cons]
  rw [h n (Nat.le_refl _) (by simp),cond_true]
  exact ih (n+1) _ fun i h1 h2=>h i (by omega) (by simp; omega)
theorem Bg (es:List (cL S)) (n:Nat) (env:Env S.C) {D:Nat→Bool} (h: ∀ i,n≤i→D i=false):bA D es n env=env:=by
 induction es generalizing n env with
 | nil=>rfl
 | cons e es ih=>
  simp only [bA]
  rw [h n (Nat.le_refl _),cond_false]
  exact ih (n+1) _ fun i hi=>h i (by omega)
theorem EX {α:Type} (f:Nat→α) (k:Nat) (v u:α):ah (ah f k v) k u=ah f k u:=by
 funext i
 by_cases e:i=k
 · subst e; rw [aL,aL]
 · rw [aX _ _ e,aX _ _ e,aX _ _ e]
theorem uB {R:Type} {cj:Nat} {ops:Array Oper} {cZ:Array Nat} {draw:Bool} {k:Env S.C→Option R} {r:R} :
 ∀ (l:List Oper) (n:Nat) (cw:List (Nat×Option (List Nat×List Nat))) (env:Env S.C),fU S T af cj ops draw cZ k l n cw env=some r→
 draw=true→ ∃ es,mX T af cj ops l n env es∧k (es.foldl (fun env e=>e.put env) env)=some r∧(draw=true→jM ops cZ (pT es n cw)=true∧rY ops=true)
 | [],n,cw,env,hr,jT=>by
  simp only [fU] at hr
  cases hc:(!draw||(jM ops cZ cw&&rY ops)) with
  | false=>rw [hc] at hr; cases hr
  | true=>
   rw [hc] at hr
   refine ⟨[],rfl,hr,fun hd=> ?_⟩
   rw [hd] at hc
   simpa [pT] using hc
 | o::l,n,cw,env,hr,jT=>by
  simp only [fU] at hr
  cases hw:jF S ops o env.tm with
  | none=>rw [hw] at hr; cases hr
  | some b=>
   rw [hw] at hr
   cases b with
   | false=>
    obtain ⟨es,h1,h2,h3⟩:=uB l (n+1) _ _ hr jT
    exact ⟨⟨o.dst, .skip,[],none⟩::es,⟨_,_,rfl,⟨rfl, .inl ⟨hw,rfl,rfl,rfl⟩⟩,h1⟩,h2,h3⟩
   | true=>
    dsimp only at hr
    cases hdf:tI o.op with
    | true=>rw [hdf,jT] at hr; cases hr
    | false=>
    rw [hdf] at hr
    dsimp only at hr
    cases hn:qG S o.op env.tm with
    | some p=>rw [hn,jT] at hr; cases hr
    | none=>
    rw [hn] at hr
    obtain ⟨V,us,h1,h2,h3⟩:=Eb hr
    rcases zy h3 with ⟨_,h4⟩ | ⟨t,x,_,ht,hk,h4⟩
    · obtain ⟨es,g1,g2,g3⟩:=uB l (n+1) _ _ h4 jT
      exact ⟨⟨o.dst,V,us,_⟩::es,⟨_,_,rfl,⟨rfl, .inr ⟨hw,rfl,h2,V,h1, .inl rfl⟩⟩,g1⟩,g2,g3⟩
    · have IQ:lI V x:=by
       have e:(env.apply o.dst V us).tm t=V:=by
        rw [ht]
        exact aL _ _ _
       rw [e] at hk
       exact hk
      have he:({ env.apply o.dst V us with tm:=ah (env.apply o.dst V us).tm t (.d .bool x) } :Env S.C)=cL.put ⟨o.dst, .d .bool x,us,some (aC S T.vw (ig cj n o.dst) o.op env.tm env.bx)⟩ env:=by
       simp only [cL.put,Env.apply,ht,ox]
       rw [EX]
      rw [he] at h4
      obtain ⟨es,g1,g2,g3⟩:=uB l (n+1) _ _ h4 jT
      exact ⟨_::es,⟨_,_,rfl,⟨rfl, .inr ⟨hw,rfl,h2,V,h1, .inr ⟨t,x,ht,IQ,rfl⟩⟩⟩,g1⟩,g2,g3⟩
theorem mX.at {cj:Nat} {ops:Array Oper} : ∀ {l:List Oper} {n:Nat} {env:Env S.C} {es:List (cL S)},mX T af cj ops l n env es→es.length=l.length∧ ∀ j o,l[j]? =some o→
 ∃ e,es[j]? =some e∧Spec T af cj ops (bA (fun i=>Nat.blt i (n+j)) es n env) (n+j) o e
 | [],n,env,es,h=>by cases h; exact ⟨rfl,fun j o hj=>by simp at hj⟩
 | o::l,n,env,es,⟨e,r,he,h1,h2⟩=>by
  subst he
  obtain ⟨h3,h4⟩:=mX.at h2
  refine ⟨by simp [h3],fun j o' hj=> ?_⟩
  cases j with
  | zero=>
   simp at hj
   subst hj
   refine ⟨e,rfl, ?_⟩
   rw [Bg _ _ _ fun i hi=> ?_]
   · exact h1
   · cases hb:Nat.blt i (n+0) with
     | false=>rfl
     | true=>have :=Nat.le_of_ble_eq_true hb; omega
  | succ j=>
   obtain ⟨e',h5,h6⟩:=h4 j o' (by simpa using hj)
   refine ⟨e',by simpa using h5, ?_⟩
   simp only [bA]
   rw [show Nat.blt n (n+(j+1))=true from Nat.ble_eq_true_of_le (by omega),cond_true,show n+(j+1)=n+1+j from by omega]
   exact h6
def vu (ops:Array Oper) (cZ:Array Nat) (i j:Nat) (fi fj:Option (List Nat×List Nat)):Prop:=
 (cZ.getD j 0).testBit i=true∨(Oper.apart ops (ops.getD i default) (ops.getD j default)=true∧ ∀ a b,fi=some a→fj=some b→meets a b=false)
theorem Ah {ops:Array Oper} {cZ:Array Nat} : ∀ (es:List (cL S)) (n:Nat) (cw:List (Nat×Option (List Nat×List Nat))),jM ops cZ (pT es n cw)=true→
 (∀ i j ei ej,i<j→es[i]? =some ei→es[j]? =some ej→vu ops cZ (n+i) (n+j) ei.fp ej.fp)∧(∀ p ∈ cw, ∀ j ej,es[j]? =some ej→vu ops cZ p.1 (n+j) p.2 ej.fp)∧jM ops cZ cw=true
 | [],n,cw,h=>⟨fun i j ei ej _ h1=>by simp at h1,fun p _ j ej h1=>by simp at h1,h⟩
 | e::es,n,cw,h=>by
  obtain ⟨h1,h2,h3⟩:=Ah es (n+1) ((n,e.fp)::cw) h
  simp only [jM,Bool.and_eq_true] at h3
  have h4: ∀ p ∈ cw,vu ops cZ p.1 n p.2 e.fp:=fun p hp=>by
   have :=List.all_eq_true.1 h3.2 p hp
   rw [Bool.or_eq_true,Bool.and_eq_true] at this
   refine this.imp id fun h=>⟨h.1,fun a b ha hb=> ?_⟩
   have h2:=h.2
   rw [ha,hb] at h2
   simpa using h2
  refine ⟨fun i j ei ej hij hi hj=> ?_,fun p hp j ej hj=> ?_,h3.1⟩
  · cases j with
    | zero=>omega
    | succ j=>
     rw [show n+(j+1)=n+1+j from by omega]
     cases i with
     | zero=>
      simp at hi
      subst hi
      exact h2 (n,e.fp) (by simp) j ej (by simpa using hj)
     | succ i=>
      rw [show n+(i+1)=n+1+i from by omega]
      exact h1 i j ei ej (by omega) (by simpa using hi) (by simpa using hj)
  · cases j with
    | zero=>
     simp at hj
     subst hj
     exact h4 p hp
    | succ j=>
     rw [show n+(j+1)=n+1+j from by omega]
     exact h2 p (by simp [hp]) j ej (by simpa using hj)
theorem nZ {e:cL S} {env:Env S.C} {t:Nat} (h:e.dst≠some t):(e.put env).tm t=env.tm t:=by
 unfold cL.put Env.apply ox
 cases hd:e.dst with
 | none=>rfl
 | some d=>exact aX _ _ fun he=>h (by rw [hd,he])
theorem n3 {e:cL S} {env:Env S.C} {t:Nat} (h:e.dst=some t):(e.put env).tm t=e.W:=by
 unfold cL.put Env.apply ox
 rw [h]
 exact aL _ _ _
theorem qJ {e:cL S} {env:Env S.C} {b:Nat} (h: ∀ u ∈ e.us,u.1≠b):(e.put env).bx b=env.bx b:=oF _ _ h
theorem Bh {D D':Nat→Bool} {t:Nat} : ∀ {es:List (cL S)} {n:Nat} {env env':Env S.C},env.tm t=env'.tm t→(∀ i e,es[i]? =some e→e.dst=some t→D (n+i)=D' (n+i))→(bA D es n env).tm t=(bA D' es n env').tm t
 | [],_,_,_,h,_=>h
 | e::es,n,env,env',h,hd=>by
  refine Bh (es:=es) (n:=n+1) ?_ fun i e' hi he=>by
   have :=hd (i+1) e' (by simpa using hi) he
   rw [show n+1+i=n+(i+1) from by omega]; exact this
  by_cases he:e.dst=some t
  · have :=hd 0 e rfl he
    rw [Nat.add_zero] at this
    rw [this]
    cases D' n with
    | true=>rw [cond_true,cond_true,n3 he,n3 he]
    | false=>exact h
  · cases D n <;> cases D' n <;> simp only [cond_true,cond_false,nZ he] <;> exact h
theorem Bf {D D':Nat→Bool} {b:Nat} : ∀ {es:List (cL S)} {n:Nat} {env env':Env S.C},env.bx b=env'.bx b→(∀ i e,es[i]? =some e→(∃ u ∈ e.us,u.1=b)→D (n+i)=D' (n+i))→(bA D es n env).bx b=(bA D' es n env').bx b
 | [],_,_,_,h,_=>h
 | e::es,n,env,env',h,hd=>by
  refine Bf (es:=es) (n:=n+1) ?_ fun i e' hi he=>by
   have :=hd (i+1) e' (by simpa using hi) he
   rw [show n+1+i=n+(i+1) from by omega]; exact this
  by_cases he: ∃ u ∈ e.us,u.1=b
  · have :=hd 0 e rfl he
    rw [Nat.add_zero] at this
    rw [this]
    cases D' n with
    | true=>exact (lA e.us h.symm).symm
    | false=>exact h
  · have he: ∀ u ∈ e.us,u.1≠b:=fun u hu e'=>he ⟨u,hu,e'⟩
    cases D n <;> cases D' n <;> simp only [cond_true,cond_false,qJ he] <;> exact h
theorem Env.ext' {e e':Env S.C} (h1: ∀ t,e.tm t=e'.tm t) (h2: ∀ b,e.bx b=e'.bx b) (h3:e.df=e'.df):e=e':=by
 cases e; cases e'
 congr
 · funext t; exact h1 t
 · funext b; exact h2 b
theorem Hg {D:Nat→Bool} {es:List (cL S)} {j:Nat} {ej:cL S} {env:Env S.C} (hj:es[j]? =some ej) (hD:D j=false)
 (qc: ∀ i e,j<i→es[i]? =some e→D i=true→(∀ t,ej.dst=some t→e.dst≠some t)∧ ∀ u ∈ ej.us, ∀ u' ∈ e.us,u'.1≠u.1):
 bA (ah D j true) es 0 env=ej.put (bA D es 0 env):=by
 have IU: ∀ (es:List (cL S)) (n:Nat) (env:Env S.C),(∀ i e,es[i]? =some e→D (n+i)=true→(∀ t,ej.dst=some t→e.dst≠some t)∧ ∀ u ∈ ej.us, ∀ u' ∈ e.us,u'.1≠u.1)→bA D es n (ej.put env)=ej.put (bA D es n env):=by
  intro es
  induction es with
  | nil=>intro n env _; rfl
  | cons e es ih=>
   intro n env h
   simp only [bA]
   rw [← ih (n+1) _ fun i e' hi hd=>by
    have :=h (i+1) e' (by simpa using hi)
    rw [show n+(i+1)=n+1+i from by omega] at this
    exact this hd]
   congr 1
   cases hn:D n with
   | false=>rfl
   | true=>
    simp only [cond_true]
    obtain ⟨c1,c2⟩:=h 0 e rfl (by rw [Nat.add_zero]; exact hn)
    refine Env.ext' (fun t=> ?_) (fun b=> ?_) rfl
    · by_cases h1:ej.dst=some t
      · rw [nZ (c1 t h1),n3 h1,n3 h1]
      · rw [nZ h1]
        by_cases h2:e.dst=some t
        · rw [n3 h2,n3 h2]
        · rw [nZ h2,nZ h2,nZ h1]
    · by_cases h1: ∃ u ∈ ej.us,u.1=b
      · obtain ⟨u,hu,rfl⟩:=h1
        have h2: ∀ u' ∈ e.us,u'.1≠u.1:=c2 u hu
        rw [qJ h2]
        exact lA ej.us (qJ h2).symm
      · have h1: ∀ u ∈ ej.us,u.1≠b:=fun u hu e'=>h1 ⟨u,hu,e'⟩
        rw [qJ h1]
        exact lA e.us (qJ h1)
 have key: ∀ (es:List (cL S)) (n:Nat) (env:Env S.C),n≤j→es[j - n]? =some ej→(∀ i e,j<n+i→es[i]? =some e→D (n+i)=true→(∀ t,ej.dst=some t→e.dst≠some t)∧ ∀ u ∈ ej.us, ∀ u' ∈ e.us,u'.1≠u.1)→
  bA (ah D j true) es n env=ej.put (bA D es n env):=by
  intro es
  induction es with
  | nil=>intro n env _ h; simp at h
  | cons e es ih=>
   intro n env hn h hl
   simp only [bA]
   by_cases e':n=j
   · subst e'
     rw [Nat.sub_self] at h
     simp at h
     subst h
     rw [aL,hD,cond_true,cond_false]
     rw [← IU es (n+1) env fun i e hi hd=>hl (i+1) e (by omega) (by simpa using hi) (by rw [show n+(i+1)=n+1+i from by omega]; exact hd)]
     have : ∀ (es:List (cL S)) (m:Nat) (env:Env S.C),n<m→bA (ah D n true) es m env=bA D es m env:=by
      intro es
      induction es with
      | nil=>intro m env _; rfl
      | cons e es ih=>
       intro m env hm
       simp only [bA]
       rw [aX _ _ (by omega)]
       exact ih (m+1) _ (by omega)
     exact this es (n+1) _ (by omega)
   · rw [aX _ _ e']
     refine ih (n+1) _ (by omega) ?_ fun i e hi he hd=>hl (i+1) e (by omega) (by simpa using he) (by rw [show n+(i+1)=n+1+i from by omega]; exact hd)
     rw [show j - n=(j - (n+1))+1 from by omega] at h
     simpa using h
 exact key es 0 env (Nat.zero_le _) (by simpa using hj) fun i e hi he hd=>qc i e (by omega) he (by simpa using hd)
end
end Go.Sy
