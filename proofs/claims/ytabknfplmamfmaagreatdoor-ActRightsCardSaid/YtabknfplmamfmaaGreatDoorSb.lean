import Derived.Laws.MakeOwn
import Derived.Great.BuildSlice
import Derived.Deep.Upon
import Derived.Laws.StructEq
import Derived.Stop.IfaceNil
import Derived.Laws.Entries
import Derived.Orders
import Derived.Test.YtabknfplmamfmaaGreatDoorSa
set_option linter.unusedVariables false
set_option linter.unusedSimpArgs false
namespace Go.Sy
section
variable {P:Program} {S:aS} {ak:Nat→Nat}
variable {w0:World} {M0 s0:St} {dq:List Deferred} {env:Env S.C} {a:Act} {w:World} {μ:Nat→Loc} {K:Act→World→Prop} {Q:Exit→Act→World→Prop} {o:Oper} {V:V S.C} {us:aI S.C}
theorem mT {α β:Type} {f:α→Option β} {x:α} {r:List α} {ys:List β} (h:(x::r).mapM f=some ys): ∃ y zs,f x=some y∧r.mapM f=some zs∧ys=y::zs:=by
 rw [List.mapM_cons] at h
 cases hx:f x with
 | none=>rw [hx] at h; cases h
 | some y=>
  rw [hx] at h
  cases hr:r.mapM f with
  | none=>rw [hr] at h; cases h
  | some zs=>rw [hr] at h; cases h; exact ⟨y,zs,rfl,rfl,rfl⟩
def xM (P:Program) (S:aS) (w:World) (s:St) (μ:Nat→Loc) (bx:Bx S.C):List (Nat×Sy.V S.C)→List (Nat×Value)→Prop
 | [],qs=>qs= []
 | p::ps,qs=> ∃ v r,qs=(p.1,v)::r∧RV P S w s μ bx p.2 v∧xM P S w s μ bx ps r
theorem DD (h:Inv P S w0 M0 s0 dq env a w μ): ∀ {parts:List (Nat×Operand)} {ps:List (Nat×Sy.V S.C)},parts.mapM (fun (p:Nat×Operand)=>(aO S env.tm p.2).map fun v=>(p.1,v))=some ps→
 xM P S w (aG S w0 M0 s0 env.bx μ w) μ env.bx ps (parts.map fun (i,x)=>(i,a.eval x))∧ ∀ p ∈ ps, ∃ x i,(i,x) ∈ parts∧aO S env.tm x=some p.2
 | [],ps,hp=>by cases hp; exact ⟨rfl,by simp⟩
 | (i,x)::r,ps,hp=>by
  obtain ⟨y,zs,h1,h2,rfl⟩:=mT hp
  obtain ⟨h3,h4⟩:=DD h h2
  cases hx:aO S env.tm x with
  | none=>rw [hx] at h1; cases h1
  | some v=>
   rw [hx] at h1
   cases h1
   refine ⟨⟨a.eval x,_,rfl,(bB h hx).1,h3⟩,fun p hp=> ?_⟩
   rcases List.mem_cons.1 hp with rfl | hp
   · exact ⟨x,i,by simp,hx⟩
   · obtain ⟨x',i',h5,h6⟩:=h4 p hp
     exact ⟨x',i',by simp [h5],h6⟩
theorem xW (h:Inv P S w0 M0 s0 dq env a w μ): ∀ {xs:List Operand} {vs:List (Sy.V S.C)},xs.mapM (aO S env.tm)=some vs→
 fu P S w (aG S w0 M0 s0 env.bx μ w) μ env.bx vs (xs.map a.eval)∧ ∀ v ∈ vs, ∃ x ∈ xs,aO S env.tm x=some v
 | [],vs,hp=>by cases hp; exact ⟨rfl,by simp⟩
 | x::r,ps,hp=>by
  obtain ⟨y,zs,h1,h2,rfl⟩:=mT hp
  obtain ⟨h3,h4⟩:=xW h h2
  refine ⟨⟨a.eval x,_,rfl,(bB h h1).1,h3⟩,fun p hp=> ?_⟩
  rcases List.mem_cons.1 hp with rfl | hp
  · exact ⟨x,by simp,h1⟩
  · obtain ⟨x',h5,h6⟩:=h4 p hp
    exact ⟨x',by simp [h5],h6⟩
theorem GC (off:Nat): ∀ (l:List Value) (k:Nat) (cells:Array Value),off+k+l.length≤cells.size→
 ((l.zipIdx k).foldl (fun cs p=>cs.setIfInBounds (off+p.2) p.1) cells).toList=cells.toList.take (off+k)++l++cells.toList.drop (off+k+l.length)
 | [],k,cells,h=>by simp
 | v::l,k,cells,h=>by
  simp only [List.zipIdx_cons,List.foldl_cons]
  simp only [List.length_cons] at h
  rw [GC off l (k+1) _ (by simp; omega)]
  have hc:(cells.setIfInBounds (off+k) v).toList=cells.toList.set (off+k) v:=by simp
  have hlen:cells.toList.length=cells.size:=by simp
  rw [hc,show off+(k+1)=off+k+1 from rfl,List.drop_set_of_lt (by omega)]
  have ht:(cells.toList.set (off+k) v).take (off+k+1)=cells.toList.take (off+k)++ [v]:=by
   rw [List.take_add_one,List.take_set_of_le (Nat.le_refl _),List.getElem?_set_self (by omega)]
   rfl
  rw [ht,List.length_cons]
  simp [show off+k+1+l.length=off+k+(l.length+1) from by omega]
theorem Gx (place:Nat→Option (Nat×Nat)) {i off size:Nat} (hp:place i=some (off,size)) {v:Value} (hv:v.cells.size=size) {cells:Array Value} (hle:off+size≤cells.size) (rest:List (Nat×Value)):
 ∃ cells',cells'.toList=cells.toList.take off++v.cells.toList++cells.toList.drop (off+v.cells.toList.length)∧Instr.fill place cells ((i,v)::rest)=Instr.fill place cells' rest:=by
 refine ⟨v.cells.zipIdx.foldl (fun cs (c,j)=>cs.setIfInBounds (off+j) c) cells, ?_, ?_⟩
 · have :=GC off v.cells.toList 0 cells (by simp; omega)
   simp only [Nat.add_zero] at this
   rw [← this]
   congr 1
   rw [← Array.foldl_toList]
   simp
 · simp only [Instr.fill,hp]
   rw [if_neg]
   simp only [hv]
   simp
   omega
theorem Gt (hS:cT S) {s:St} {bx:Bx S.C} {u:Nat} {place:Nat→Option (Nat×Nat)} (hp: ∀ f o T,S.eG u f=some (o,T)→place f=some (o,Ty.sz S T)):
 ∀ {ps:List (Nat×Sy.V S.C)} {qs:List (Nat×Value)} {vs vs':List (Sy.V S.C)} {cells:Array Value},xM P S w s μ bx ps qs→aH P S w s μ bx vs cells.toList→vs.all (bU S)=true→vt S u vs ps=some vs'→
 ∃ cells',Instr.fill place cells qs=some cells'∧aH P S w s μ bx vs' cells'.toList∧vs'.all (bU S)=true∧vs'.length=vs.length∧ ∀ v ∈ vs',v ∈ vs∨ ∃ p ∈ ps, ∀ j ∈ az S v,j ∈ aA S p.2
 | [],qs,vs,vs',cells,h1,h2,h3,h4=>by
  cases h1; cases h4
  exact ⟨cells,rfl,h2,h3,rfl,fun v hv=> .inl hv⟩
 | (i,W)::ps,qs,vs,vs',cells,⟨v,r,hq,hv,hr⟩,h2,h3,h4=>by
  subst hq
  simp only [vt] at h4
  split at h4
  · rename_i off T hf
    cases hc:fits S (cellsOf S W) (Ty.sz S T)&&Nat.ble (off+Ty.sz S T) vs.length with
    | false=>rw [hc] at h4; cases h4
    | true=>
     rw [hc,cond_true] at h4
     rw [Bool.and_eq_true] at hc
     obtain ⟨f1,f2⟩:=B3 hc.1
     have f3:=Nat.le_of_ble_eq_true hc.2
     obtain ⟨c1,c2⟩:=Bz hS f2 hv
     have l1:=aH.length P S c1
     have l2:=aH.length P S h2
     obtain ⟨cells',e1,e2⟩:=Gx place (hp _ _ _ hf) (v:=v) (cells:=cells) (by rw [← f1, ← l1]; simp) (by rw [← l2] at f3; simpa using f3) r
     obtain ⟨By,g1,g2,g3,g4,g5⟩:=Gt hS hp (cells:=cells') hr (by rw [e1]; exact En h2 c1) (JY h3 f2) h4
     refine ⟨By,by rw [e2]; exact g1,g2,g3,by rw [g4,JZ (by omega)],fun v hv=> ?_⟩
     rcases g5 v hv with hv | ⟨p,hp,hv⟩
     · rcases J0 hv with hv | hv
       · exact .inl hv
       · exact .inr ⟨(i,W),by simp,c2 v hv⟩
     · exact .inr ⟨p,by simp [hp],hv⟩
  · cases h4
theorem Nf (hP:aV P S ak) (h:Inv P S w0 M0 s0 dq env a w μ) (hd: ∀ d,o.dst=some d→d<a.tmps.size) {t:TypeId} {parts:Array (Nat×Operand)} (ho:o.op= .build t parts)
 (hl:(match S.ty t with
  | some (.st u)=>match parts.toList.mapM (fun (p:Nat×Operand)=>(aO S env.tm p.2).map fun v=>(p.1,v)) with
   | some ps=>match vt S u (zeroCells S (.st u)) ps with
    | some vs=>aB S (.agg u vs) []
    | none=> .fail
   | none=> .fail
  | _=> .fail).leaf (V,us)) (hK:Goal P S w0 M0 s0 dq env a o.dst V us K):o.wp P a w K Q:=by
 split at hl
 · rename_i u ht
   split at hl
   · rename_i ps hps
     split at hl
     · rename_i vs hvs
       obtain ⟨rfl,rfl⟩:=bE hl
       obtain ⟨p1,p2⟩:=DD h hps
       obtain ⟨⟨i,z,h1,h2,h3,h4,h5⟩,⟨W3,Pn⟩,yZ⟩:=hP.ty t _ ht
       obtain ⟨b0,hb0⟩:=Option.isSome_iff_exists.1 Pn
       obtain ⟨z1,z2,z3⟩:=K5 (P:=P) (w:=w) (μ:=μ) hP.tocT (s:=aG S w0 M0 s0 env.bx μ w) (bx:=env.bx) (.st u)
       have Po: ∃ place:Nat→Option (Nat×Nat),(∀ qs,P.built t qs=Instr.fill place z.cells qs)∧ ∀ f o T,S.eG u f=some (o,T)→place f=some (o,Ty.sz S T):=by
        cases har:S.ar t with
        | some p=>
         rw [har] at yZ
         obtain ⟨te,hu,hte,_,hfl⟩:=yZ
         obtain ⟨⟨ie,ze,e1,e2,_⟩,_⟩:=hP.ty te _ hte
         refine ⟨fun i=>some (i*ie.size,ie.size),fun qs=> ?_,fun f o' T hf=> ?_⟩
         · unfold Program.built
           simp only [h1,hu,h3,e1]
         · obtain ⟨rfl,rfl,_⟩:=hfl f o' T hf
           simp [e2]
        | none=>
        rw [har] at yZ
        obtain ⟨fs,hu,nK⟩:=yZ
        unfold Program.built at hb0
        simp only [h1,hu,h3] at hb0
        cases hpl:fs.toList.mapM (fun f=>(P.info? f.type).map fun i=>(f.offset,i.size)) with
        | none=>rw [hpl] at hb0; cases hb0
        | some places=>
         refine ⟨(places.toArray[·]?),fun qs=> ?_,fun f o' T hf=> ?_⟩
         · unfold Program.built
           simp only [h1,hu,h3,hpl]
         · obtain ⟨fd,d1,d2,d3,d4,d5⟩:=nK f o' T hf
           obtain ⟨⟨i',z',e1,e2,_⟩,_⟩:=hP.ty _ _ d3
           have eO: ∀ (l:List Field) (ys:List (Nat×Nat)) (k:Nat) (fd:Field),l.mapM (fun f=>(P.info? f.type).map fun i=>(f.offset,i.size))=some ys→l[k]? =some fd→ ∃ y,ys[k]? =some y∧(P.info? fd.type).map (fun i=>(fd.offset,i.size))=some y:=by
            intro l
            induction l with
            | nil=>intro ys k fd _ hk; simp at hk
            | cons x l ih=>
             intro ys k fd hys hk
             obtain ⟨y,zs,q1,q2,rfl⟩:=mT hys
             cases k with
             | zero=>simp at hk; subst hk; exact ⟨y,by simp,q1⟩
             | succ k=>
              obtain ⟨y',q3,q4⟩:=ih zs k fd q2 (by simpa using hk)
              exact ⟨y',by simpa using q3,q4⟩
           obtain ⟨y,q1,q2⟩:=eO fs.toList places f fd hpl (by simpa using d1)
           rw [e1] at q2
           simp at q2
           simp [q1, ← q2,d2,e2]
       obtain ⟨place,g1,g2⟩:=Po
       obtain ⟨cells',k1,k2,k3,k4,k5⟩:=Gt hP.tocT g2 (cells:=z.cells) p1 (by rw [h5]; exact z1) z2 hvs
       refine wp_pure (V:= .agg u vs) h (v:= .agg cells') ?_ hd ⟨cells',rfl, ?_,k3,k2⟩ (fun j hj=> ?_) hK
       · unfold execOp
         simp only [ho]
         have :=run_build (P:=P) w t (parts.map fun (i,x)=>(i,a.eval x)) cells' (by rw [g1,Array.toList_map]; exact k1)
         simp [this]
       · rw [k4]; simp [zeroCells]
       · simp only [aA,List.mem_flatMap] at hj
         obtain ⟨v,hv,hj⟩:=hj
         rcases k5 v hv with hv | ⟨p,hp,hv⟩
         · rw [z3 v hv] at hj; simp at hj
         · obtain ⟨x,i',_,hx⟩:=p2 p hp
           exact (bB h hx).2 j (hv j hj)
     · exact hl.elim
   · exact hl.elim
 · exact hl.elim
end
end Go.Sy
namespace Go.Sy
section
variable {P:Program} {S:aS} {ak:Nat→Nat}
variable {w0:World} {M0 s0:St} {dq:List Deferred} {env:Env S.C} {a:Act} {w:World} {μ:Nat→Loc} {K:Act→World→Prop} {Q:Exit→Act→World→Prop} {o:Oper} {V:V S.C} {us:aI S.C}
def cS (bx:Bx S.C) (us:aI S.C):Prop:= ∀ u ∈ us, ∃ e l,u.2= .bM e l∧bx u.1=some (.arr e l)
theorem cS.append {bx:Bx S.C} {us vs:aI S.C} (h1:cS bx us) (h2:cS bx vs):cS bx (us++vs):=fun u hu=>(List.mem_append.1 hu).elim (h1 u) (h2 u)
theorem cS.at {bx:Bx S.C} : ∀ {us:aI S.C} (ai:Bx S.C),cS bx us→ ∀ i,(av ai us i=ai i∧ ∀ u ∈ us,u.1≠i)∨((∃ u ∈ us,u.1=i)∧ ∃ e l,bx i=some (.arr e l)∧av ai us i=some (.bM e l))
 | [],ai,_,i=> .inl ⟨rfl,by simp⟩
 | u::us,ai,h,i=>by
  rcases cS.at (us:=us) (au ai u.1 (some u.2)) (fun v hv=>h v (by simp [hv])) i with ⟨h1,h2⟩ | ⟨⟨v,hv,h1⟩,h2⟩
  · by_cases e:u.1=i
    · right
      refine ⟨⟨u,by simp,e⟩, ?_⟩
      obtain ⟨e',l,h3,h4⟩:=h u (by simp)
      refine ⟨e',l,e▸h4, ?_⟩
      show av (au ai u.1 (some u.2)) us i=_
      rw [h1, ← e,aR,h3]
    · left
      refine ⟨?_,fun v hv=> ?_⟩
      · show av (au ai u.1 (some u.2)) us i=_
        rw [h1,bg _ _ (Ne.symm e)]
      · rcases List.mem_cons.1 hv with rfl | hv
        · exact e
        · exact h2 v hv
  · exact .inr ⟨⟨v,by simp [hv],h1⟩,h2⟩
theorem cS.tk {bx:Bx S.C} {us US:aI S.C} (h:cS bx US) (hs: ∀ u ∈ us,u ∈ US):Tk S (av bx us) (av bx US):=by
 intro i
 have h0:cS bx us:=fun u hu=>h u (hs u hu)
 rcases cS.at bx h i with ⟨h1,h2⟩ | ⟨_,e,l,h1,h2⟩
 · rcases cS.at bx h0 i with ⟨h3,_⟩ | ⟨⟨u,hu,h3⟩,_⟩
   · exact .inl (h1.trans h3.symm)
   · exact absurd h3 (h2 u (hs u hu))
 · rcases cS.at bx h0 i with ⟨h3,_⟩ | ⟨_,e',l',h3,h4⟩
   · exact .inr (.inr ⟨e,l,h3.trans h1,h2⟩)
   · rw [h1] at h3; cases h3
     exact .inl (h2.trans h4.symm)
theorem cS.oe {bx:Bx S.C} {US:aI S.C} (h:cS bx US):Tk S bx (av bx US):=cS.tk (us:= []) h (by simp)
theorem cS.cN (bx:Bx S.C) (V:Sy.V S.C):cS bx (cN S bx V):=by
 cases V with
 | aQ b=>
  unfold Sy.cN
  dsimp only
  split
  · rename_i e l hb
    intro u hu
    simp at hu
    subst hu
    exact ⟨e,l,rfl,hb⟩
  · intro u hu; simp at hu
 | _=>intro u hu; simp [Sy.cN] at hu
theorem cS.dh (bx:Bx S.C) (V:Sy.V S.C):cS bx (dh S bx V):=by
 cases V with
 | agg u vs=>
  intro x hx
  simp only [Sy.dh,List.mem_flatMap] at hx
  obtain ⟨v,_,hx⟩:=hx
  exact cS.cN bx v x hx
 | aQ b=>exact cS.cN bx (.aQ b)
 | _=>intro u hu; simp [Sy.dh,Sy.cN] at hu
theorem AT {ai:Bx S.C} (hk:Tk S env.bx ai):bY w (cE S w0 M0 s0 env.bx ai μ w) w (aG S w0 M0 s0 ai μ w):=fun b o ⟨q1,q2,q3⟩=>
 ⟨⟨q1,q2,fun j hj=>by
  rcases q3 j ((eA S (hk.dU hj)).1 hj) with ⟨_,_,hq⟩ | hq
  · unfold live at hj; rw [hq] at hj; exact hj.elim
  · exact hq⟩,rfl⟩
def cX (w:World) (s:St) (e:Ty) (l:List (e.den S.C)) (cs:List Value):Prop:=
 cs.length=l.length*Ty.sz S e∧ ∀ i x,l[i]? =some x→ ∃ n,aC S w s n e x ((cs.drop (i*Ty.sz S e)).take (Ty.sz S e))
theorem cX.nil {s:St} {e:Ty} :cX w s e ([]:List (e.den S.C)) []:=⟨by simp,fun i x h=>by simp at h⟩
theorem cX.later {w':World} {s s':St} (hl:bY w s w' s') {e:Ty} {l:List (e.den S.C)} {cs:List Value} (h:cX w s e l cs):cX w' s' e l cs:=
 ⟨h.1,fun i x hi=>(h.2 i x hi).imp fun _ hr=>hr.mono S hl (Nat.le_refl _)⟩
theorem cX.append {s:St} {e:Ty} {l l':List (e.den S.C)} {cs cs':List Value} (h:cX w s e l cs) (h':cX w s e l' cs'):cX w s e (l++l') (cs++cs'):=by
 refine ⟨by simp [h.1,h'.1,Nat.add_mul],fun i x hi=> ?_⟩
 by_cases hlt:i<l.length
 · rw [List.getElem?_append_left hlt] at hi
   obtain ⟨n,hn⟩:=h.2 i x hi
   refine ⟨n, ?_⟩
   have :(i+1)*Ty.sz S e≤l.length*Ty.sz S e:=Nat.mul_le_mul_right _ (by omega)
   rw [Nat.add_mul,Nat.one_mul, ← h.1] at this
   rw [List.drop_append_of_le_length (by omega),List.take_append_of_le_length (by simp; omega)]
   exact hn
 · rw [List.getElem?_append_right (by omega)] at hi
   obtain ⟨n,hn⟩:=h'.2 _ x hi
   refine ⟨n, ?_⟩
   have h1:i*Ty.sz S e=cs.length+(i - l.length)*Ty.sz S e:=by
    rw [h.1, ← Nat.add_mul]; congr 1; omega
   rw [h1,List.drop_append]
   simp only [List.drop_of_length_le (Nat.le_add_right cs.length _),List.nil_append,Nat.add_sub_cancel_left]
   exact hn
theorem cX.set {s:St} {e:Ty} {l:List (e.den S.C)} {cs:List Value} (h:cX w s e l cs) {i:Nat} (hi:i<l.length) {x:e.den S.C} {n:Nat} {ds:List Value} (hx:aC S w s n e x ds):
 cX w s e (l.set i x) (cs.take (i*Ty.sz S e)++ds++cs.drop (i*Ty.sz S e+ds.length)):=by
 have hd:=hx.length S
 have hle:(i+1)*Ty.sz S e≤l.length*Ty.sz S e:=Nat.mul_le_mul_right _ (by omega)
 rw [Nat.add_mul,Nat.one_mul, ← h.1] at hle
 refine ⟨?_,fun k y hk=> ?_⟩
 · rw [List.length_append,List.length_append,List.length_take,List.length_drop,List.length_set, ← h.1]; omega
 · by_cases ek:i=k
   · subst ek
     rw [List.getElem?_set_self hi] at hk
     cases hk
     refine ⟨n, ?_⟩
     rw [List.append_assoc,List.drop_append_of_le_length (by simp; omega),List.drop_of_length_le (by simp; omega),List.nil_append, ← hd,List.take_left]
     exact hx
   · rw [List.getElem?_set_ne ek] at hk
     have hkl:=(List.getElem?_eq_some_iff.1 hk).1
     obtain ⟨m,hm⟩:=h.2 k y hk
     refine ⟨m, ?_⟩
     rcases Nat.lt_or_gt_of_ne ek with hlt | hlt
     · have hki:(i+1)*Ty.sz S e≤k*Ty.sz S e:=Nat.mul_le_mul_right _ (by omega)
       rw [Nat.add_mul,Nat.one_mul] at hki
       have hpre:(cs.take (i*Ty.sz S e)++ds).length=i*Ty.sz S e+ds.length:=by rw [List.length_append,List.length_take]; omega
       rw [show k*Ty.sz S e=(cs.take (i*Ty.sz S e)++ds).length+(k*Ty.sz S e - (i*Ty.sz S e+ds.length)) from by rw [hpre]; omega,List.drop_append]
       simp only [List.drop_of_length_le (Nat.le_add_right _ _),List.nil_append,Nat.add_sub_cancel_left,List.drop_drop]
       rw [show i*Ty.sz S e+ds.length+(k*Ty.sz S e - (i*Ty.sz S e+ds.length))=k*Ty.sz S e from by omega]
       exact hm
     · have hki:(k+1)*Ty.sz S e≤i*Ty.sz S e:=Nat.mul_le_mul_right _ (by omega)
       rw [Nat.add_mul,Nat.one_mul] at hki
       rw [List.append_assoc,List.drop_append_of_le_length (by simp; omega),List.take_append_of_le_length (by simp; omega),List.drop_take,List.take_take]
       rw [show min (Ty.sz S e) (i*Ty.sz S e - k*Ty.sz S e)=Ty.sz S e from by omega]
       exact hm
theorem cX.replicate {s:St} {e:Ty} {x:e.den S.C} {n:Nat} {z:Array Value} (hx:aC S w s n e x z.toList) (k:Nat):cX w s e (List.replicate k x) (madeCells z (k*Ty.sz S e)).toList:=by
 have hz:=hx.length S
 have hzs:z.size=Ty.sz S e:=by rw [← hz]; simp
 refine ⟨by simp [size_madeCells],fun i y hi=>⟨n, ?_⟩⟩
 have tg:=(List.getElem?_eq_some_iff.1 hi).1
 rw [List.length_replicate] at tg
 rw [List.getElem?_replicate,if_pos tg] at hi
 cases hi
 have :((madeCells z (k*Ty.sz S e)).toList.drop (i*Ty.sz S e)).take (Ty.sz S e)=z.toList:=by
  apply List.ext_getElem?
  intro j
  rw [List.getElem?_take]
  have hrow:(i+1)*Ty.sz S e≤k*Ty.sz S e:=Nat.mul_le_mul_right _ (by omega)
  rw [Nat.add_mul,Nat.one_mul] at hrow
  by_cases hj:j<Ty.sz S e
  · rw [if_pos hj,List.getElem?_drop]
    have hmod:(i*Ty.sz S e+j) % z.size=j:=by
     rw [hzs,Nat.mul_comm,Nat.mul_add_mod,Nat.mod_eq_of_lt hj]
    simp [madeCells]
    rw [List.getElem?_range (by omega)]
    rw [Option.map_some,hmod]
    simp [hzs,hj]
  · rw [if_neg hj,List.getElem?_eq_none (by omega)]
 rw [this]
 exact hx
theorem JH {s:St} {e:Ty} {b:Nat} : ∀ {l:List (e.den S.C)} {o':Nat},(∀ i x,l[i]? =some x→ ∃ ds,ds.length=Ty.sz S e∧w.rangeAt b (o'+i*Ty.sz S e) ds∧ ∃ n,aC S w s n e x ds)→
 ∃ cs,w.rangeAt b o' cs∧cX w s e l cs
 | [],_,_=>⟨[],fun j v h=>by simp at h,cX.nil⟩
 | x::l,o',h=>by
  obtain ⟨ds,d1,d2,n,d3⟩:=h 0 x rfl
  obtain ⟨cs,c1,c2⟩:=JH (s:=s) (l:=l) (o':=o'+Ty.sz S e) fun i y hi=>by
   obtain ⟨ds,d1,d2,d3⟩:=h (i+1) y (by simpa using hi)
   refine ⟨ds,d1, ?_,d3⟩
   rw [Nat.add_mul,Nat.one_mul] at d2
   rw [show o'+Ty.sz S e+i*Ty.sz S e=o'+(i*Ty.sz S e+Ty.sz S e) from by omega]
   exact d2
  simp only [Nat.zero_mul,Nat.add_zero] at d2
  refine ⟨ds++cs,fun j v hj=> ?_,cX.append (l:= [x]) (l':=l) ⟨by simp [d1],fun i y hi=> ?_⟩ c2⟩
  · by_cases hlt:j<ds.length
    · rw [List.getElem?_append_left hlt] at hj; exact d2 j v hj
    · rw [List.getElem?_append_right (by omega)] at hj
      have :=c1 _ v hj
      rw [show o'+Ty.sz S e+(j - ds.length)=o'+j from by omega] at this
      exact this
  · cases i with
    | zero=>simp at hi; subst hi; exact ⟨n,by simpa [← d1] using d3⟩
    | succ i=>simp at hi
theorem cX.row {s:St} {e:Ty} {l:List (e.den S.C)} {cs:List Value} (h:cX w s e l cs) {w':World} {b o':Nat} (hr:w'.rangeAt b o' cs):
 ∀ i x,l[i]? =some x→ ∃ ds,ds.length=Ty.sz S e∧w'.rangeAt b (o'+i*Ty.sz S e) ds∧ ∃ n,aC S w s n e x ds:=fun i x hi=>by
 obtain ⟨n,hn⟩:=h.2 i x hi
 exact ⟨_,hn.length S,DP hr _ _,n,hn⟩
theorem ER (hP:aV P S ak) {t:Nat} {T:Ty} (ht:S.ty t=some T) (s:St): ∃ n,aC S w s n T (Ty.zero S T) (su S T):=by
 have z1: ∀ (T:Ty),bq T=false→aC S w s 1 T (Ty.zero S T) [uJ T]:=by
  intro T hT
  cases T with
  | int k=>rfl
  | bool=>rfl
  | str=>rfl
  | pt=>rfl
  | sl e=>exact ⟨none,0,rfl,Nat.le_refl _, .inl rfl⟩
  | st u=>simp [bq] at hT
 cases T with
 | st u=>
  obtain ⟨_,⟨hz,_⟩,_⟩:=hP.ty t _ ht
  refine ⟨2, ?_⟩
  show bF S _ (S.F u) (S.ex u (S.z u)) ((S.F u).map uJ)
  rw [hz]
  have : ∀ (ts:List Ty),ts.all (fun t=> !bq t)=true→bF S (fun t x cs=>aC S w s 1 t x cs) ts (pZ S ts) (ts.map uJ):=by
   intro ts
   induction ts with
   | nil=>intro _; rfl
   | cons t ts ih=>
    intro h
    simp only [List.all_cons,Bool.and_eq_true,Bool.not_eq_true'] at h
    refine ⟨_,_,rfl, ?_, ?_⟩
    · rw [show aq.head (pZ S (t::ts))=Ty.zero S t from by cases ts <;> rfl]
      exact z1 t h.1
    · rw [show aq.tail (pZ S (t::ts))=pZ S ts from by cases ts <;> rfl]
      exact ih h.2
  exact this _ (hP.flat u)
 | int k=>exact ⟨1,z1 _ rfl⟩
 | bool=>exact ⟨1,z1 _ rfl⟩
 | str=>exact ⟨1,z1 _ rfl⟩
 | pt=>exact ⟨1,z1 _ rfl⟩
 | sl e=>exact ⟨1,z1 _ rfl⟩
theorem EN (h:Inv P S w0 M0 s0 dq env a w μ) (hd: ∀ d,o.dst=some d→d<a.tmps.size) {us:aI S.C} {B:Nat} {e:Ty} {l:List (e.den S.C)} {t:TypeId} {cap:Nat} {cells:Array Value} {cs:List Value}
 (hk:Tk S env.bx (av env.bx us)) (hB:av env.bx us B=none) {w1:World} (hw1:w1.heap=w.heap) (CQ:w1.os=w.os∧w1.tape=w.tape∧w1.output=w.output)
 (hrun:(execOp a.eval o).run P w= .ok (.value (.slice (some ⟨w.heap.size,0,none⟩) l.length cap)) (w1.alloc (.cells cells t)))
 (hle:l.length≤cap) (hcap:cells.size=cap*Ty.sz S e) (hcs:cX w (aG S w0 M0 s0 (av env.bx us) μ w) e l cs) (hpre:cs <+: cells.toList)
 (hK:Goal P S w0 M0 s0 dq env a o.dst (.aQ B) (us++ [(B, .arr e l)]) K):o.wp P a w K Q:=by
 have h1:=h.tk hk
 have Pt:aY w (w1.alloc (.cells cells t)) (fun _ _=>False):=by
  have c1:aY w w1 (fun _ _=>False):=⟨CQ.1,CQ.2.1,CQ.2.2,by rw [hw1]; exact Nat.le_refl _,fun b _ _=>by rw [hw1],fun b o _ _=>cell_of_heap (by rw [hw1]),fun b o _ h=>by rw [cell_of_heap (by rw [hw1]:w1.heap[b]? =w.heap[b]?)]; exact h,fun b o _ _=>yE (by rw [hw1])⟩
  exact c1.trans (aY.alloc w1 _ (fun _ _=>False)) (fun _ _ h=>h) (fun _ _ _ h=>h)
 have nt:=o9 (w:=w1) (cs:=cells) (t:=t)
 rw [hw1] at nt
 have Qg:(w1.alloc (.cells cells t)).rangeAt w.heap.size 0 cs:=fun j v hj=>nt.2 j v (by
  obtain ⟨r,hr⟩:=hpre
  rw [← hr,List.getElem?_append_left (List.getElem?_eq_some_iff.1 hj).1]
  exact hj)
 refine pV (env:= { env with bx:=av env.bx us }) (i:=B) (B:= .arr e l) (V:= .aQ B) (L:=⟨w.heap.size,0,cap*Ty.sz S e,cap,false⟩) h1 hrun hd Pt hB (fun b o' hf=>Nat.le_of_eq hf.1.symm)
  (fun hl _ h3=>⟨⟨rfl,(fun h=>by cases h),hle,(by show World.there _ w.heap.size 0 (cap*Ty.sz S e); rw [← hcap]; exact nt.1),fun i x hi=> ?_⟩,⟨⟨_,_,_,rfl⟩,fun e' l' hb=> ?_⟩⟩) (fun vs hvs=>by rcases hvs with hvs | hvs <;> cases hvs) (fun j hj=> .inl (by simpa [aA,az] using hj)) ?_
 · obtain ⟨ds,d1,d2,n,d3⟩:=hcs.row Qg i x hi
   exact ⟨ds,d1,d2,n,d3.mono S hl (Nat.le_refl _)⟩
 · dsimp only at hb
   rw [aR] at hb
   rcases hb with hb | hb
   · cases hb
     rw [aR]
     exact ⟨_,cap,rfl,rfl,rfl,rfl,(fun h=>by cases h),hle⟩
   · cases hb
 · intro a' w' μ' hI hs
   refine hK a' w' μ' ?_ hs
   have :(env.apply o.dst (.aQ B) (us++ [(B, .arr e l)]))=(Env.apply { env with bx:=av env.bx us } o.dst (.aQ B) [(B, .arr e l)]):=by
    simp only [Env.apply,ja]
   rw [this]
   exact hI
theorem RM (hP:aV P S ak) (h:Inv P S w0 M0 s0 dq env a w μ) (hd: ∀ d,o.dst=some d→d<a.tmps.size) {B:Nat} {t:TypeId} {x y:Operand} (ho:o.op= .makeSlice t x y)
 (hnew: ∀ u ∈ us,B≤u.1→u.1<B+16→env.bx u.1=none)
 (hl:(match eM S t,aO S env.tm x,aO S env.tm y with
  | some e,some v,some w=>match v.int?,w.int? with
   | some (.i64,n),some (.i64,m)=>Tr.gd [gd (0≤n),gd (n≤m),gd (m*ak t≤limit)] (aB S (.aQ (B)) [(B, .arr e (List.replicate n.toNat (Ty.zero S e)))])
   | _,_=>Tr.fail
  | _,_,_=>Tr.fail).leaf (V,us)) (hK:Goal P S w0 M0 s0 dq env a o.dst V us K):o.wp P a w K Q:=by
 split at hl
 · rename_i e v u ht hx hy
   split at hl
   · rename_i n m hn hm
     obtain ⟨hg,rfl,rfl⟩:=fN hl
     have g1:0≤n:=hg (gd (0≤n)) (by simp)
     have g2:n≤m:=hg (gd (n≤m)) (by simp)
     have g3:m*ak t≤limit:=hg (gd (m*ak t≤limit)) (by simp)
     have ht':=nG ht
     obtain ⟨te,ie,z,hu,hte,hie,hby,fP,_⟩:=hP.sl ht'
     obtain ⟨⟨i,z,h1,h2,h3,h4,h5⟩,_⟩:=hP.ty te _ hte
     rw [hie] at h1
     cases h1
     have e1:=jr (bB h hx).1 hn
     have e2:=jr (bB h hy).1 hm
     have hmn:(m.toNat:Int)=m:=by omega
     have hpos:(ak t:Int)≥1:=by omega
     have hml:m≤140737488355328:=by
      have :m*1≤m*(ak t:Int):=Int.mul_le_mul_of_nonneg_left hpos (by omega)
      have :limit=140737488355328:=rfl
      omega
     have hrun:=run_make (P:=P) w t te ie z hu hie h3 .i64 .i64 n m g1 g2 (by rw [hby,Int.mul_comm]; have :limit=140737488355328:=rfl; omega) (by omega)
     obtain ⟨q,hq⟩:=ER (w:=w) hP hte (aG S w0 M0 s0 (av env.bx []) μ w)
     rw [← h5] at hq
     have hB:=hnew _ (List.mem_singleton.2 rfl) (Nat.le_refl _) (by show B<B+16; omega)
     refine EN (t:=te) (us:= []) (e:=e) (l:=List.replicate n.toNat (Ty.zero S e)) (cap:=m.toNat) (cells:=madeCells z.cells (m.toNat*ie.size)) (cs:=(madeCells z.cells (n.toNat*Ty.sz S e)).toList) (w1:=w) h hd (Tk.refl S _) hB rfl ⟨rfl,rfl,rfl⟩ ?_ (by simp; omega)
      (by rw [size_madeCells,h2]) (cX.replicate hq _) ?_ hK
     · unfold execOp
       simp only [ho,e1,e2,List.length_replicate]
       simp [hrun]
     · rw [h2]
       simp only [madeCells,Array.toList_map,Array.toList_range]
       have :n.toNat*Ty.sz S e≤m.toNat*Ty.sz S e:=Nat.mul_le_mul_right _ (by omega)
       refine List.IsPrefix.map _ ?_
       exact ⟨(List.range (m.toNat*Ty.sz S e)).drop (n.toNat*Ty.sz S e),by
        conv=>rhs; rw [← List.take_append_drop (n.toNat*Ty.sz S e) (List.range (m.toNat*Ty.sz S e))]
        congr 1
        rw [List.take_range,Nat.min_eq_left this]⟩
   · exact hl.elim
 · exact hl.elim
end
end Go.Sy
namespace Go.Sy
section
variable {P:Program} {S:aS} {ak:Nat→Nat}
variable {w0:World} {M0 s0:St} {dq:List Deferred} {env:Env S.C} {a:Act} {w:World} {μ:Nat→Loc} {K:Act→World→Prop} {Q:Exit→Act→World→Prop} {o:Oper} {V:V S.C} {us:aI S.C}
theorem Gw {bx ai:Bx S.C} {e:Ty} : ∀ {ps:List (Nat×Sy.V S.C)} {l:List (e.den S.C)},(∀ p ∈ ps, ∀ i ∈ aA S p.2,ai i=bx i)→mL S ai e l ps=mL S bx e l ps
 | [],_,_=>rfl
 | (i,v)::ps,l,h=>by
  obtain ⟨h1,h2⟩:=vg (t:=e) (h (i,v) (by simp))
  simp only [mL,h1,h2]
  congr 1
  cases datum S bx e v with
  | none=>rfl
  | some x=>simp only [Option.bind_some]; rw [Gw fun p hp=>h p (by simp [hp])]
theorem Gu {bx:Bx S.C} {e:Ty} : ∀ {ps:List (Nat×Sy.V S.C)} {l l':List (e.den S.C)} {us:aI S.C},mL S bx e l ps=some (l',us)→cS bx us∧l'.length=l.length
 | [],_,_,_,h=>by cases h; exact ⟨fun u hu=>by simp at hu,rfl⟩
 | (i,v)::ps,l,l',us,h=>by
  simp only [mL] at h
  cases hi:Nat.blt i (List.length l) with
  | false=>rw [hi] at h; cases h
  | true=>
   rw [hi,cond_true] at h
   obtain ⟨x,hx,h⟩:=Option.bind_eq_some_iff.1 h
   obtain ⟨⟨l2,u2⟩,h2,h⟩:=Option.bind_eq_some_iff.1 h
   cases h
   obtain ⟨g1,g2⟩:=Gu h2
   exact ⟨(cS.dh bx v).append g1,by rw [g2,List.length_set]⟩
theorem Gv (hS:cT S) (h:Inv P S w0 M0 s0 dq env a w μ) {e:Ty} {US:aI S.C} (hU:cS env.bx US): ∀ {ps:List (Nat×Sy.V S.C)} {qs:List (Nat×Value)} {l l':List (e.den S.C)} {us:aI S.C} {cells:Array Value},
 xM P S w (aG S w0 M0 s0 env.bx μ w) μ env.bx ps qs→cX w (cE S w0 M0 s0 env.bx (av env.bx US) μ w) e l cells.toList→mL S env.bx e l ps=some (l',us)→(∀ u ∈ us,u ∈ US)→
 ∃ cells',Instr.fill (fun i=>some (i*Ty.sz S e,Ty.sz S e)) cells qs=some cells'∧cX w (cE S w0 M0 s0 env.bx (av env.bx US) μ w) e l' cells'.toList
 | [],qs,l,l',us,cells,h1,h2,h3,_=>by
  cases h1; cases h3
  exact ⟨cells,rfl,h2⟩
 | (i,V)::ps,qs,l,l',us,cells,⟨v,r,hq,hv,hr⟩,h2,h3,hs=>by
  subst hq
  simp only [mL] at h3
  cases hi:Nat.blt i (List.length l) with
  | false=>rw [hi] at h3; cases h3
  | true=>
   rw [hi,cond_true] at h3
   have hlt:i<l.length:=by
    have :Nat.ble (i+1) l.length=true:=hi
    exact Nat.le_of_ble_eq_true this
   obtain ⟨x,hx,h3⟩:=Option.bind_eq_some_iff.1 h3
   obtain ⟨⟨l2,u2⟩,h4,h3⟩:=Option.bind_eq_some_iff.1 h3
   cases h3
   obtain ⟨_,d2⟩:=yd hS h (Tk.refl S env.bx) hv hx
   have d3:=d2.mono S (uB S (hU.tk (us:=dh S env.bx V) fun u hu=>hs u (by simp [hu])))
   obtain ⟨n,d4⟩:=d3.2
   have d5:=d4.length S
   have hc:=h2.1
   have hle:(i+1)*Ty.sz S e≤l.length*Ty.sz S e:=Nat.mul_le_mul_right _ (by omega)
   rw [Nat.add_mul,Nat.one_mul, ← hc] at hle
   obtain ⟨cells',e1,e2⟩:=Gx (fun i=>some (i*Ty.sz S e,Ty.sz S e)) (i:=i) rfl (v:=v) (cells:=cells) (by rw [← d5]; simp) (by simpa using hle) r
   obtain ⟨By,g1,g2⟩:=Gv hS h hU (cells:=cells') hr (by rw [e1]; exact h2.set hlt d4) h4 fun u hu=>hs u (by simp [hu])
   exact ⟨By,by rw [e2]; exact g1,g2⟩
theorem NS (hP:aV P S ak) (h:Inv P S w0 M0 s0 dq env a w μ) (hd: ∀ d,o.dst=some d→d<a.tmps.size) {B:Nat} {t:TypeId} {parts:Array (Nat×Operand)} {e:Ty} (ho:o.op= .buildSlice t 0 parts) (ht:eM S t=some e)
 (hnew: ∀ u ∈ us,B≤u.1→u.1<B+16→env.bx u.1=none)
 (hl:(match parts.toList with
  | []=>aB S (.aZ B e []) [(B, .tail)]
  | _=> .fail:Rt S).leaf (V,us)) (hK:Goal P S w0 M0 s0 dq env a o.dst V us K):o.wp P a w K Q:=by
 split at hl
 · rename_i hps
   obtain ⟨rfl,rfl⟩:=bE hl
   have hp:parts= #[]:=by
    have :parts=parts.toList.toArray:=by simp
    rw [this,hps]
   subst hp
   have hB:=hnew (B, .tail) (by simp) (Nat.le_refl _) (by show B<B+16; omega)
   have ht':=nG ht
   obtain ⟨te,ie,z,hu,hte,hie,hby,fP,_⟩:=hP.sl ht'
   have hrun:(execOp a.eval o).run P w= .ok (.value (.slice (some ⟨w.heap.size,0,none⟩) 0 0)) (w.alloc (.cells #[] te)):=by
    unfold execOp
    simp only [ho]
    simp [Instr.buildSlice,run_underlying hu,sizeOf,typeInfo,hie,Array.range_zero',Instr.fill,newRow]
   refine pV (i:=B) (B:= .tail) (V:= .aZ B e []) (L:=⟨0,0,0,0,true⟩) h hrun hd (aY.alloc w _ _) hB (fun b o hf=> ?_) (fun _ _ _=>⟨fun j hj=>absurd hj (Nat.not_lt_zero j), ?_⟩) (by simp) (fun j hj=> .inl (by simpa [aA,az] using hj)) hK
   · have h1:=hf.2.1; have h2:=hf.2.2; simp at h2
   · refine ⟨⟨rfl,1,_,0,rfl,Nat.le_refl _, .inl rfl⟩,fun _=>⟨_,0,rfl, ?_⟩⟩
     rw [aR]
     exact .inr ⟨_,_,rfl,by simp,fun h=>absurd h (Nat.lt_irrefl 0)⟩
 · exact hl.elim
theorem Nd (hP:aV P S ak) (h:Inv P S w0 M0 s0 dq env a w μ) (hd: ∀ d,o.dst=some d→d<a.tmps.size) {B:Nat} {t:TypeId} {len:Nat} {parts:Array (Nat×Operand)} {ids:List Nat} (ho:o.op= .buildSlice t len parts)
 (fQ: ∀ i x,(i,x) ∈ parts.toList→ ∀ V,aO S env.tm x=some V→ ∀ i ∈ aA S V,restrict S env.bx ids i=env.bx i)
 (hnew: ∀ u ∈ us,B≤u.1→u.1<B+16→env.bx u.1=none)
 (hl:(match eM S t with
  | some e=>match parts.toList.mapM (fun (p:Nat×Operand)=>(aO S env.tm p.2).map fun v=>(p.1,v)) with
   | some ps=>cond (Nat.ble (len*Ty.sz S e) 16777216) (match mL S (restrict S env.bx ids) e (List.replicate len (Ty.zero S e)) ps with
    | some (l,us)=>aB S (.aQ (B)) (us++ [(B,dP.arr e l)])
    | none=>Tr.fail) Tr.fail
   | none=>Tr.fail
  | none=>Tr.fail).leaf (V,us)) (hK:Goal P S w0 M0 s0 dq env a o.dst V us K):o.wp P a w K Q:=by
 split at hl
 · rename_i e ht
   split at hl
   · rename_i ps hps
     cases hlim:Nat.ble (len*Ty.sz S e) 16777216 with
     | false=>rw [hlim] at hl; exact hl.elim
     | true=>
      rw [hlim,cond_true] at hl
      obtain ⟨p1,p2⟩:=DD h hps
      rw [Gw (bx:=env.bx) fun p hp i hi=>by
       obtain ⟨x,k,hm,hx⟩:=p2 p hp
       exact fQ k x hm p.2 hx i hi] at hl
      split at hl
      · rename_i l fz Ho
        obtain ⟨rfl,rfl⟩:=bE hl
        obtain ⟨f1,f2⟩:=Gu Ho
        rw [List.length_replicate] at f2
        have ht':=nG ht
        obtain ⟨te,ie,z,hu,hte,hie,hby,fP,_⟩:=hP.sl ht'
        obtain ⟨⟨i,z,h1,h2,h3,h4,h5⟩,_⟩:=hP.ty te _ hte
        rw [hie] at h1
        cases h1
        obtain ⟨q,hq⟩:=ER (w:=w) hP hte (cE S w0 M0 s0 env.bx (av env.bx fz) μ w)
        rw [← h5] at hq
        obtain ⟨cells,c1,c2⟩:=Gv hP.tocT h f1 (cells:=madeCells z.cells (len*Ty.sz S e)) p1 (cX.replicate hq len) Ho fun u hu=>hu
        have bS:=hnew (B,dP.arr e l) (by simp) (Nat.le_refl _) (by show B<B+16; omega)
        have hB:av env.bx fz B=none:=by
         rcases cS.at env.bx f1 B with ⟨e1,_⟩ | ⟨_,e',l',e2,_⟩
         · rw [e1]; exact bS
         · rw [show env.bx B=none from bS] at e2; cases e2
        refine EN (t:=te) (us:=fz) (e:=e) (l:=l) (cap:=len) (cells:=cells) (cs:=cells.toList) (w1:=w) h hd f1.oe hB rfl ⟨rfl,rfl,rfl⟩ ?_ (by omega) (by have :=c2.1; rw [f2] at this; simpa using this)
         (c2.later (AT f1.oe)) (List.prefix_refl _) hK
        unfold execOp
        simp only [ho,f2]
        have hrun:(Instr.buildSlice t len (parts.map fun (i,x)=>(i,a.eval x))).run P w= .ok (.slice (some ⟨w.heap.size,0,none⟩) len len) (w.alloc (.cells cells te)):=by
         have hlim:=Nat.le_of_ble_eq_true hlim
         rw [← h2] at hlim c1
         by_cases h0:len*ie.size=0
         · rw [h0] at c1
           have hm:madeCells z.cells 0= #[]:=by simp [madeCells]
           rw [hm] at c1
           have Ni:Instr.fill (fun i=>some (i*ie.size,ie.size)) #[] (parts.toList.map fun x=>(x.1,a.eval x.2))=some cells:=c1
           simp [Instr.buildSlice,run_underlying hu,sizeOf,typeInfo,hie,h0,Array.range_zero',Ni,newRow]
         · refine run_buildSlice w t te len _ cells ie z hu hie h3 (by omega) h0 ?_
           rw [Array.toList_map,h2]
           rw [h2] at c1
           exact c1
        simp [hrun]
      · exact hl.elim
   · exact hl.elim
 · exact hl.elim
end
end Go.Sy
namespace Go.Sy
section
variable {P:Program} {S:aS} {ak:Nat→Nat}
variable {w0:World} {M0 s0:St} {dq:List Deferred} {env:Env S.C} {a:Act} {w:World} {μ:Nat→Loc} {K:Act→World→Prop} {Q:Exit→Act→World→Prop} {o:Oper} {V:V S.C} {us:aI S.C}
theorem T9 (P:Program) (hS:cT S) {s:St} {n:Nat} {e:Ty} {x:e.den S.C} {cs:List Value} (h:aC S w s n e x cs): ∀ u ∈ cs,u.oneCell'=true:=by
 obtain ⟨h1,h2,_⟩:=mI (P:=P) hS (fun _=>⟨0,0,0,0,true⟩) (fun _=>none) h
 exact xm h2 h1
theorem Nt (P:Program) (hS:cT S) {s:St} {e:Ty} {l:List (e.den S.C)} {cs:List Value} (h:cX w s e l cs): ∀ u ∈ cs,u.oneCell'=true:=by
 intro u hu
 obtain ⟨k,hk,PX⟩:=List.getElem_of_mem hu
 have h0:0<Ty.sz S e:=by
  rcases Nat.eq_zero_or_pos (Ty.sz S e) with h0 | h0
  · have :=h.1; rw [h0,Nat.mul_zero] at this; omega
  · exact h0
 have hkl:k<l.length*Ty.sz S e:=by rw [← h.1]; exact hk
 have hi:k / Ty.sz S e<l.length:=Nat.div_lt_of_lt_mul (by rw [Nat.mul_comm]; exact hkl)
 obtain ⟨n,hn⟩:=h.2 (k / Ty.sz S e) _ (List.getElem?_eq_getElem hi)
 refine T9 P hS hn u ?_
 have hd:k / Ty.sz S e*Ty.sz S e+k % Ty.sz S e=k:=by rw [Nat.mul_comm]; exact Nat.div_add_mod k _
 refine List.mem_iff_getElem?.2 ⟨k % Ty.sz S e, ?_⟩
 rw [List.getElem?_take,if_pos (Nat.mod_lt _ h0),List.getElem?_drop,hd,List.getElem?_eq_getElem hk,PX]
def Read (S:aS) (w:World) (s:St) (e:Ty) (l:List (e.den S.C)) (v:Value):Prop:=
 ∃ ad cap,v= .slice ad l.length cap∧l.length≤cap∧(l.length=0∨ ∃ b o,ad=some ⟨b,o,none⟩∧ ∀ i x,l[i]? =some x→ ∃ ds,ds.length=Ty.sz S e∧w.rangeAt b (o+i*Ty.sz S e) ds∧ ∃ n,aC S w s n e x ds)
theorem cA.read {s:St} {e:Ty} {l:List (e.den S.C)} {v:Value} (h:cA S w s (.sl e) l v):Read S w s e l v:=by
 obtain ⟨ad,cap,h1,h2,h3⟩:=lE h
 refine ⟨ad,cap,h1,h2,h3.imp id fun ⟨b,o,n,h4,h5⟩=>⟨b,o,h4,fun i x hi=> ?_⟩⟩
 obtain ⟨ds,d1,d2,d3⟩:=h5 i x hi
 exact ⟨ds,d1,d2.range,n,d3⟩
theorem ov.read {s:St} {e:Ty} {l:List (e.den S.C)} {v:Value} {L:Loc} {ad:Option Addr} {cap:Nat} (hv:v= .slice ad l.length cap) (h:ov L ad l.length cap (Ty.sz S e))
 (hr: ∀ i x,l[i]? =some x→ ∃ ds,ds.length=Ty.sz S e∧w.rangeAt L.b (L.o+i*Ty.sz S e) ds∧ ∃ n,aC S w s n e x ds):Read S w s e l v:=by
 refine ⟨ad,cap,hv,h.fits, ?_⟩
 cases hn:L.nil with
 | true=>
  left
  have h1:=h.isNil hn
  have h2:=h.fits
  have h3:=h.lJ
  omega
 | false=>
  right
  have h1:=h.addr
  rw [hn] at h1
  exact ⟨L.b,L.o,h1,hr⟩
theorem Dj (h:Inv P S w0 M0 s0 dq env a w μ) {b:Nat} {e:Ty} {l:List (e.den S.C)} {v:Value} (hb:env.bx b=some (.arr e l)∨env.bx b=some (.bM e l)) (hv:RV P S w (aG S w0 M0 s0 env.bx μ w) μ env.bx (.aQ b) v):
 Read S w (aG S w0 M0 s0 env.bx μ w) e l v:=by
 obtain ⟨_,hv⟩:=hv
 obtain ⟨ad,cap,h1,h2⟩:=hv e l hb
 refine h2.read h1 ?_
 rcases hb with hb | hb
 · exact (h.cg b _ hb).2.2.2.2
 · intro i x hi
   obtain ⟨ds,d1,d2,d3⟩:=(h.cg b _ hb).2.2 i x hi
   exact ⟨ds,d1,d2.range,d3⟩
theorem BE (h:Inv P S w0 M0 s0 dq env a w μ) {e:Ty} {X:Sy.V S.C} {x:Value} {y:List (e.den S.C)} (hx:RV P S w (aG S w0 M0 s0 env.bx μ w) μ env.bx X x) (hy:datum S env.bx (.sl e) X=some y):
 Read S w (aG S w0 M0 s0 env.bx μ w) e y x:=by
 cases X with
 | d u z=>
  obtain ⟨rfl,rfl⟩:=ew hy
  exact cA.read hx
 | aZ b e' l=>
  obtain ⟨e1,rfl⟩:=ew hy
  cases e1
  exact cA.read hx.1
 | cI=>
  cases hy
  exact ⟨none,0,hx,Nat.le_refl _, .inl rfl⟩
 | aQ b=>
  have hy:cU S env.bx (.sl e) (.aQ b)=some y:=hy
  simp only [cU] at hy
  split at hy
  · rename_i e' l hb
    obtain ⟨e1,rfl⟩:=ew hy
    cases e1
    exact Dj h (.inl hb) hx
  · rename_i e' l hb
    obtain ⟨e1,rfl⟩:=ew hy
    cases e1
    exact Dj h (.inr hb) hx
  · cases hy
 | _=>cases hy
theorem Read.cells {s:St} {e:Ty} {l:List (e.den S.C)} {v:Value} (h:Read S w s e l v): ∃ ad cap cs,v= .slice ad l.length cap∧l.length≤cap∧cX w s e l cs∧
 (l.length=0∧cs= []∨ ∃ b o,ad=some ⟨b,o,none⟩∧w.rangeAt b o cs):=by
 obtain ⟨ad,cap,h1,h2,h3⟩:=h
 rcases h3 with h3 | ⟨b,o,h3,h4⟩
 · have :l= []:=List.length_eq_zero_iff.1 h3
   subst this
   exact ⟨ad,cap,[],h1,h2,cX.nil, .inl ⟨rfl,rfl⟩⟩
 · obtain ⟨cs,c1,c2⟩:=JH h4
   exact ⟨ad,cap,cs,h1,h2,c2, .inr ⟨b,o,h3,c1⟩⟩
theorem Read.src (hP:aV P S ak) {s:St} {e:Ty} {l:List (e.den S.C)} {v:Value} (h:Read S w s e l v) {tx:Nat} (ht:S.ty tx=some (.sl e)): ∃ news,Src P (Ty.sz S e) tx v l.length news w∧cX w s e l news:=by
 obtain ⟨te,ie,z,hu,_⟩:=hP.sl ht
 obtain ⟨ad,cap,cs,h1,h2,h3,h4⟩:=h.cells
 refine ⟨cs, ?_,h3⟩
 subst h1
 rcases h4 with ⟨h4,rfl⟩ | ⟨b,o,rfl,h4⟩
 · cases ad with
   | none=>rw [h4]; exact Src.ofNil w hu cap
   | some ad=>exact Src.ofSlice w hu ad _ cap [] h3.1 (fun j u hj=>by simp at hj) (fun u hu=>by simp at hu)
 · exact Src.ofSlice w hu _ _ cap cs h3.1 (fun j u hj=>by rw [Addr.add_mid]; exact h4 j u hj) (Nt P hP.tocT h3)
theorem Read.old {s:St} {e:Ty} {l:List (e.den S.C)} {ad:Option Addr} {cap:Nat} (P:Program) (h:Read S w s e l (.slice ad l.length cap)): ∃ olds,(Builtin.firstCells (Ty.sz S e) l.length (.slice ad l.length cap)).run P w.drew= .ok olds.toArray w.drew∧cX w s e l olds∧
 (l.length=0∨ ∃ b o,ad=some ⟨b,o,none⟩∧w.rangeAt b o olds):=by
 obtain ⟨qf,cap',cs,h1,h2,h3,h4⟩:=h.cells
 cases h1
 refine ⟨cs, ?_,h3,h4.imp (·.1) id⟩
 rcases h4 with ⟨h4,rfl⟩ | ⟨b,o,rfl,h4⟩
 · cases ad with
   | none=>exact run_firstCells_none _ _ _ _ _
   | some ad=>exact run_firstCells_some _ _ _ ad _ cap [] h3.1 (fun j u hj=>by simp at hj)
 · exact run_firstCells_some _ _ _ _ _ cap cs h3.1 (fun j u hj=>by rw [Addr.add_mid]; simpa using h4 j u hj)
theorem Aa (hP:aV P S ak) {t tx ty:Nat} {e:Ty} (ht:S.ty t=some (.sl e)) {n m cap:Nat} {base:Option Addr} {x:Value} {news olds:List Value} (hs:Src P (Ty.sz S e) tx x m news w)
 (hold:(Builtin.firstCells (Ty.sz S e) n (.slice base n cap)).run P w.drew= .ok olds.toArray w.drew) (HC:olds.length=n*Ty.sz S e) (hle:n≤cap) (hlim:(n+m)*ak t≤limit):
 (m=0∧(Builtin.append_ #[t,tx] ty #[.slice base n cap,x]).run P w= .ok (.slice base n cap) w)∨
 (0<m∧n+m≤cap∧ ∀ b off,base=some ⟨b,off,none⟩→w.there b (off+n*Ty.sz S e) news.length→(Builtin.append_ #[t,tx] ty #[.slice base n cap,x]).run P w= .ok (.slice base (n+m) cap) (w.setCells b (off+n*Ty.sz S e) news))∨
 (∃ c' te cells,cap<n+m∧n+m≤c'∧Array.size cells=c'*Ty.sz S e∧(olds++news) <+: cells.toList∧
  (Builtin.append_ #[t,tx] ty #[.slice base n cap,x]).run P w= .ok (.slice (some ⟨w.heap.size,0,none⟩) (n+m) c') (w.drew.alloc (.cells cells te))):=by
 obtain ⟨te,ie,_,hu,hte,hie,hby,fP,_⟩:=hP.sl ht
 obtain ⟨⟨i,z,h1,h2,h3,h4,h5⟩,_⟩:=hP.ty te _ hte
 rw [hie] at h1
 cases h1
 rw [← h2] at hs hold HC ⊢
 rcases Nat.eq_zero_or_pos m with h0 | h0
 · left
   subst h0
   have hn:news= []:=by have :=hs.newsLen; rw [Nat.zero_mul] at this; exact List.length_eq_zero_iff.1 this
   subst hn
   exact ⟨rfl,run_append_nothing w t tx ty te ie hu hie base n cap hle x hs⟩
 · right
   by_cases hroom:n+m≤cap
   · left
     refine ⟨h0,hroom, ?_⟩
     rintro b off rfl cl
     exact run_append_room_src w t tx ty te ie hu hie b off n cap x m news hs hroom (fun j hj=>(cl j hj).1) (fun j hj=>(cl j hj).2)
   · right
     have WO:limit=140737488355328:=rfl
     have h63:((n+m:Nat):Int)≤9223372036854775807:=by
      have :(n+m)*1≤(n+m)*ak t:=Nat.mul_le_mul_left _ fP
      omega
     refine ⟨_,te,_,by omega,grownCap_ge w (n+m) cap te, ?_, ?_,run_append_grow_src w t tx ty te ie z hu hie h3 base n cap olds hold x m news hs (by omega) h63 (growslice_fits (by omega) (by rw [hby]; omega))⟩
     · have hg:=grownCap_ge w (n+m) cap te
       have hzs:z.cells.size=ie.size:=by
        have :=congrArg List.length h5
        rw [Array.length_toList] at this
        rw [this,h2]
        cases e <;> simp [su,Ty.sz]
       rw [Array.size_append,size_zeroCells,hzs,List.size_toArray,List.length_append,HC,hs.newsLen, ← Nat.add_mul, ← Nat.add_mul]
       congr 1
       omega
     · rw [Array.toList_append,List.toList_toArray]
       exact List.prefix_append _ _
theorem Inv.swap (h:Inv P S w0 M0 s0 dq env a w μ) {b B:Nat} {B0 BX:dP S.C} {L:Loc} {w':World} {T:St} (hb:env.bx b=some B0) (cj:live S env.bx b) (hB:env.bx B=none)
 (hw:aY w w' T) (hT: ∀ k o,T k o→(μ b).aF k o) (hL: ∀ k o,L.aF k o→w.heap.size≤k∨(μ b).aF k o) (hnc: ∀ vs,BX≠ .cells vs∧BX≠ .bW vs)
 (Cb:bY w (aG S w0 M0 s0 env.bx μ w) w' (aG S w0 M0 s0 (au (au env.bx b (some .dead)) B (some BX)) (au μ B L) w')→
  RB P S w' (aG S w0 M0 s0 (au (au env.bx b (some .dead)) B (some BX)) (au μ B L) w') (au μ B L) (au (au env.bx b (some .dead)) B (some BX)) L BX):
 Inv P S w0 M0 s0 dq { env with bx:=au (au env.bx b (some .dead)) B (some BX) } a w' (au μ B L)∧
 bY w (aG S w0 M0 s0 env.bx μ w) w' (aG S w0 M0 s0 (au (au env.bx b (some .dead)) B (some BX)) (au μ B L) w')∧
 (∀ k o,((μ b).aF k o∨k=w.heap.size)→k<w'.heap.size→ ¬ L.aF k o→aG S w0 M0 s0 (au (au env.bx b (some .dead)) B (some BX)) (au μ B L) w' k o):=by
 have hne:b≠B:=fun e=>by rw [e,hB] at hb; cases hb
 have hbd:au (au env.bx b (some .dead)) B (some BX) b=some .dead:=by rw [bg _ _ hne,aR]
 have GR:au (au env.bx b (some .dead)) B (some BX) B=some BX:=aR _ _ _
 have hU: ∀ i, ¬ (i=b∨i=B)→au (au env.bx b (some .dead)) B (some BX) i=env.bx i∧au μ B L i=μ i:=fun i hi=>by
  rw [bg _ _ fun e=>hi (.inr e),bg _ _ fun e=>hi (.inl e),bg _ _ fun e=>hi (.inr e)]
  exact ⟨rfl,rfl⟩
 have ko: ¬ live S (au (au env.bx b (some .dead)) B (some BX)) b:=fun hl=>by unfold live at hl; rw [hbd] at hl; exact hl
 have hf: ∀ i,(i=b∨i=B)→live S (au (au env.bx b (some .dead)) B (some BX)) i→ ∀ k o,(au μ B L i).aF k o→w.heap.size≤k∨ ∃ j,(j=b∨j=B)∧live S env.bx j∧(μ j).aF k o:=by
  rintro i (rfl | rfl) hl k o hfo
  · exact absurd hl ko
  · rw [aR] at hfo
    exact (hL k o hfo).imp id fun hfo=>⟨b, .inl rfl,cj,hfo⟩
 have kj: ∀ k o,T k o→k<w.heap.size→ ∃ i,(i=b∨i=B)∧live S env.bx i∧(μ i).aF k o:=fun k o ht _=>⟨b, .inl rfl,cj,hT k o ht⟩
 have hl:=h.later hw kj hU hf
 refine ⟨h.step (U:=fun i=>i=b∨i=B) hw kj hU hf ?_ ?_ ?_ ?_,hl, ?_⟩
 · intro i B1 hi
   by_cases e1:i=b
   · subst e1
     refine ⟨_,hbd, ?_⟩
     rw [bg _ _ hne]
     cases B1 <;> rfl
   · have e2:i≠B:=fun e=>by rw [e,hB] at hi; cases hi
     rw [bg _ _ e2,bg _ _ e1,bg _ _ e2]
     exact ⟨B1,hi,cM.refl S _ _⟩
 · rintro i j (rfl | rfl) (rfl | rfl) hij li lj
   · exact absurd rfl hij
   · exact absurd li ko
   · exact absurd lj ko
   · exact absurd rfl hij
 · rintro i B1 (rfl | rfl) ki
   · rw [hbd] at ki; cases ki; trivial
   · rw [GR] at ki; cases ki
     rw [aR]
     exact Cb hl
 · rintro i vs (rfl | rfl) hvs
   · rcases hvs with hvs | hvs <;> · rw [hbd] at hvs; cases hvs
   · rcases hvs with hvs | hvs <;> rw [GR] at hvs
     · exact absurd (Option.some.inj hvs) (hnc vs).1
     · exact absurd (Option.some.inj hvs) (hnc vs).2
 · intro k o' hk hlt P_
   refine ⟨hlt, ?_,fun i li hfo=> ?_⟩
   · rcases hk with hk | rfl
     · exact (h.own b cj k o' hk).elim (fun h=> .inr (.inr h)) (fun h=> .inr (.inl h))
     · exact .inr (.inr h.gY.size)
   · by_cases e1:i=b
     · subst e1; exact ko li
     · by_cases e2:i=B
       · subst e2; rw [aR] at hfo; exact P_ hfo
       · have hu:=hU i fun e=>e.elim e1 e2
         rw [eA S hu.1] at li
         rw [hu.2] at hfo
         rcases hk with hk | rfl
         · exact h.dr i b e1 li cj _ _ hfo hk
         · exact absurd (lZ P S (h.cg i) li hfo).1 (Nat.lt_irrefl _)
end
end Go.Sy
namespace Go.Sy
section
variable {P:Program} {S:aS} {ak:Nat→Nat}
variable {w0:World} {M0 s0:St} {dq:List Deferred} {env:Env S.C} {a:Act} {w:World} {μ:Nat→Loc} {K:Act→World→Prop} {Q:Exit→Act→World→Prop} {o:Oper} {V:V S.C} {us:aI S.C}
theorem Es {s:St} {e:Ty} {l:List (e.den S.C)} {b o' cap:Nat} (hle:l.length≤cap)
 (hall: ∀ (i:Nat) (x:e.den S.C),l[i]? =some x→ ∃ ds,ds.length=Ty.sz S e∧At w s b (o'+i*Ty.sz S e) ds∧ ∃ n,aC S w s n e x ds):cA S w s (.sl e) l (.slice (some ⟨b,o',none⟩) l.length cap):=by
 have : ∀ m,m≤l.length→ ∃ n, ∀ (i:Nat) (x:e.den S.C),i<m→l[i]? =some x→ ∃ ds,ds.length=Ty.sz S e∧At w s b (o'+i*Ty.sz S e) ds∧aC S w s n e x ds:=by
  intro m
  induction m with
  | zero=>exact fun _=>⟨0,fun i x hi=>by omega⟩
  | succ m ih=>
   intro hm
   obtain ⟨n,hn⟩:=ih (by omega)
   obtain ⟨ds,h1,h2,n',h3⟩:=hall m l[m] (by simp)
   refine ⟨max n n',fun i x hi hx=> ?_⟩
   by_cases e:i=m
   · subst e
     have :x=l[i]:=by simpa [List.getElem?_eq_getElem (show i<l.length by omega)] using hx.symm
     subst this
     exact ⟨ds,h1,h2,h3.up S (by omega)⟩
   · obtain ⟨ds,h1,h2,h3⟩:=hn i x (by omega) hx
     exact ⟨ds,h1,h2,h3.up S (by omega)⟩
 obtain ⟨n,hn⟩:=this l.length (Nat.le_refl _)
 exact ⟨rfl,n+1,_,cap,rfl,hle, .inr ⟨b,o',rfl,fun i x hx=>hn i x (List.getElem?_eq_some_iff.1 hx).1 hx⟩⟩
theorem cX.at {s:St} {e:Ty} {l:List (e.den S.C)} {cs:List Value} (h:cX w s e l cs) {b o':Nat} (hr:At w s b o' cs):
 ∀ i x,l[i]? =some x→ ∃ ds,ds.length=Ty.sz S e∧At w s b (o'+i*Ty.sz S e) ds∧ ∃ n,aC S w s n e x ds:=fun i x hi=>by
 obtain ⟨n,hn⟩:=h.2 i x hi
 exact ⟨_,hn.length S,hr.part _ _,n,hn⟩
theorem My {s:St} {e:Ty} {l l':List (e.den S.C)} {b o':Nat}
 (h1: ∀ i x,l[i]? =some x→ ∃ ds,ds.length=Ty.sz S e∧At w s b (o'+i*Ty.sz S e) ds∧ ∃ n,aC S w s n e x ds)
 (h2: ∀ i x,l'[i]? =some x→ ∃ ds,ds.length=Ty.sz S e∧At w s b (o'+l.length*Ty.sz S e+i*Ty.sz S e) ds∧ ∃ n,aC S w s n e x ds):
 ∀ i x,(l++l')[i]? =some x→ ∃ ds,ds.length=Ty.sz S e∧At w s b (o'+i*Ty.sz S e) ds∧ ∃ n,aC S w s n e x ds:=fun i x hi=>by
 by_cases hlt:i<l.length
 · rw [List.getElem?_append_left hlt] at hi; exact h1 i x hi
 · rw [List.getElem?_append_right (by omega)] at hi
   have :=h2 _ x hi
   rw [Nat.add_assoc, ← Nat.add_mul,show l.length+(i - l.length)=i from by omega] at this
   exact this
theorem u6 {s:St} {e:Ty} {l l':List (e.den S.C)} {b o':Nat}
 (h1: ∀ i x,l[i]? =some x→ ∃ ds,ds.length=Ty.sz S e∧w.rangeAt b (o'+i*Ty.sz S e) ds∧ ∃ n,aC S w s n e x ds)
 (h2: ∀ i x,l'[i]? =some x→ ∃ ds,ds.length=Ty.sz S e∧w.rangeAt b (o'+l.length*Ty.sz S e+i*Ty.sz S e) ds∧ ∃ n,aC S w s n e x ds):
 ∀ i x,(l++l')[i]? =some x→ ∃ ds,ds.length=Ty.sz S e∧w.rangeAt b (o'+i*Ty.sz S e) ds∧ ∃ n,aC S w s n e x ds:=fun i x hi=>by
 by_cases hlt:i<l.length
 · rw [List.getElem?_append_left hlt] at hi; exact h1 i x hi
 · rw [List.getElem?_append_right (by omega)] at hi
   have :=h2 _ x hi
   rw [Nat.add_assoc, ← Nat.add_mul,show l.length+(i - l.length)=i from by omega] at this
   exact this
theorem pW (h:Inv P S w0 M0 s0 dq env a w μ) (hd: ∀ d,o.dst=some d→d<a.tmps.size) {b B:Nat} {B0 BX:dP S.C} {L:Loc} {w':World} {T:St} {v:Value} (hb:env.bx b=some B0) (cj:live S env.bx b) (hB:env.bx B=none)
 (hrun:(execOp a.eval o).run P w= .ok (.value v) w')
 (hw:aY w w' T) (hT: ∀ k o,T k o→(μ b).aF k o) (hL: ∀ k o,L.aF k o→w.heap.size≤k∨(μ b).aF k o) (hnc: ∀ vs,BX≠ .cells vs∧BX≠ .bW vs)
 (Cb: ∀ s',bY w (aG S w0 M0 s0 env.bx μ w) w' s'→RB P S w' s' (au μ B L) (au (au env.bx b (some .dead)) B (some BX)) L BX)
 (hV: ∀ s',bY w (aG S w0 M0 s0 env.bx μ w) w' s'→(∀ k o,((μ b).aF k o∨k=w.heap.size)→k<w'.heap.size→ ¬ L.aF k o→s' k o)→
  RV P S w' s' (au μ B L) (au (au env.bx b (some .dead)) B (some BX)) V v)
 (kn: ∀ i ∈ aA S V,i=B) (hK:Goal P S w0 M0 s0 dq env a o.dst V [(b, .dead),(B,BX)] K):o.wp P a w K Q:=by
 obtain ⟨hI,hl,hm⟩:=h.swap hb cj hB hw hT hL hnc (Cb _)
 unfold Oper.wp
 rw [hrun]
 refine hK _ w' _ (hI.put hd (hV _ hl hm) fun i hi=> ?_) ?_
 · rw [kn i hi]
   show au (au env.bx b (some .dead)) B (some BX) B≠none
   rw [aR]; simp
 · cases o.dst <;> simp [Act.put]
theorem Fq {f:Operand→Option (Sy.V S.C)} {xs:List Operand} {v u:Sy.V S.C} (h:xs.mapM f=some [v,u]): ∃ x y,xs= [x,y]∧f x=some v∧f y=some u:=by
 cases xs with
 | nil=>cases h
 | cons x r=>
  obtain ⟨y,zs,h1,h2,h3⟩:=mT h
  cases h3
  cases r with
  | nil=>cases h2
  | cons x' r'=>
   obtain ⟨y',zs',h4,h5,h6⟩:=mT h2
   cases h6
   cases r' with
   | nil=>exact ⟨x,x',rfl,h1,h4⟩
   | cons x'' r''=>
    obtain ⟨y',zs',h7,h8,h9⟩:=mT h5
    cases h9
theorem aY.grown {w:World} {cells:Array Value} {t:TypeId} (T:St):aY w (w.drew.alloc (.cells cells t)) T:=
 (aY.drew w T).trans (aY.alloc w.drew _ T) (fun _ _ h=>h) (fun _ _ _ h=>h)
theorem GO {w:World} {cells:Array Value} {t:TypeId} :(w.drew.alloc (.cells cells t)).there w.heap.size 0 cells.size∧(w.drew.alloc (.cells cells t)).rangeAt w.heap.size 0 cells.toList∧w.heap.size<(w.drew.alloc (.cells cells t)).heap.size:=by
 obtain ⟨h1,h2⟩:=o9 (w:=w.drew) (cs:=cells) (t:=t)
 exact ⟨h1,h2,by simp⟩
theorem I6 {w:World} {b o':Nat} {cs ds:List Value} (h:w.rangeAt b o' ds) (hp:cs <+: ds):w.rangeAt b o' cs:=fun j v hj=>by
 obtain ⟨r,rfl⟩:=hp
 exact h j v (by rw [List.getElem?_append_left (List.getElem?_eq_some_iff.1 hj).1]; exact hj)
theorem RQ {α:Type} (l:List α) {n i m:Int} (h0:0≤n) (h1:n≤i) (h2:0≤m) (h3:i.toNat+m.toNat≤l.length):(mU l n i m).length=l.length:=by
 unfold mU
 simp only [List.length_append,List.length_take,List.length_drop]
 omega
theorem Mz (hP:aV P S ak) (h:Inv P S w0 M0 s0 dq env a w μ) (hd: ∀ d,o.dst=some d→d<a.tmps.size) {c:Call} (ho:o.op= .call c) (hc:c.callee= .builtin .append) {args:List (Sy.V S.C)} {ids:List Nat} {B:Nat}
 (hargs:c.args.toList.mapM (aO S env.tm)=some args) (fQ: ∀ V ∈ args, ∀ i ∈ aA S V,restrict S env.bx ids i=env.bx i)
 (hnew: ∀ u ∈ us,B≤u.1→u.1<B+16→env.bx u.1=none)
 (hl:(match args,c.argTypes.toList with
  | [s,x],[t,u]=>match eM S t,eM S u with
   | some e,some e'=>if e=e' then sJ S B (ak t) e (restrict S env.bx ids) x s else .fail
   | _,_=> .fail
  | _,_=> .fail).leaf (V,us)) (hK:Goal P S w0 M0 s0 dq env a o.dst V us K):o.wp P a w K Q:=by
 split at hl
 · rename_i Vs Vx t tx CL
   split at hl
   · rename_i e e' het PC
     split at hl
     · rename_i hee
       subst hee
       obtain ⟨xs,xx,hxs,nJ,hex⟩:=Fq hargs
       obtain ⟨hs,_⟩:=bB h nJ
       obtain ⟨hx,_⟩:=bB h hex
       have ht:=nG het
       have vV:=nG PC
       have cG:c.argTypes= #[t,tx]:=by
        have :c.argTypes=c.argTypes.toList.toArray:=by simp
        rw [this,CL]
       have har:c.args= #[xs,xx]:=by
        have :c.args=c.args.toList.toArray:=by simp
        rw [this,hxs]
       have hrun: ∀ {v:Value} {w':World},(Builtin.append_ #[t,tx] o.type #[a.eval xs,a.eval xx]).run P w= .ok v w'→(execOp a.eval o).run P w= .ok (.value v) w':=by
        intro v w' hr
        unfold execOp
        simp only [ho]
        simp [resolve,hc,har,cG,invoke,builtin,hr]
       have yG: ∀ BX,(B,BX) ∈ us→env.bx B=none:=fun BX hm=>hnew _ hm (Nat.le_refl _) (by show B<B+16; omega)
       have s9: ∀ y,datum S (restrict S env.bx ids) (.sl e) Vx=some y→datum S env.bx (.sl e) Vx=some y:=fun y hy=>by
        rw [← (vg (t:= .sl e) (fQ Vx (by simp))).1]; exact hy
       cases Vs with
       | aZ b e' l=>
        simp only [sJ] at hl
        split at hl
        · rename_i hb
          have hb:=eU hb
          split at hl
          · rename_i l' hl'
            obtain ⟨e1,e2⟩:=ew hl'
            cases e1
            dsimp only at e2
            subst e2
            split at hl
            · rename_i y hy
              obtain ⟨hg,rfl,rfl⟩:=fN hl
              have hlim:(l.length+y.length)*ak t≤limit:=hg (gd ((l.length+y.length)*ak t≤limit)) (by simp)
              have hB:=yG .tail (by simp)
              obtain ⟨gi,hown⟩:=hs
              obtain ⟨ad,cap,fD,HN⟩:=hown hb
              obtain ⟨news,hsrc,hnews⟩:=(BE h hx (s9 y hy)).src hP vV
              have hread:=gi.read
              rw [fD] at hread
              have hle:l.length≤cap:=by obtain ⟨_,_,q1,q2,_⟩:=hread; cases q1; exact q2
              obtain ⟨olds,hold,holds,_⟩:=hread.old P
              have cj:live S env.bx b:=by unfold live; rw [hb]; trivial
              have cl:w.there (μ b).b (μ b).o (μ b).n:=h.cg b _ hb
              have kn: ∀ i ∈ aA S (.aZ B e (List.append l y):Sy.V S.C),i=B:=fun i hi=>by simpa [aA,az] using hi
              rcases Aa (ty:=o.type) hP ht hsrc hold holds.1 hle hlim with ⟨h0,hr⟩ | ⟨h0,hroom,hr⟩ | ⟨c',te,cells,hcap,gH,hcsz,hpre,hr⟩
              · have :y= []:=List.length_eq_zero_iff.1 h0
                subst this
                rw [← fD] at hr
                refine pW (V:= .aZ B e (List.append l [])) (BX:= .tail) (L:=μ b) h hd hb cj hB (hrun hr) (aY.refl w (fun _ _=>False)) (fun _ _ h=>h.elim) (fun _ _ h=> .inr h) (fun vs=>⟨by simp,by simp⟩) (fun s' hl=>cl) (fun s' hl _=>⟨?_,fun _=>⟨ad,cap, ?_, ?_⟩⟩) kn hK
                · rw [show List.append l []=l from List.append_nil l]; exact gi.mono S hl
                · rw [show List.append l []=l from List.append_nil l]; exact fD
                · rw [show List.append l []=l from List.append_nil l,aR]; exact HN
              · have hnl:=hsrc.newsLen
                rcases HN with ⟨_,hc0,_⟩ | ⟨b0,off,rfl,hn,hlt⟩
                · omega
                · obtain ⟨q1,q2⟩:=hlt (by omega)
                  have hmul:y.length*Ty.sz S e≤(cap - l.length)*Ty.sz S e:=Nat.mul_le_mul_right _ (by omega)
                  have hsplit:(cap - l.length)*Ty.sz S e=y.length*Ty.sz S e+(cap - (l.length+y.length))*Ty.sz S e:=by rw [← Nat.add_mul]; congr 1; omega
                  have hsum:(l.length+y.length)*Ty.sz S e=l.length*Ty.sz S e+y.length*Ty.sz S e:=Nat.add_mul ..
                  rw [q1,q2] at cl
                  have gm:w.there b0 (off+l.length*Ty.sz S e) news.length:=nh cl (Nat.le_refl _) (by omega)
                  have hr:=hr b0 off rfl gm
                  rw [← fD] at hr
                  refine pW (V:= .aZ B e (List.append l y)) (BX:= .tail) (L:=⟨b0,off+(l.length+y.length)*Ty.sz S e,(cap - (l.length+y.length))*Ty.sz S e,0,false⟩) h hd hb cj hB (hrun hr) (aY.setCells w b0 _ news gm) (fun k o' hk=> ?_) (fun k o' hk=> .inr ?_) (fun vs=>⟨by simp,by simp⟩)
                   (fun s' hl=> ?_) (fun s' hl hm=>⟨?_,fun _=>⟨some ⟨b0,off,none⟩,cap, ?_, ?_⟩⟩) kn hK
                  · exact ⟨by rw [q1]; exact hk.1,by omega,by omega⟩
                  · obtain ⟨k1,k2,k3⟩:=hk
                    dsimp only at k1 k2 k3
                    exact ⟨by rw [q1]; exact k1,by omega,by omega⟩
                  · exact uD (nh cl (by dsimp only; omega) (by dsimp only; omega)) gm
                  · have hv:a.eval xs= .slice (some ⟨b0,off,none⟩) l.length cap:=fD
                    obtain ⟨_,_,z1,z2,z3⟩:=lE gi
                    rw [hv] at z1
                    cases z1
                    have hel: ∀ i x,l[i]? =some x→ ∃ ds,ds.length=Ty.sz S e∧At (w.setCells b0 (off+l.length*Ty.sz S e) news) s' b0 (off+i*Ty.sz S e) ds∧ ∃ n,aC S (w.setCells b0 (off+l.length*Ty.sz S e) news) s' n e x ds:=by
                     intro i x hi
                     rcases z3 with z3 | ⟨b1,o1,n,z4,z5⟩
                     · have :=(List.getElem?_eq_some_iff.1 hi).1; omega
                     · cases z4
                       obtain ⟨ds,d1,d2,d3⟩:=z5 i x hi
                       exact ⟨ds,d1,d2.later hl,n,d3.mono S hl (Nat.le_refl _)⟩
                    have hnew2:At (w.setCells b0 (off+l.length*Ty.sz S e) news) s' b0 (off+l.length*Ty.sz S e) news:=fun j v hj=>by
                     have hjl:=(List.getElem?_eq_some_iff.1 hj).1
                     have vF:=zF gm j v hj
                     refine ⟨vF,hm _ _ (.inl ⟨by rw [q1],by omega,by omega⟩) (World.block_lt_of_cell? _ _ vF) fun hf=> ?_⟩
                     have :=hf.2.1
                     dsimp only at this
                     omega
                    have :=Es (cap:=cap) (b:=b0) (o':=off) (l:=List.append l y) (by rw [show (List.append l y).length=l.length+y.length from List.length_append]; exact hroom) (My hel ((hnews.later hl).at hnew2))
                    rw [show (List.append l y).length=l.length+y.length from List.length_append] at this
                    exact this
                  · show Value.slice _ _ _=_
                    rw [show (List.append l y).length=l.length+y.length from List.length_append]
                  · rw [show (List.append l y).length=l.length+y.length from List.length_append,aR]
                    exact .inr ⟨b0,off,rfl,rfl,fun _=>⟨rfl,rfl⟩⟩
              · rw [← fD] at hr
                obtain ⟨g1,g2,g3⟩:=GO (w:=w) (cells:=cells) (t:=te)
                have hsplit:c'*Ty.sz S e=(l.length+y.length)*Ty.sz S e+(c' - (l.length+y.length))*Ty.sz S e:=by rw [← Nat.add_mul]; congr 1; omega
                refine pW (V:= .aZ B e (List.append l y)) (BX:= .tail) (L:=⟨w.heap.size,(l.length+y.length)*Ty.sz S e,(c' - (l.length+y.length))*Ty.sz S e,0,false⟩) h hd hb cj hB (hrun hr) (aY.grown (fun _ _=>False)) (fun _ _ h=>h.elim) (fun k o' hk=> .inl (Nat.le_of_eq hk.1.symm)) (fun vs=>⟨by simp,by simp⟩)
                 (fun s' hl=>nh g1 (Nat.zero_le _) (by dsimp only; omega)) (fun s' hl hm=>⟨?_,fun _=>⟨some ⟨w.heap.size,0,none⟩,c', ?_, ?_⟩⟩) kn hK
                · have hall:At (w.drew.alloc (.cells cells te)) s' w.heap.size 0 (olds++news):=fun j v hj=>by
                   have hjl:=(List.getElem?_eq_some_iff.1 hj).1
                   rw [List.length_append,holds.1,hnews.1, ← Nat.add_mul] at hjl
                   refine ⟨I6 g2 hpre j v hj,hm _ _ (.inr rfl) g3 fun hf=> ?_⟩
                   have :=hf.2.1
                   dsimp only at this
                   omega
                  have :=Es (cap:=c') (b:=w.heap.size) (o':=0) (l:=List.append l y) (by rw [show (List.append l y).length=l.length+y.length from List.length_append]; exact gH) (((holds.append hnews).later hl).at hall)
                  rw [show (List.append l y).length=l.length+y.length from List.length_append] at this
                  exact this
                · show Value.slice _ _ _=_
                  rw [show (List.append l y).length=l.length+y.length from List.length_append]
                · rw [show (List.append l y).length=l.length+y.length from List.length_append,aR]
                  exact .inr ⟨_,0,rfl,rfl,fun _=>⟨rfl,by dsimp only; omega⟩⟩
            · exact hl.elim
          · exact hl.elim
        · exact hl.elim
       | aQ b=>
        simp only [sJ] at hl
        split at hl
        · rename_i e' l hb
          have hb:=eU hb
          split at hl
          · rename_i l' hl'
            obtain ⟨e1,e2⟩:=ew hl'
            cases e1
            dsimp only at e2
            subst e2
            split at hl
            · rename_i y hy
              obtain ⟨hg,rfl,rfl⟩:=fN hl
              have hlim:(l.length+y.length)*ak t≤limit:=hg (gd ((l.length+y.length)*ak t≤limit)) (by simp)
              have hB:=yG (.arr e (List.append l y)) (by simp)
              have hread:=Dj h (.inl hb) hs
              obtain ⟨ad,cap,fD,eZ⟩:=hs.2 e l (.inl hb)
              obtain ⟨news,hsrc,hnews⟩:=(BE h hx (s9 y hy)).src hP vV
              rw [fD] at hread
              have hle:l.length≤cap:=eZ.fits
              obtain ⟨olds,hold,holds,_⟩:=hread.old P
              have cj:live S env.bx b:=by unfold live; rw [hb]; trivial
              obtain ⟨b1,b2,b3,cl,b5⟩:=h.cg b _ hb
              have kn: ∀ i ∈ aA S (.aQ B:Sy.V S.C),i=B:=fun i hi=>by simpa [aA,az] using hi
              have Pr:=eZ.lJ
              have cV: ∀ {w':World} {s':St} {μ':Nat→Loc} {L:Loc} {v:Value} {qf:Option Addr} {cap':Nat},v= .slice qf (l.length+y.length) cap'→ov L qf (l.length+y.length) cap' (Ty.sz S e)→μ' B=L→
               RV P S w' s' μ' (au (au env.bx b (some .dead)) B (some (.arr e (List.append l y)))) (.aQ B) v:=by
               rintro w' s' μ' L v qf cap' rfl hok hμ
               refine ⟨⟨_,_,_,rfl⟩,fun e2 l2 h2=> ?_⟩
               rw [aR] at h2
               rcases h2 with h2 | h2
               · cases h2
                 rw [hμ,show (List.append l y).length=l.length+y.length from List.length_append]
                 exact ⟨qf,cap',rfl,hok⟩
               · cases h2
              rcases Aa (ty:=o.type) hP ht hsrc hold holds.1 hle hlim with ⟨h0,hr⟩ | ⟨h0,hroom,hr⟩ | ⟨c',te,cells,hcap,gH,hcsz,hpre,hr⟩
              · have :y= []:=List.length_eq_zero_iff.1 h0
                subst this
                rw [← fD] at hr
                refine pW (V:= .aQ B) (BX:= .arr e (List.append l [])) (L:=μ b) h hd hb cj hB (hrun hr) (aY.refl w (fun _ _=>False)) (fun _ _ h=>h.elim) (fun _ _ h=> .inr h) (fun vs=>⟨by simp,by simp⟩) (fun s' hl=> ?_) (fun s' hl _=>cV fD eZ (aR _ _ _)) kn hK
                rw [show List.append l []=l from List.append_nil l]
                refine ⟨b1,b2,b3,cl,fun i x hi=> ?_⟩
                obtain ⟨ds,d1,d2,n,d3⟩:=b5 i x hi
                exact ⟨ds,d1,d2,n,d3.mono S hl (Nat.le_refl _)⟩
              · have hnl:=hsrc.newsLen
                have iF:(μ b).nil=false:=by
                 cases hn:(μ b).nil with
                 | false=>rfl
                 | true=>have :=eZ.isNil hn; omega
                have had:=eZ.addr
                rw [iF] at had
                have hmul:(l.length+y.length)*Ty.sz S e≤(μ b).cap*Ty.sz S e:=Nat.mul_le_mul_right _ (by omega)
                rw [Nat.add_mul] at hmul
                have gm:w.there (μ b).b ((μ b).o+l.length*Ty.sz S e) news.length:=nh cl (by omega) (by omega)
                have hr:=hr _ _ had gm
                rw [← fD] at hr
                refine pW (V:= .aQ B) (BX:= .arr e (List.append l y)) (L:=μ b) h hd hb cj hB (hrun hr) (aY.setCells w (μ b).b _ news gm) (fun k o' hk=>⟨hk.1,by omega,by omega⟩) (fun k o' hk=> .inr hk) (fun vs=>⟨by simp,by simp⟩)
                 (fun s' hl=>⟨b1,b2, ?_,uD cl gm, ?_⟩) (fun s' hl hm=>cV (cap':=cap) rfl ?_ (aR _ _ _)) kn hK
                · rw [show (List.append l y).length=l.length+y.length from List.length_append]; omega
                · refine u6 (fun i x hi=> ?_) ((hnews.later hl).row (zF gm))
                  obtain ⟨ds,d1,d2,n,d3⟩:=b5 i x hi
                  refine ⟨ds,d1,tP d2 (.inr (.inl ?_)),n,d3.mono S hl (Nat.le_refl _)⟩
                  have tg:=(List.getElem?_eq_some_iff.1 hi).1
                  have :(i+1)*Ty.sz S e≤l.length*Ty.sz S e:=Nat.mul_le_mul_right _ (by omega)
                  rw [Nat.add_mul,Nat.one_mul] at this
                  omega
                · exact ⟨eZ.addr,eZ.lJ,eZ.cells,eZ.isNil,hroom⟩
              · rw [← fD] at hr
                obtain ⟨g1,g2,g3⟩:=GO (w:=w) (cells:=cells) (t:=te)
                refine pW (V:= .aQ B) (BX:= .arr e (List.append l y)) (L:=⟨w.heap.size,0,c'*Ty.sz S e,c',false⟩) h hd hb cj hB (hrun hr) (aY.grown (fun _ _=>False)) (fun _ _ h=>h.elim) (fun k o' hk=> .inl (Nat.le_of_eq hk.1.symm)) (fun vs=>⟨by simp,by simp⟩)
                 (fun s' hl=>⟨rfl,(fun h=>by cases h), ?_,by show World.there _ w.heap.size 0 (c'*Ty.sz S e); rw [← hcsz]; exact g1, ?_⟩) (fun s' hl hm=>cV (cap':=c') rfl ⟨rfl,rfl,rfl,(fun h=>by cases h),gH⟩ (aR _ _ _)) kn hK
                · rw [show (List.append l y).length=l.length+y.length from List.length_append]; exact gH
                · exact ((holds.append hnews).later hl).row (I6 g2 hpre)
            · exact hl.elim
          · exact hl.elim
        · exact hl.elim
       | pre b n=>
        simp only [sJ] at hl
        split at hl
        · rename_i e' l b' i m hb _
          have hb:=eU hb
          cases s8:Nat.beq b' b with
          | false=>rw [s8] at hl; exact hl.elim
          | true=>
           rw [s8,cond_true] at hl
           have :=Nat.eq_of_beq_eq_true s8
           subst this
           split at hl
           · rename_i l' hl'
             obtain ⟨e1,e2⟩:=ew hl'
             cases e1
             dsimp only at e2
             subst e2
             obtain ⟨hg,rfl,rfl⟩:=fN hl
             have hni:n≤i:=hg (gd (n≤i)) (by simp)
             have P0:List.length l*ak t≤limit:=hg (gd (List.length l*ak t≤limit)) (by simp)
             have hB:=yG (.arr e (mU l n i m)) (by simp)
             obtain ⟨hn0,hnl,ad,cap,fD,eZ⟩:=hs.2 e l hb
             obtain ⟨hi0,hm0,Cw,Mn,cap2,CU,P8,Pf⟩:=hx.2 e l hb
             obtain ⟨b1,b2,b3,cl,b5⟩:=h.cg b' _ hb
             have Pr:=eZ.lJ
             have cj:live S env.bx b':=by unfold live; rw [hb]; trivial
             obtain ⟨y,hy⟩: ∃ y,y=(List.drop i.toNat l).take m.toNat:=⟨_,rfl⟩
             have QB:y.length=m.toNat:=by rw [hy,List.length_take,List.length_drop]; omega
             have Qz: ∀ k x,y[k]? =some x→l[i.toNat+k]? =some x:=fun k x hk=>by
              rw [hy,List.getElem?_take] at hk
              split at hk
              · rwa [List.getElem?_drop] at hk
              · cases hk
             have hrd:Read S w (aG S w0 M0 s0 env.bx μ w) e y (a.eval xx):=by
              refine ⟨Mn,cap2,by rw [QB]; exact CU,by omega, ?_⟩
              rcases Pf with h0 | h0
              · exact .inl (by omega)
              · refine .inr ⟨_,_,h0,fun k x hk=> ?_⟩
                obtain ⟨ds,d1,d2,q,d3⟩:=b5 _ x (Qz k x hk)
                exact ⟨ds,d1,by rw [show (μ b').o+i.toNat*Ty.sz S e+k*Ty.sz S e=(μ b').o+(i.toNat+k)*Ty.sz S e from by rw [Nat.add_mul]; omega]; exact d2,q,d3⟩
             have hpl:(List.take n.toNat l).length=n.toNat:=by rw [List.length_take]; omega
             have Qh:Read S w (aG S w0 M0 s0 env.bx μ w) e (List.take n.toNat l) (.slice ad (List.take n.toNat l).length cap):=by
              refine ⟨ad,cap,rfl,by rw [hpl]; exact eZ.fits, ?_⟩
              by_cases h0:n.toNat=0
              · exact .inl (by rw [hpl]; exact h0)
              · have iF:(μ b').nil=false:=by
                 cases hn:(μ b').nil with
                 | false=>rfl
                 | true=>have :=eZ.isNil hn; have :=eZ.fits; omega
                have had:=eZ.addr
                rw [iF] at had
                refine .inr ⟨_,_,had,fun k x hk=> ?_⟩
                rw [List.getElem?_take] at hk
                split at hk
                · exact b5 k x hk
                · cases hk
             obtain ⟨news,hsrc,hnews⟩:=hrd.src hP vV
             obtain ⟨olds,hold,holds,_⟩:=Qh.old P
             rw [hpl] at hold
             have hol:=holds.1
             rw [hpl] at hol
             have hlim:(n.toNat+y.length)*ak t≤limit:=Nat.le_trans (Nat.mul_le_mul_right _ (by omega)) P0
             have kn: ∀ j ∈ aA S (.pre B (n+m):Sy.V S.C),j=B:=fun j hj=>by simpa [aA,az] using hj
             have hml:=RQ l hn0 hni hm0 Cw
             have hnm:(n+m).toNat=n.toNat+y.length:=by omega
             have cV: ∀ {w':World} {s':St} {μ':Nat→Loc} {v:Value},v= .slice ad (n.toNat+y.length) cap→μ' B=μ b'→
              RV P S w' s' μ' (au (au env.bx b' (some .dead)) B (some (.arr e (mU l n i m)))) (.pre B (n+m)) v:=by
              rintro w' s' μ' v rfl hμ
              refine ⟨⟨_,_,_,rfl⟩,fun e2 l2 h2=> ?_⟩
              rw [aR] at h2
              cases h2
              rw [hμ,hml]
              exact ⟨by omega,by omega,ad,cap,by rw [hnm],eZ.addr,eZ.lJ,eZ.cells,eZ.isNil,by omega⟩
             have Hw:mU l n i m=(List.take n.toNat l++y)++List.drop (n.toNat+y.length) l:=by
              unfold mU; rw [hnm,hy]
             rcases Aa (ty:=o.type) hP ht hsrc hold hol eZ.fits hlim with ⟨h0,hr⟩ | ⟨h0,hroom,hr⟩ | ⟨c',te,cells,hcap,gH,hcsz,hpre,hr⟩
             · have hy0:y= []:=List.length_eq_zero_iff.1 h0
               rw [← fD] at hr
               refine pW (V:= .pre B (n+m)) (BX:= .arr e (mU l n i m)) (L:=μ b') h hd hb cj hB (hrun hr) (aY.refl w (fun _ _=>False)) (fun _ _ h=>h.elim) (fun _ _ h=> .inr h) (fun vs=>⟨by simp,by simp⟩) (fun s' hl=> ?_) (fun s' hl _=>cV (by rw [fD,h0]; rfl) (aR _ _ _)) kn hK
               have :mU l n i m=l:=by rw [Hw,hy0]; simp
               rw [this]
               refine ⟨b1,b2,b3,cl,fun i x hi=> ?_⟩
               obtain ⟨ds,d1,d2,n,d3⟩:=b5 i x hi
               exact ⟨ds,d1,d2,n,d3.mono S hl (Nat.le_refl _)⟩
             · have WS:=hsrc.newsLen
               have iF:(μ b').nil=false:=by
                cases hn:(μ b').nil with
                | false=>rfl
                | true=>have :=eZ.isNil hn; omega
               have had:=eZ.addr
               rw [iF] at had
               have hmul:(n.toNat+y.length)*Ty.sz S e≤(μ b').cap*Ty.sz S e:=Nat.mul_le_mul_right _ (by omega)
               have hsum:(n.toNat+y.length)*Ty.sz S e=n.toNat*Ty.sz S e+y.length*Ty.sz S e:=Nat.add_mul ..
               have gm:w.there (μ b').b ((μ b').o+n.toNat*Ty.sz S e) news.length:=nh cl (by omega) (by omega)
               have hr:=hr _ _ had gm
               rw [← fD] at hr
               refine pW (V:= .pre B (n+m)) (BX:= .arr e (mU l n i m)) (L:=μ b') h hd hb cj hB (hrun hr) (aY.setCells w (μ b').b _ news gm) (fun k o' hk=>⟨hk.1,by omega,by omega⟩) (fun k o' hk=> .inr hk) (fun vs=>⟨by simp,by simp⟩)
                (fun s' hl=>⟨b1,b2,by rw [hml]; exact b3,uD cl gm, ?_⟩) (fun s' hl hm=>cV rfl (aR _ _ _)) kn hK
               rw [Hw]
               refine u6 (u6 (fun k x hk=> ?_) ?_) (fun k x hk=> ?_)
               · rw [List.getElem?_take] at hk
                 split at hk
                 · rename_i hkn
                   obtain ⟨ds,d1,d2,q,d3⟩:=b5 k x hk
                   refine ⟨ds,d1,tP d2 (.inr (.inl ?_)),q,d3.mono S hl (Nat.le_refl _)⟩
                   have :(k+1)*Ty.sz S e≤n.toNat*Ty.sz S e:=Nat.mul_le_mul_right _ (by omega)
                   rw [Nat.add_mul,Nat.one_mul] at this
                   omega
                 · cases hk
               · rw [hpl]
                 exact (hnews.later hl).row (zF gm)
               · rw [List.getElem?_drop] at hk
                 obtain ⟨ds,d1,d2,q,d3⟩:=b5 _ x hk
                 rw [List.length_append,hpl,Nat.add_assoc, ← Nat.add_mul]
                 refine ⟨ds,d1,tP d2 (.inr (.inr ?_)),q,d3.mono S hl (Nat.le_refl _)⟩
                 have :(n.toNat+y.length)*Ty.sz S e≤(n.toNat+y.length+k)*Ty.sz S e:=Nat.mul_le_mul_right _ (by omega)
                 omega
             · omega
           · exact hl.elim
        · exact hl.elim
       | cI=>
        simp only [sJ] at hl
        split at hl
        · rename_i y hy
          obtain ⟨hg,rfl,rfl⟩:=fN hl
          have hlim:y.length*ak t≤limit:=hg (gd (y.length*ak t≤limit)) (by simp)
          have hB:=yG (.arr e y) (by simp)
          obtain ⟨news,hsrc,hnews⟩:=(BE h hx (s9 y hy)).src hP vV
          have fD:a.eval xs= .slice none 0 0:=hs
          have hold:(Builtin.firstCells (Ty.sz S e) 0 (.slice none 0 0)).run P w.drew= .ok (#[]:Array Value) w.drew:=run_firstCells_none _ _ _ _ _
          rcases Aa (olds:= []) (ty:=o.type) hP ht hsrc hold (by simp) (Nat.le_refl 0) (by rw [Nat.zero_add]; exact hlim) with ⟨h0,hr⟩ | ⟨h0,hroom,hr⟩ | ⟨c',te,cells,hcap,gH,hcsz,hpre,hr⟩
          · have :y= []:=List.length_eq_zero_iff.1 h0
            subst this
            rw [← fD] at hr
            refine pV (i:=B) (B:= .arr e []) (V:= .aQ B) (L:=⟨0,0,0,0,true⟩) h (hrun hr) hd (aY.refl w _) hB (fun b o' hf=> ?_) (fun hl _ h3=>⟨⟨by simp,fun _=>rfl,Nat.le_refl _,fun j hj=>absurd hj (Nat.not_lt_zero j),fun i x hi=>by simp at hi⟩,⟨⟨none,0,0,fD⟩,fun e' l' hb=> ?_⟩⟩)
             (fun vs hvs=>by rcases hvs with hvs | hvs <;> cases hvs) (fun j hj=> .inl (by simpa [aA,az] using hj)) hK
            · have h1:=hf.2.1; have h2:=hf.2.2; simp at h2
            · rw [aR] at hb
              rcases hb with hb | hb
              · cases hb
                rw [aR]
                exact ⟨none,0,fD,rfl,rfl,by simp,fun _=>rfl,Nat.le_refl _⟩
              · cases hb
          · omega
          · rw [← fD] at hr
            rw [Nat.zero_add] at gH hr
            exact EN (us:= []) (t:=te) (e:=e) (l:=y) (cap:=c') (cells:=cells) (cs:=news) (w1:=w.drew) h hd (Tk.refl S _) hB rfl ⟨rfl,rfl,rfl⟩ (hrun hr) gH hcsz hnews hpre hK
        · exact hl.elim
       | _=>exact hl.elim
     · exact hl.elim
   · exact hl.elim
 · exact hl.elim
theorem Nv {α:Type} (z:α) (l:List α) {i m:Int} (h3:i.toNat+m.toNat≤l.length) (h0:0≤i) (h1:0≤m):(vf z l i m).length=l.length:=by
 unfold vf
 simp only [List.length_append,List.length_take,List.length_drop,List.length_replicate]
 omega
theorem Uq (hP:aV P S ak) {t:Nat} {e:Ty} (ht:S.ty t=some (.sl e)) {ty:Nat} {ad:Option Addr} {n cap b o':Nat} {news:List Value} (had:n=0∧news= []∨ad=some ⟨b,o',none⟩)
 {te:Nat} {ie:TypeInfo} {z:Value} (hu:P.underlying t=some (.slice te)) (hz: ∀ w,(zeroValue te).run P w= .ok z w) (hn:(Builtin.zeroCells z.cells n).toList=news) (cl:w.there b o' news.length) (h1: ∀ c ∈ news,c.oneCell'=true):
 (Builtin.clear_ #[t] ty #[.slice ad n cap]).run P w= .ok (.tuple #[]) (w.setCells b o' news):=by
 rcases Nat.eq_zero_or_pos n with h0 | h0
 · subst h0
   have :news= []:=by rw [← hn]; simp [Builtin.zeroCells]
   subst this
   cases ad <;> simp [Builtin.clear_,run_underlying hu,UL]
 · rcases had with ⟨h2,_⟩ | h2
   · omega
   · subst h2
     have hst:=run_storeCells_cells (P:=P) b o' news 0 w (by simpa using fun j hj=>(cl j hj).1) (by simpa using fun j hj=>(cl j hj).2) h1
     simp only [Nat.add_zero] at hst
     obtain ⟨m,rfl⟩: ∃ m,n=m+1:=⟨n - 1,by omega⟩
     simp [Builtin.clear_,run_underlying hu,hz,hn,hst]
theorem Nu (hP:aV P S ak) (h:Inv P S w0 M0 s0 dq env a w μ) (hd: ∀ d,o.dst=some d→d<a.tmps.size) {c:Call} (ho:o.op= .call c) (hc:c.callee= .builtin .clear) {args:List (Sy.V S.C)} {ids:List Nat}
 (hargs:c.args.toList.mapM (aO S env.tm)=some args)
 (hl:(match args,c.argTypes.toList with
  | [v],[t]=>match eM S t with
   | some e=>BA S e (restrict S env.bx ids) v
   | none=> .fail
  | _,_=> .fail).leaf (V,us)) (hK:Goal P S w0 M0 s0 dq env a o.dst V us K):o.wp P a w K Q:=by
 split at hl
 · rename_i Vs t CL
   split at hl
   · rename_i e het
     have hone: ∃ x,c.args= #[x]∧aO S env.tm x=some Vs:=by
      have hca:c.args=c.args.toList.toArray:=by simp
      cases e:c.args.toList with
      | nil=>rw [e] at hargs; cases hargs
      | cons x r=>
       rw [e] at hargs
       obtain ⟨y,zs,h1,h2,h3⟩:=mT hargs
       cases h3
       cases r with
       | nil=>exact ⟨x,by rw [hca,e],h1⟩
       | cons x' r'=>
        obtain ⟨y',zs',h4,h5,h6⟩:=mT h2
        cases h6
     obtain ⟨x,Pj,hex⟩:=hone
     obtain ⟨hx,_⟩:=bB h hex
     have ht:=nG het
     have cG:c.argTypes= #[t]:=by
      have :c.argTypes=c.argTypes.toList.toArray:=by simp
      rw [this,CL]
     unfold BA at hl
     split at hl
     · rename_i b i m _
       split at hl
       · rename_i e' l hb
         have hb:=eU hb
         split at hl
         · rename_i l' hl'
           obtain ⟨e1,e2⟩:=ew hl'
           cases e1
           dsimp only at e2
           subst e2
           obtain ⟨rfl,rfl⟩:=bE hl
           obtain ⟨hi0,hm0,Cw,ad,cap,CU,P8,had⟩:=hx.2 e l hb
           obtain ⟨b1,b2,b3,cl,b5⟩:=h.cg b _ hb
           have cj:live S env.bx b:=by unfold live; rw [hb]; trivial
           obtain ⟨te,ie,z,hu,hte,hie,hby,fP,_⟩:=hP.sl ht
           obtain ⟨⟨i',z,h1,h2,h3,h4,h5⟩,_⟩:=hP.ty te _ hte
           obtain ⟨q,hq⟩:=ER (w:=w) hP hte (aG S w0 M0 s0 env.bx μ w)
           obtain ⟨x1,x2,x3⟩:=mI (P:=P) hP.tocT μ env.bx hq
           have HE:=xm x2 x1
           rw [← h5] at hq HE
           have QD: ∀ w,(zeroValue te).run P w= .ok z w:=fun w=>by simp [zeroValue,typeInfo,h1,h3]
           have hzs:z.cells.size=Ty.sz S e:=by have :=hq.length S; simpa using this
           obtain ⟨news,hnews⟩: ∃ news,news=(Builtin.zeroCells z.cells m.toNat).toList:=⟨_,rfl⟩
           have G5:cX w (aG S w0 M0 s0 env.bx μ w) e (List.replicate m.toNat (Ty.zero S e)) news:=by
            have :=cX.replicate hq m.toNat
            rw [hnews]
            have e3:Builtin.zeroCells z.cells m.toNat=madeCells z.cells (m.toNat*Ty.sz S e):=by
             unfold Builtin.zeroCells madeCells
             rw [hzs]
            rw [e3]; exact this
           have hnl:news.length=m.toNat*Ty.sz S e:=by have :=G5.1; rwa [List.length_replicate] at this
           have hsum:(i.toNat+m.toNat)*Ty.sz S e=i.toNat*Ty.sz S e+m.toNat*Ty.sz S e:=Nat.add_mul ..
           have hmul:(i.toNat+m.toNat)*Ty.sz S e≤(μ b).cap*Ty.sz S e:=Nat.mul_le_mul_right _ (by omega)
           have gm:w.there (μ b).b ((μ b).o+i.toNat*Ty.sz S e) news.length:=nh cl (by omega) (by omega)
           have hno: ∀ c ∈ news,c.oneCell'=true:=by
            intro c hc
            rw [hnews] at hc
            unfold Builtin.zeroCells at hc
            simp only [Array.toList_map,List.mem_map,Array.toList_range,List.mem_range] at hc
            obtain ⟨k,hk,rfl⟩:=hc
            have hp:0<z.cells.size:=by
             rcases Nat.eq_zero_or_pos z.cells.size with h0 | h0
             · rw [h0,Nat.mul_zero] at hk; omega
             · exact h0
            have hlt:=Nat.mod_lt k hp
            rw [getElem!_pos z.cells _ hlt]
            exact HE _ (by simp)
           have hrun:(execOp a.eval o).run P w= .ok (.value (.tuple #[])) (w.setCells (μ b).b ((μ b).o+i.toNat*Ty.sz S e) news):=by
            have hr:=Uq (P:=P) (w:=w) (ty:=o.type) hP ht (ad:=ad) (n:=m.toNat) (cap:=cap) (b:=(μ b).b) (o':=(μ b).o+i.toNat*Ty.sz S e) (news:=news) (te:=te) (ie:=ie) (z:=z) (had.imp (fun h0=>⟨h0,List.length_eq_zero_iff.1 (by rw [hnl,h0,Nat.zero_mul])⟩) id) hu QD hnews.symm gm hno
            rw [← CU] at hr
            unfold execOp
            simp only [ho]
            simp [resolve,hc,Pj,cG,invoke,builtin,hr]
           have hcl:=Nv (Ty.zero S e) l Cw hi0 hm0
           have hI:=h.write (B':= .arr e (vf (Ty.zero S e) l i m)) hb cj (fun _ e=>nomatch e) (o':=(μ b).o+i.toNat*Ty.sz S e) (vals:=news) (by omega) (by omega) ⟨rfl,rfl,hcl⟩ (fun hl nI=>⟨b1,b2,by rw [hcl]; exact b3,uD cl gm, ?_⟩) (fun ws iG=>by rcases iG with iG | iG <;> cases iG)
           · unfold Oper.wp
             rw [hrun]
             refine hK _ _ μ (hI.put hd (V:= .iy []) (v:= .tuple #[]) ⟨#[],rfl,rfl⟩ (by simp [aA])) ?_
             cases o.dst <;> simp [Act.put]
           · have hpl:(List.take i.toNat l).length=i.toNat:=by rw [List.length_take]; omega
             unfold vf
             refine u6 (u6 (fun k x hk=> ?_) ?_) (fun k x hk=> ?_)
             · rw [List.getElem?_take] at hk
               split at hk
               · rename_i hkn
                 obtain ⟨ds,d1,d2,q,d3⟩:=b5 k x hk
                 refine ⟨ds,d1,tP d2 (.inr (.inl ?_)),q,d3.mono S hl (Nat.le_refl _)⟩
                 have :(k+1)*Ty.sz S e≤i.toNat*Ty.sz S e:=Nat.mul_le_mul_right _ (by omega)
                 rw [Nat.add_mul,Nat.one_mul] at this
                 omega
               · cases hk
             · rw [hpl]
               exact (G5.later hl).row (zF gm)
             · rw [List.getElem?_drop] at hk
               obtain ⟨ds,d1,d2,q,d3⟩:=b5 _ x hk
               rw [List.length_append,hpl,List.length_replicate,Nat.add_assoc, ← Nat.add_mul]
               have PO:(i+m).toNat=i.toNat+m.toNat:=by omega
               rw [PO] at d2
               refine ⟨ds,d1,tP d2 (.inr (.inr ?_)),q,d3.mono S hl (Nat.le_refl _)⟩
               have :(i.toNat+m.toNat)*Ty.sz S e≤(i.toNat+m.toNat+k)*Ty.sz S e:=Nat.mul_le_mul_right _ (by omega)
               omega
         · exact hl.elim
       · exact hl.elim
     · exact hl.elim
   · exact hl.elim
 · exact hl.elim
end
end Go.Sy
namespace Go.Sy
section
variable {P:Program} {S:aS} {ak:Nat→Nat}
theorem gS.length {w:World} {s:St} : ∀ {M:St} {cs:List CK} {x:bH S.C cs} {vs:List Value},gS S w s M cs x vs→vs.length=CK.cD S cs
 | _,[],_,_,h=>by rw [h.2]; rfl
 | _,c::cs,_,_,⟨M1,M2,v1,v2,h1,h2,h3,h4,h5⟩=>by subst h2; rw [List.length_append,h3,gS.length h5]; rfl
theorem Du (hS:cT S) {w:World} {s M:St} (jG id:Nat) {cs:List CK} {x:bH S.C cs} {v:Value} (hne: ∀ i,id≤i→i<(bu S id cs x).2.2→i≠jG) (L:Loc) (hv:v= .pointer (some ⟨L.b,L.o,none⟩)) (hn:L.n=CK.cD S cs)
 (h:eo S w s M cs x v):
 ∃ lam,lam jG=L∧id≤(bu S id cs x).2.2∧cn P S w s (fun i=>i=jG∨(id≤i∧i<(bu S id cs x).2.2)) ((jG, .cells (bu S id cs x).1)::(bu S id cs x).2.1) lam M:=by
 obtain ⟨b,o,ds,M',dS,cl,jo,hM,hcs⟩:=h
 rw [dS] at hv
 cases hv
 obtain ⟨le,l2,g2,s2,r2,n_⟩:=Dk (P:=P) hS cs id hcs
 have hlen:=gS.length hcs
 have hne: ∀ u ∈ (bu S id cs x).2.1,u.1≠jG:=fun u hu=>hne _ (g2.fJ u hu).1 (g2.fJ u hu).2
 let lam:Nat→Loc:=fun i=>if i=jG then L else l2 i
 have e1:lam jG=L:=if_pos rfl
 have e2: ∀ u ∈ (bu S id cs x).2.1,lam u.1=l2 u.1:=fun u hu=>if_neg (hne u hu)
 have hag: ∀ μ bx,Agree ((jG, .cells (bu S id cs x).1)::(bu S id cs x).2.1) lam μ bx→Agree (bu S id cs x).2.1 l2 μ bx:=
  fun μ bx h u hu=>⟨(h u (by simp [hu])).1,(h u (by simp [hu])).2.trans (e2 u hu)⟩
 refine ⟨lam,e1,le,⟨?_, ?_, ?_, ?_, ?_, ?_, ?_⟩⟩
 · intro u hu
   rcases List.mem_cons.1 hu with rfl | hu
   · exact .inl rfl
   · exact .inr (g2.fJ u hu)
 · intro u hu u' aN he
   rcases List.mem_cons.1 hu with rfl | hu <;> rcases List.mem_cons.1 aN with rfl | aN
   · rfl
   · exact absurd he.symm (hne u' aN)
   · exact absurd he (hne u hu)
   · exact g2.one u hu u' aN he
 · intro μ bx ha u hu
   rcases List.mem_cons.1 hu with rfl | hu
   · show RB P S w s μ bx (lam jG) (.cells _)
     rw [e1]
     have hr:=n_ μ bx (hag μ bx ha)
     exact ⟨s2,by rw [hn, ← hlen]; exact aH.length P S hr,by rw [hn, ← hlen]; exact cl,ds,jo,hr⟩
   · rw [e2 u hu]
     exact g2.rb μ bx (hag μ bx ha) u hu
 · intro bx u hu hb
   rcases List.mem_cons.1 hu with rfl | hu
   · unfold live; rw [hb]; trivial
   · exact g2.lv bx u hu hb
 · intro b' o'
   rw [hM.1 b' o',g2.aF]
   constructor
   · rintro (h | ⟨u,hu,hf⟩)
     · refine ⟨_,List.mem_cons_self, ?_⟩
       show (lam jG).aF b' o'
       rw [e1]; exact ⟨h.1,h.2.1,by rw [hn, ← hlen]; exact h.2.2⟩
     · exact ⟨u,by simp [hu],by rw [e2 u hu]; exact hf⟩
   · rintro ⟨u,hu,hf⟩
     rcases List.mem_cons.1 hu with rfl | hu
     · have hf:(lam jG).aF b' o':=hf
       rw [e1] at hf; exact .inl ⟨hf.1,hf.2.1,by rw [hlen, ← hn]; exact hf.2.2⟩
     · rw [e2 u hu] at hf; exact .inr ⟨u,hu,hf⟩
 · intro u hu u' aN hn' b' o' hf hf'
   rcases List.mem_cons.1 hu with rfl | hu <;> rcases List.mem_cons.1 aN with rfl | aN
   · exact hn' rfl
   · have hf:(lam jG).aF b' o':=hf
     rw [e1] at hf; rw [e2 u' aN] at hf'
     exact hM.2 b' o' ⟨hf.1,hf.2.1,by rw [hlen, ← hn]; exact hf.2.2⟩ ((g2.aF b' o').2 ⟨u',aN,hf'⟩)
   · have hf':(lam jG).aF b' o':=hf'
     rw [e1] at hf'; rw [e2 u hu] at hf
     exact hM.2 b' o' ⟨hf'.1,hf'.2.1,by rw [hlen, ← hn]; exact hf'.2.2⟩ ((g2.aF b' o').2 ⟨u,hu,hf⟩)
   · rw [e2 u hu] at hf; rw [e2 u' aN] at hf'
     exact g2.dr u hu u' aN hn' b' o' hf hf'
 · intro u hu vs hvs v hv j hj
   rcases List.mem_cons.1 hu with rfl | hu
   · rcases hvs with hvs | hvs
     · cases hvs
       obtain ⟨u',aN,he⟩:=r2 v hv j hj
       exact ⟨u',by simp [aN],he⟩
     · cases hvs
   · obtain ⟨u',aN,he⟩:=g2.ref u hu vs hvs v hv j hj
     exact ⟨u',by simp [aN],he⟩
theorem RP (hS:cT S) {w:World} {s M:St} (id:Nat) {k:K} {x:k.den S.C} {v:Value} (h:mC P S w s M k x v) {κ:Sy.V S.C×aI S.C×Nat→Tr (Sy.V S.C×aI S.C)} {p:Sy.V S.C×aI S.C} (hl:(Ix S id k x κ).leaf p):
 ∃ q,(κ q).leaf p∧id≤q.2.2∧q.2.2≤id+nO k∧ ∃ lam,cn P S w s (fun i=>id≤i∧i<q.2.2) q.2.1 lam M∧(∀ j ∈ az S q.1, ∃ u ∈ q.2.1,u.1=j)∧
  ∀ μ bx,Agree q.2.1 lam μ bx→bI P S w s μ bx q.1 v:=by
 have og: ∀ (M:St) (n:Nat),gT M→cn P S w s (fun i=>n≤i∧i<n) ([]:aI S.C) (fun _=>⟨0,0,0,0,true⟩) M:=fun M n hM=>cn.nil hM _
 have obj: ∀ (cs:List CK) (y:bH S.C cs),eo S w s M cs y v→(κ (.ptr id 0,(id, .cells (bu S (id+1) cs y).1)::(bu S (id+1) cs y).2.1,(bu S (id+1) cs y).2.2)).leaf p→
  ∃ q,(κ q).leaf p∧id≤q.2.2∧q.2.2≤id+(1+cs.foldl oneMore 0)∧ ∃ lam,cn P S w s (fun i=>id≤i∧i<q.2.2) q.2.1 lam M∧(∀ j ∈ az S q.1, ∃ u ∈ q.2.1,u.1=j)∧
  ∀ μ bx,Agree q.2.1 lam μ bx→bI P S w s μ bx q.1 v:=by
  intro cs y hy hl
  obtain ⟨lam,g,le,rv⟩:=tE (P:=P) hS id hy
  refine ⟨_,hl,Nat.le_of_lt le, ?_,lam,g,fun j hj=> ?_,rv⟩
  · have :=qY cs (id+1) y 0
    show (bu S (id+1) cs y).2.2≤_
    omega
  · simp [az] at hj
    subst hj
    exact ⟨_,List.mem_cons_self,rfl⟩
 cases k with
 | val c=>
  obtain ⟨h1,h2⟩:=h
  cases c with
  | data t=>
   obtain ⟨hM,n,hn⟩:=h1
   exact ⟨_,hl,Nat.le_refl _,Nat.le_refl _,_,og M id hM,fun j hj=>by simp [az] at hj,fun μ bx _=>⟨h2,n,hn⟩⟩
  | aZ e=>
   obtain ⟨le,lam,g,s1,r1,rv⟩:=zn (P:=P) hS id h1
   refine ⟨_,hl,Nat.le_succ _,Nat.le_refl _,lam,g,fun j hj=>r1 (.aZ id e x) (by simp [cy]) j hj,fun μ bx ha=> ?_⟩
   obtain ⟨c,r,hc,hv,hr⟩:=rv μ bx ha
   cases hr
   rw [oJ hc h2]
   exact hv
  | aQ e=>
   obtain ⟨le,lam,g,s1,r1,rv⟩:=zn (P:=P) hS id h1
   refine ⟨_,hl,Nat.le_succ _,Nat.le_refl _,lam,g,fun j hj=>r1 (.aQ id) (by simp [cy]) j hj,fun μ bx ha=> ?_⟩
   obtain ⟨c,r,hc,hv,hr⟩:=rv μ bx ha
   cases hr
   rw [oJ hc h2]
   exact hv
 | obj cs=>exact obj cs x h hl
 | opt cs=>
  rcases hl with ⟨hx,hl⟩ | ⟨y,hx,hl⟩
  · subst hx
    exact ⟨_,hl,Nat.le_refl _,Nat.le_add_right _ _,_,og M id h.1,fun j hj=>by simp [az] at hj,fun μ bx _=>h.2⟩
  · subst hx
    exact obj cs y h hl
 | b_ t cs=>exact hl.elim
 | err=>exact ⟨_,hl,Nat.le_refl _,Nat.le_refl _,_,og M id h.1,fun j hj=>by simp [az] at hj,fun μ bx _=>h.2⟩
 | aX=>
  have h:nv S w M x v:=h
  obtain ⟨b,R,hb,_⟩:=Iff.mp Iff.rfl h
  obtain ⟨lam,e,g⟩:=Bs (P:=P) (s:=s) id (id+1) (by omega) ⟨b,0,2,0,false⟩ rfl rfl hb h
  refine ⟨_,hl,by show id≤id+2; omega,Nat.le_refl _,lam,g.weaken fun i hi=>by show id≤i∧i<id+2; omega,fun j hj=> ?_,fun μ bx ha=> ?_⟩
  · simp [az] at hj
    subst hj
    exact ⟨_,List.mem_cons_self,rfl⟩
  · have a1:=(ha (id, .aX (id+1)) (by simp)).2
    show v= .pointer (some ⟨(μ id).b,(μ id).o+0,none⟩)
    rw [hb,show μ id=lam id from a1,e]
 | nil=>exact ⟨_,hl,Nat.le_refl _,Nat.le_refl _,_,og M id h.1,fun j hj=>by simp [az] at hj,fun μ bx _=>h.2⟩
 | ro t=>exact ⟨_,hl,Nat.le_refl _,Nat.le_refl _,_,og M id h.1,fun j hj=>by simp [az] at hj,fun μ bx _=>h.2⟩
 | fn a r=>exact ⟨_,hl,Nat.le_refl _,Nat.le_refl _,_,og M id h.1,fun j hj=>by simp [az] at hj,fun μ bx _=>h.2⟩
 | cF cs=>
  obtain ⟨p',hv,h⟩:=h
  obtain ⟨lam,g,le,rv⟩:=tE (P:=P) hS id h
  refine ⟨_,hl,Nat.le_of_lt le, ?_,lam,g,fun j hj=> ?_,fun μ bx ha=> ?_⟩
  · have :=qY cs (id+1) x 0
    show (bu S (id+1) cs x).2.2≤id+(1+cs.foldl oneMore 0)
    omega
  · simp [az] at hj
    subst hj
    exact ⟨_,List.mem_cons_self,rfl⟩
  · have :Value.pointer (some p')= .pointer (some ⟨(μ id).b,(μ id).o+0,none⟩):=rv μ bx ha
    show v= .slice (some ⟨(μ id).b,(μ id).o,none⟩) (CK.cD S cs) (CK.cD S cs)
    rw [hv]
    cases this
    rfl
theorem Iy (hS:cT S) {w:World} {s:St} {os:List K} : ∀ (rs:List K) {M:St} (id:Nat) {r:Ks S.C (rs++os)} {vs:List Value} {κ:List (Sy.V S.C)×aI S.C×Nat→Rt S} {p:Sy.V S.C×aI S.C},
 cc P S w s M (rs++os) r vs→(zo S id rs (j5 S rs os r).1 κ).leaf p→
 ∃ q M1 M2 us ws,(κ q).leaf p∧vs=us++ws∧gU M M1 M2∧cc P S w s M2 os (j5 S rs os r).2 ws∧id≤q.2.2∧q.2.2≤id+iH rs∧
  ∃ lam,cn P S w s (fun i=>id≤i∧i<q.2.2) q.2.1 lam M1∧(∀ v ∈ q.1, ∀ j ∈ az S v, ∃ u ∈ q.2.1,u.1=j)∧ ∀ μ bx,Agree q.2.1 lam μ bx→aH P S w s μ bx q.1 us
 | [],M,id,r,vs,κ,p,h,hl=>⟨_,fun _ _=>False,M,[],vs,hl,rfl,⟨fun b o=>by simp,fun _ _ h=>h.elim⟩,h,Nat.le_refl _,Nat.le_refl _,fun _=>⟨0,0,0,0,true⟩,cn.nil (fun _ _ h=>h) _,by simp,fun _ _ _=>rfl⟩
 | k::rs,M,id,r,vs,κ,p,⟨M1,M2,v,vr,hM,hvs,h1,h2⟩,hl=>by
  have e1:(j5 S (k::rs) os r).1=Ks.cons (Ks.head r) (j5 S rs os (Ks.tail r)).1:=rfl
  have e2:(j5 S (k::rs) os r).2=(j5 S rs os (Ks.tail r)).2:=rfl
  rw [e1] at hl
  simp only [zo] at hl
  rw [show Ks.head (Ks.cons (Ks.head r) (j5 S rs os (Ks.tail r)).1)=Ks.head (t:=k) (ts:=rs++os) r from by cases rs <;> rfl,
   show Ks.tail (Ks.cons (Ks.head r) (j5 S rs os (Ks.tail r)).1)=(j5 S rs os (Ks.tail r)).1 from by cases rs <;> rfl] at hl
  obtain ⟨q1,cx,a1,a2,l1,g1,r1,n9⟩:=RP (P:=P) hS id h1 hl
  obtain ⟨q2,N1,N2,us,ws,vK,b1,b2,b3,b4,b5,l2,g2,r2,n_⟩:=Iy hS rs q1.2.2 h2 cx
  have hsp:gU (fun b o=>M1 b o∨N1 b o) M1 N1:=⟨fun _ _=>Iff.rfl,fun b o x y=>hM.2 b o x (b2.left y)⟩
  obtain ⟨g,hag⟩:=cn.both g1 g2 (fun i hi hi'=>by omega) hsp
  refine ⟨_,fun b o=>M1 b o∨N1 b o,N2,v::us,ws,vK,by rw [hvs,b1]; rfl,⟨fun b o=> ?_,fun b o x y=> ?_⟩,by rw [e2]; exact b3,Nat.le_trans a1 b4, ?_,_,g.weaken (fun i hi=> ?_),fun v' dS j hj=> ?_,fun μ bx ha=> ?_⟩
  · rw [hM.1,b2.1,or_assoc]
  · rcases x with x | x
    · exact hM.2 b o x (b2.right y)
    · exact b2.2 b o x y
  · show q2.2.2≤id+(nO k+iH rs)
    omega
  · show id≤i∧i<q2.2.2
    omega
  · rcases List.mem_cons.1 dS with rfl | dS
    · obtain ⟨u,hu,he⟩:=r1 j hj; exact ⟨u,List.mem_append.2 (.inl hu),he⟩
    · obtain ⟨u,hu,he⟩:=r2 v' dS j hj; exact ⟨u,List.mem_append.2 (.inr hu),he⟩
  · obtain ⟨h3,h4⟩:=hag μ bx ha
    exact ⟨v,us,rfl,n9 μ bx h3,n_ μ bx h4⟩
end
end Go.Sy
namespace Go.Sy
section
variable {P:Program} {S:aS} {ak:Nat→Nat}
def eS:List K→List Value→List Value
 | [],_=> []
 | _::_,[]=> []
 | k::ks,v::vs=>match k with
  | .obj _ | .aX | .b_ _ _=>v::eS ks vs
  | .val _ | .opt _ | .nil | .ro _ | .fn _ _ | .cF _ | .err=>eS ks vs
def Ln (S:aS) (μ:Nat→Loc) (w:World) (s:St) (t:Ty) (cs:List CK) (V:Sy.V S.C) (v:Value):Prop:=
 ∃ b c kb q,V= .split b c∧v= .pointer (some ⟨kb,q,none⟩)∧(μ b).b=kb∧(μ b).o=q+1∧(μ b).n=CK.cD S cs∧(μ c).n=CK.cD S [.data t]∧s kb q∧w.cell? ⟨kb,q,none⟩=some (.pointer (some ⟨(μ c).b,(μ c).o,none⟩))
def p7 (S:aS) (μ:Nat→Loc) (w:World) (s:St):List K→List (Sy.V S.C)→List Value→Prop
 | [],_,_=>True
 | k::ks,V::Vs,v::vs=>(∀ t cs,k= .b_ t cs→Ln S μ w s t cs V v)∧(∀ cs,k= .obj cs→ ∃ b,V= .ptr b 0∧v= .pointer (some ⟨(μ b).b,(μ b).o,none⟩)∧(μ b).n=CK.cD S cs)∧(k= .aX→ ∃ b,V= .ptr b 0∧v= .pointer (some ⟨(μ b).b,(μ b).o,none⟩)∧(μ b).o=0∧(μ b).n=2)∧p7 S μ w s ks Vs vs
 | _::_,_,_=>False
theorem p7.later {μ:Nat→Loc} {w w':World} {s:St} (h: ∀ b o,s b o→w'.cell? ⟨b,o,none⟩=w.cell? ⟨b,o,none⟩): ∀ {ks:List K} {Vs:List (Sy.V S.C)} {vs:List Value},p7 S μ w s ks Vs vs→p7 S μ w' s ks Vs vs
 | [],_,_,_=>trivial
 | _::_,[],_,h1=>h1.elim
 | _::_,_::_,[],h1=>h1.elim
 | k::ks,V::Vs,v::vs,⟨h0,h1,h2,h3⟩=>⟨fun t cs e=>by
  obtain ⟨b,c,kb,q,e1,e2,e3,e4,e5,e6,e7,e8⟩:=h0 t cs e
  exact ⟨b,c,kb,q,e1,e2,e3,e4,e5,e6,e7,(h kb q e7).trans e8⟩,h1,h2,p7.later h h3⟩
theorem yN {bx:Bx S.C} {b:Nat} {B:dP S.C} (h:rj S B) (hb:bx b=some B):live S bx b:=by
 unfold live
 rw [hb]
 cases B <;> first | exact h.elim | trivial
theorem wE {cs:List CK} {ks:List K} {b off:Nat} {Vs:List (Sy.V S.C)} :dy S (.obj cs::ks) (.ptr b off::Vs)=b::dy S ks Vs:=rfl
theorem IJ {k:K} {ks:List K} {V:Sy.V S.C} {Vs:List (Sy.V S.C)} (h: ∀ cs,k≠ .obj cs) (h':k≠ .aX) (h'': ∀ t cs,k≠ .b_ t cs):dy S (k::ks) (V::Vs)=dy S ks Vs:=by
 cases k <;> first | rfl | exact absurd rfl (h _) | exact absurd rfl h' | exact absurd rfl (h'' _ _)
theorem R_ {k:K} {ks:List K} {v:Value} {vs:List Value} (h: ∀ cs,k≠ .obj cs) (h':k≠ .aX) (h'': ∀ t cs,k≠ .b_ t cs):eS (k::ks) (v::vs)=eS ks vs:=by
 cases k <;> first | rfl | exact absurd rfl (h _) | exact absurd rfl h' | exact absurd rfl (h'' _ _)
theorem l7 (hS:cT S) {w:World} {s so:St} {μ:Nat→Loc} : ∀ (ps:List K) {M:St} (id:Nat) {Vs:List (Sy.V S.C)} {args:List Value} {x:Ks S.C (outs ps)},p7 S μ w so ps Vs args→(dy S ps Vs).Nodup→
 (∀ b ∈ dy S ps Vs, ∀ i,id≤i→i<id+iH (outs ps)→i≠b)→cc P S w s M (outs ps) x (eS ps args)→
 ∃ lam,cn P S w s (fun i=>i ∈ dy S ps Vs∨(id≤i∧i<id+iH (outs ps))) (e9 S id ps Vs x) lam M∧ ∀ b ∈ dy S ps Vs,lam b=μ b∧ ∃ B,rj S B∧(b,B) ∈ e9 S id ps Vs x
 | [],M,id,Vs,args,x,_,_,_,h=>⟨fun _=>⟨0,0,0,0,true⟩,by
  have :e9 S id [] Vs x= []:=rfl
  rw [this]; exact cn.nil h.1 _,by intro b hb; cases Vs <;> simp [dy] at hb⟩
 | k::ks,M,id,[],_,x,h,_,_,_=>h.elim
 | k::ks,M,id,V::Vs,[],x,h,_,_,_=>h.elim
 | k::ks,M,id,V::Vs,v::args,x,⟨OR,h0,h0',h1⟩,hnd,hid,h=>by
  by_cases hk: ∃ cs,k= .obj cs
  · obtain ⟨cs,rfl⟩:=hk
    obtain ⟨b,rfl,rfl,hn⟩:=h0 cs rfl
    rw [wE] at hnd hid
    obtain ⟨M1,M2,v',r,hM,hvs,r1,r2⟩:=h
    cases hvs
    obtain ⟨hb,vN⟩:=List.nodup_cons.1 hnd
    have hsum:iH (outs (.obj cs::ks))=1+cs.foldl oneMore 0+iH (outs ks):=rfl
    have hmk:=qY cs id (Ks.head (t:= .obj cs) x) 0
    rw [hsum] at hid
    obtain ⟨l1,e1,wk,g1⟩:=Du (P:=P) hS b id (cs:=cs) (x:=Ks.head (t:= .obj cs) x) (fun i hi hi'=>hid b (by simp) i hi (by omega)) (μ b) rfl hn r1
    obtain ⟨l2,g2,p2⟩:=l7 hS ks (bu S id cs (Ks.head (t:= .obj cs) x)).2.2 (x:=Ks.tail (t:= .obj cs) x) h1 vN (fun b' hb' i hi hi'=>hid b' (by simp [hb']) i (by omega) (by omega)) r2
    obtain ⟨g,hag⟩:=cn.both g1 g2 (fun i hi hi'=>by
     rcases hi with rfl | hi
     · rcases hi' with hi' | hi'
       · exact hb hi'
       · exact hid i (by simp) i (by omega) (by omega) rfl
     · rcases hi' with hi' | hi'
       · exact hid i (by simp [hi']) i (by omega) (by omega) rfl
       · omega) hM
    have hput:e9 S id (.obj cs::ks) (.ptr b 0::Vs) x=((b, .cells (bu S id cs (Ks.head (t:= .obj cs) x)).1)::(bu S id cs (Ks.head (t:= .obj cs) x)).2.1)++e9 S (bu S id cs (Ks.head (t:= .obj cs) x)).2.2 ks Vs (Ks.tail (t:= .obj cs) x):=rfl
    rw [hput]
    refine ⟨_,g.weaken fun i hi=> ?_,fun b' hb'=> ?_⟩
    · rw [wE,hsum]
      rcases hi with (rfl | hi) | (hi | hi)
      · exact .inl (by simp)
      · exact .inr (by omega)
      · exact .inl (by simp [hi])
      · exact .inr (by omega)
    · rw [wE] at hb'
      rcases List.mem_cons.1 hb' with rfl | hb'
      · refine ⟨?_,_,(by exact trivial),List.mem_append.2 (.inl List.mem_cons_self)⟩
        unfold both
        rw [if_pos (List.mem_map.2 ⟨_,List.mem_cons_self,rfl⟩)]
        exact e1
      · obtain ⟨p3,vs,p0,p4⟩:=p2 b' hb'
        refine ⟨?_,vs,p0,List.mem_append.2 (.inr p4)⟩
        unfold both
        rw [if_neg]
        · exact p3
        · intro hm
          obtain ⟨u,hu,he⟩:=List.mem_map.1 hm
          rcases g1.fJ u hu with h | h
          · rw [he] at h; exact hb (h▸hb')
          · rw [he] at h; exact hid b' (by simp [hb']) b' (by omega) (by omega) rfl
  · have hk: ∀ cs,k≠ .obj cs:=fun cs e=>hk ⟨cs,e⟩
    by_cases hkb:k= .aX
    · subst hkb
      obtain ⟨b,rfl,rfl,hn0,hn⟩:=h0' rfl
      have hov:dy S (.aX::ks) (.ptr b 0::Vs)=b::dy S ks Vs:=rfl
      rw [hov] at hnd hid
      obtain ⟨M1,M2,v',r,hM,hvs,r1,r2⟩:=h
      cases hvs
      obtain ⟨hb,vN⟩:=List.nodup_cons.1 hnd
      have hsum:iH (outs (.aX::ks))=2+iH (outs ks):=rfl
      rw [hsum] at hid
      obtain ⟨l1,e1,g1⟩:=Bs (P:=P) (s:=s) b id (fun e=>hid b (by simp) id (Nat.le_refl _) (by omega) e) (μ b) hn0 hn (x:=Ks.head (t:= .aX) x) rfl r1
      obtain ⟨l2,g2,p2⟩:=l7 hS ks (id+1) (x:=Ks.tail (t:= .aX) x) h1 vN (fun b' hb' i hi hi'=>hid b' (by simp [hb']) i (by omega) (by omega)) r2
      obtain ⟨g,hag⟩:=cn.both g1 g2 (fun i hi hi'=>by
       rcases hi with rfl | rfl
       · rcases hi' with hi' | hi'
         · exact hb hi'
         · exact hid i (by simp) i (by omega) (by omega) rfl
       · rcases hi' with hi' | hi'
         · exact hid i (by simp [hi']) i (by omega) (by omega) rfl
         · omega) hM
      have hput:e9 S id (.aX::ks) (.ptr b 0::Vs) x= [(b, .aX id),(id, .buf (Ks.head (t:= .aX) x))]++e9 S (id+1) ks Vs (Ks.tail (t:= .aX) x):=rfl
      rw [hput]
      refine ⟨_,g.weaken fun i hi=> ?_,fun b' hb'=> ?_⟩
      · rw [hov,hsum]
        rcases hi with (rfl | rfl) | (hi | hi)
        · exact .inl (by simp)
        · exact .inr (by omega)
        · exact .inl (by simp [hi])
        · exact .inr (by omega)
      · rw [hov] at hb'
        rcases List.mem_cons.1 hb' with rfl | hb'
        · refine ⟨?_,_,(by exact trivial),List.mem_append.2 (.inl List.mem_cons_self)⟩
          unfold both
          rw [if_pos (List.mem_map.2 ⟨_,List.mem_cons_self,rfl⟩)]
          exact e1
        · obtain ⟨p3,vs,p0,p4⟩:=p2 b' hb'
          refine ⟨?_,vs,p0,List.mem_append.2 (.inr p4)⟩
          unfold both
          rw [if_neg]
          · exact p3
          · intro hm
            obtain ⟨u,hu,he⟩:=List.mem_map.1 hm
            rcases g1.fJ u hu with h | h
            · rw [he] at h; exact hb (h▸hb')
            · rw [he] at h; exact hid b' (by simp [hb']) b' (by omega) (by omega) rfl
    by_cases ku: ∃ t cs,k= .b_ t cs
    · obtain ⟨t,cs,rfl⟩:=ku
      obtain ⟨b,c,kb,q,rfl,rfl,fP,gG,Pm,Pu,_,hcell⟩:=OR t cs rfl
      have hov:dy S (.b_ t cs::ks) (.split b c::Vs)=c::b::dy S ks Vs:=rfl
      rw [hov] at hnd hid
      obtain ⟨M1,M2,v',r,hM,hvs,r1,r2⟩:=h
      cases hvs
      obtain ⟨b0,o0,p,Ma,Mb,q1,q2,q3,q4,q5⟩:=r1
      cases q1
      have hp:Value.pointer (some p)= .pointer (some ⟨(μ c).b,(μ c).o,none⟩):=by
       have :=(q2 0 _ rfl).1
       rw [Nat.add_zero,hcell] at this
       exact (Option.some.inj this).symm
      obtain ⟨yM,vN⟩:=List.nodup_cons.1 hnd
      obtain ⟨G3,Qa⟩:=List.nodup_cons.1 vN
      have hsum:iH (outs (.b_ t cs::ks))=2+cs.foldl oneMore 0+iH (outs ks):=rfl
      have hmk:=qY cs id (Ks.head (t:= .b_ t cs) x).2 0
      rw [hsum] at hid
      obtain ⟨l0,e0,W4,g0⟩:=Du (P:=P) hS c id (cs:= [.data t]) (x:=(Ks.head (t:= .b_ t cs) x).1) (fun i hi hi'=>hid c (by simp) i hi (by have :i<id:=hi'; omega)) (μ c) hp Pu q4
      obtain ⟨l1,e1,wk,g1⟩:=Du (P:=P) hS b id (cs:=cs) (x:=(Ks.head (t:= .b_ t cs) x).2) (fun i hi hi'=>hid b (by simp) i hi (by omega)) (μ b) (by rw [fP,gG]) Pm q5
      obtain ⟨l2,g2,p2⟩:=l7 hS ks (bu S id cs (Ks.head (t:= .b_ t cs) x).2).2.2 (x:=Ks.tail (t:= .b_ t cs) x) h1 Qa (fun b' hb' i hi hi'=>hid b' (by simp [hb']) i (by omega) (by omega)) r2
      obtain ⟨GJ,WE⟩:=cn.both g0 g1 (fun i hi hi'=>by
       have hi:i=c:=hi.elim (fun e=>e) fun h=>by
        have h1:id≤i:=h.1
        have h2:i<id:=h.2
        omega
       subst hi
       rcases hi' with hi' | hi'
       · subst hi'; exact yM (by simp)
       · exact hid i (by simp) i (by omega) (by omega) rfl) q3
      obtain ⟨g,hag⟩:=cn.both GJ g2 (fun i hi hi'=>by
       rcases hi with (rfl | hi) | (rfl | hi)
       · rcases hi' with hi' | hi'
         · exact yM (by simp [hi'])
         · exact hid i (by simp) i (by omega) (by omega) rfl
       · have h1:id≤i:=hi.1
         have h2:i<id:=hi.2
         omega
       · rcases hi' with hi' | hi'
         · exact G3 hi'
         · exact hid i (by simp) i (by omega) (by omega) rfl
       · rcases hi' with hi' | hi'
         · exact hid i (by simp [hi']) i (by omega) (by omega) rfl
         · omega) hM
      have hput:e9 S id (.b_ t cs::ks) (.split b c::Vs) x=(((c, .cells (bu S id [.data t] (Ks.head (t:= .b_ t cs) x).1).1)::(bu S id [.data t] (Ks.head (t:= .b_ t cs) x).1).2.1)++((b, .cells (bu S id cs (Ks.head (t:= .b_ t cs) x).2).1)::(bu S id cs (Ks.head (t:= .b_ t cs) x).2).2.1))++e9 S (bu S id cs (Ks.head (t:= .b_ t cs) x).2).2.2 ks Vs (Ks.tail (t:= .b_ t cs) x):=rfl
      rw [hput]
      refine ⟨_,g.weaken fun i hi=> ?_,fun b' hb'=> ?_⟩
      · rw [hov,hsum]
        rcases hi with ((rfl | hi) | (rfl | hi)) | (hi | hi)
        · exact .inl (by simp)
        · have h1:id≤i:=hi.1
          have h2:i<id:=hi.2
          omega
        · exact .inl (by simp)
        · exact .inr (by omega)
        · exact .inl (by simp [hi])
        · exact .inr (by omega)
      · rw [hov] at hb'
        have WK: ∀ (dF nj:aI S.C) (la lb:Nat→Loc) (i:Nat) (B:dP S.C),(i,B) ∈ dF→both dF la lb i=la i:=fun dF nj la lb i B hi=>if_pos (List.mem_map.2 ⟨_,hi,rfl⟩)
        rcases List.mem_cons.1 hb' with rfl | hb'
        · refine ⟨?_,_,(by exact trivial),List.mem_append.2 (.inl (List.mem_append.2 (.inl List.mem_cons_self)))⟩
          unfold both
          rw [if_pos (List.mem_map.2 ⟨_,List.mem_append.2 (.inl List.mem_cons_self),rfl⟩),if_pos (List.mem_map.2 ⟨_,List.mem_cons_self,rfl⟩)]
          exact e0
        · rcases List.mem_cons.1 hb' with rfl | hb'
          · refine ⟨?_,_,(by exact trivial),List.mem_append.2 (.inl (List.mem_append.2 (.inr List.mem_cons_self)))⟩
            unfold both
            rw [if_pos (List.mem_map.2 ⟨_,List.mem_append.2 (.inr List.mem_cons_self),rfl⟩),if_neg]
            · exact e1
            · intro hm
              obtain ⟨u,hu,he⟩:=List.mem_map.1 hm
              rcases g0.fJ u hu with h | h
              · rw [he] at h; exact yM (by rw [← h]; simp)
              · rw [he] at h
                have h1:id≤b':=h.1
                have h2:b'<id:=h.2
                omega
          · obtain ⟨p3,vs,p0,p4⟩:=p2 b' hb'
            refine ⟨?_,vs,p0,List.mem_append.2 (.inr p4)⟩
            unfold both
            rw [if_neg]
            · exact p3
            · intro hm
              obtain ⟨u,hu,he⟩:=List.mem_map.1 hm
              rcases GJ.fJ u hu with (h | h) | (h | h)
              · rw [he] at h; exact yM (by rw [← h]; simp [hb'])
              · rw [he] at h
                have h1:id≤b':=h.1
                have h2:b'<id:=h.2
                omega
              · rw [he] at h; exact G3 (h▸hb')
              · rw [he] at h; exact hid b' (by simp [hb']) b' (by omega) (by omega) rfl
    have ku: ∀ t cs,k≠ .b_ t cs:=fun t cs e=>ku ⟨t,cs,e⟩
    rw [IJ hk hkb ku] at hnd hid ⊢
    rw [R_ hk hkb ku] at h
    cases k with
    | aX=>exact absurd rfl hkb
    | obj cs=>exact absurd rfl (hk cs)
    | b_ t cs=>exact absurd rfl (ku t cs)
    | val c=>exact l7 hS ks id h1 hnd hid h
    | opt cs=>exact l7 hS ks id h1 hnd hid h
    | nil=>exact l7 hS ks id h1 hnd hid h
    | ro t=>exact l7 hS ks id h1 hnd hid h
    | fn a r=>exact l7 hS ks id h1 hnd hid h
    | cF cs=>exact l7 hS ks id h1 hnd hid h
    | err=>exact l7 hS ks id h1 hnd hid h
theorem ID {bx:Bx S.C} {b:Nat} {ws vs:List (Sy.V S.C)} {cs:List CK} {y':bH S.C cs} {u':aI S.C} (hb:bx b=some (.cells ws)) (hy':dN S (au bx b (some .dead)) cs vs=some (y',u'))
 (k1:Tk S bx (av bx ((b, .dead)::u'))):av bx ((b, .dead)::u') b=some .dead:=by
 have hpre:Tk S (au bx b (some .dead)) (av (au bx b (some .dead)) u'):=by
  intro i
  by_cases e:i=b
  · -- from the whole step
    subst e
    rcases k1 i with e1 | ⟨e1,_⟩ | ⟨e',l',e1,e2⟩
    · -- unchanged: then it was cells, but the parts' taking leaves cells alone
      exfalso
      rw [hb] at e1
      have : ∀ (cs:List CK) (bx:Bx S.C) (vs:List (Sy.V S.C)) (x:bH S.C cs) (us:aI S.C),dN S bx cs vs=some (x,us)→ ∀ u ∈ us,u.2= .dead∨ ∃ e l,u.2= .bM e l:=by
       intro cs
       induction cs with
       | nil=>intro bx vs x us h; cases h; simp
       | cons c cs ih=>
        intro bx vs x us h
        simp only [dN] at h
        obtain ⟨⟨p,q⟩,h1,h⟩:=Option.bind_eq_some_iff.1 h
        obtain ⟨⟨p',q'⟩,h2,h⟩:=Option.bind_eq_some_iff.1 h
        cases h
        intro u hu
        rcases List.mem_append.1 hu with hu | hu
        · cases c with
          | data t=>
           simp only [dX] at h1
           obtain ⟨z,_,h1⟩:=Option.bind_eq_some_iff.1 h1
           cases h1
           obtain ⟨v,_,hv⟩:=List.mem_flatMap.1 hu
           obtain ⟨e,l,he,_⟩:=cS.cN bx v u hv
           exact .inr ⟨e,l,he⟩
          | aZ e=>
           simp only [dX] at h1
           split at h1
           · split at h1
             · obtain ⟨z,_,h1⟩:=Option.bind_eq_some_iff.1 h1
               cases h1
               simp at hu; subst hu; exact .inl rfl
             · cases h1
           · cases h1; simp at hu
           · cases h1
          | aQ e=>
           simp only [dX] at h1
           split at h1
           · split at h1
             · obtain ⟨z,_,h1⟩:=Option.bind_eq_some_iff.1 h1
               cases h1
               simp at hu; subst hu; exact .inl rfl
             · cases h1
           · split at h1
             · obtain ⟨z,_,h1⟩:=Option.bind_eq_some_iff.1 h1
               cases h1
               simp at hu; subst hu; exact .inl rfl
             · cases h1
           · cases h1; simp at hu
           · cases h1
        · exact ih _ _ _ _ h2 u hu
      have aN:=this _ _ _ _ _ hy'
      have : ∀ (us:aI S.C) (bx:Bx S.C),(∀ u ∈ us,u.2= .dead∨ ∃ e l,u.2= .bM e l)→(∀ ws,bx i≠some (.cells ws))→ ∀ ws,av bx us i≠some (.cells ws):=by
       intro us
       induction us with
       | nil=>intro bx _ h; exact h
       | cons u us ih=>
        intro bx hu h
        refine ih _ (fun u' aN=>hu u' (by simp [aN])) fun ws=> ?_
        by_cases e:i=u.1
        · rw [e,aR]
          rcases hu u (by simp) with h | ⟨_,_,h⟩ <;> rw [h] <;> simp
        · rw [bg _ _ e]; exact h ws
      exact this u' (au bx i (some .dead)) aN (by intro ws; rw [aR]; simp) _ e1
    · exact .inl (e1.trans (aR _ _ _).symm)
    · rw [hb] at e1; cases e1
  · rcases k1 i with e1 | ⟨e1,h2⟩ | ⟨e',l',e1,e2⟩
    · exact .inl (e1.trans (bg _ _ e).symm)
    · exact .inr (.inl ⟨e1,(eA S (bg _ _ e)).2 h2⟩)
    · exact .inr (.inr ⟨e',l',(bg _ _ e).trans e1,e2⟩)
 exact oK hpre (aR _ _ _)
theorem Vo {fs:List (gA S)} {bx:Bx S.C} {cs:List CK} {b:Nat} :cv S fs bx (.obj cs) (.ptr b 0)=f_ S bx cs b:=by
 simp only [cv,f_]
 cases hb:bx b with
 | none=>rfl
 | some B=>cases B <;> rfl
theorem Kq {bx:Bx S.C} {cs:List CK} {b:Nat} {y:bH S.C cs} {us:aI S.C} (h:f_ S bx cs b=some (y,us)) (hk:Tk S bx (av bx us)):
 (∃ ws,bx b=some (.cells ws)∧ws.length=CK.cD S cs)∧av bx us b=some .dead:=by
 unfold f_ at h
 split at h
 · rename_i ws hb
   cases hw:Nat.beq ws.length (CK.cD S cs) with
   | false=>rw [hw] at h; cases h
   | true=>
    rw [hw,cond_true] at h
    obtain ⟨⟨y',u'⟩,hy',h⟩:=Option.bind_eq_some_iff.1 h
    cases h
    exact ⟨⟨ws,hb,Nat.eq_of_beq_eq_true hw⟩,ID hb hy' hk⟩
 · cases h
theorem Ko {env:Env S.C} {w:World} {s s':St} {μ:Nat→Loc} {fs:List (gA S)} (hn: ∀ i B,env.bx i=some B→RB P S w s μ env.bx (μ i) B):
 ∀ (ks:List K) {bx:Bx S.C} (hk:Tk S env.bx bx) (hks: ∀ (ks:List K) (bx:Bx S.C) (hk:Tk S env.bx bx) (Vs:List (Sy.V S.C)) (args:List Value) (x:Ks S.C ks) (us:aI S.C),fu P S w s' μ env.bx Vs args→eg S fs bx ks Vs=some (x,us)→Tk S bx (av bx us))
  {Vs:List (Sy.V S.C)} {args:List Value} {x:Ks S.C ks} {us:aI S.C},fu P S w s' μ env.bx Vs args→eg S fs bx ks Vs=some (x,us)→
 p7 S μ w s' ks Vs args∧(dy S ks Vs).Nodup∧ ∀ b ∈ dy S ks Vs,(∃ B,rj S B∧bx b=some B)∧av bx us b=some .dead
 | [],bx,hk,hks,[],args,x,us,h,hx=>⟨trivial,by simp [dy],by simp [dy]⟩
 | [],_,_,_,_::_,_,_,_,_,hx=>by cases hx
 | _::_,_,_,_,[],_,_,_,_,hx=>by cases hx
 | k::ks,bx,hk,hks,V::Vs,args,x,us,⟨v,r,hargs,h1,h2⟩,hx=>by
  subst hargs
  simp only [eg] at hx
  obtain ⟨⟨y,u1⟩,hy,hx⟩:=Option.bind_eq_some_iff.1 hx
  obtain ⟨⟨z,u2⟩,hz,hx⟩:=Option.bind_eq_some_iff.1 hx
  cases hx
  have hone:eg S fs bx [k] [V]=some (Ks.cons (t:=k) (ts:= []) y (),u1++ []):=by
   simp only [eg]
   rw [hy]; rfl
  have k1:=hks [k] bx hk [V] [v] _ _ ⟨v,[],rfl,h1,rfl⟩ hone
  rw [List.append_nil] at k1
  have k2:=hks ks _ (hk.trans S k1) Vs r _ _ h2 hz
  obtain ⟨o1,o2,o3⟩:=Ko hn ks (hk.trans S k1) hks h2 hz
  by_cases vP: ∃ cs,k= .obj cs
  · obtain ⟨cs,rfl⟩:=vP
    simp only [cv] at hy
    split at hy
    · rename_i b off
      split at hy
      · rename_i ws hb
        cases hw:Nat.beq off 0&&Nat.beq ws.length (CK.cD S cs) with
        | false=>rw [hw] at hy; cases hy
        | true=>
         rw [hw,cond_true] at hy
         rw [Bool.and_eq_true] at hw
         have w1:=Nat.eq_of_beq_eq_true hw.1
         have w2:=Nat.eq_of_beq_eq_true hw.2
         subst w1
         obtain ⟨⟨y',u'⟩,hy',hy⟩:=Option.bind_eq_some_iff.1 hy
         cases hy
         have hlb:live S bx b:=by unfold live; rw [hb]; trivial
         have hb0:env.bx b=some (.cells ws):=(hk.dU hlb).symm.trans hb
         have hrb:=hn b _ hb0
         have ko:av bx ((b, .dead)::u') b=some .dead:=ID hb hy' k1
         have hv:v= .pointer (some ⟨(μ b).b,(μ b).o+0,none⟩):=h1
         refine ⟨⟨(fun t' cs' e=>nomatch e),fun cs' e=> ?_,(fun e=>nomatch e),o1⟩, ?_, ?_⟩
         · cases e
           exact ⟨b,rfl,hv,by rw [hrb.2.1,w2]⟩
         · rw [wE]
           refine List.nodup_cons.2 ⟨fun hm=> ?_,o2⟩
           obtain ⟨nr,hh,hw'⟩:=(o3 b hm).1
           rw [ko] at hw'
           cases hw'
           exact hh
         · rw [wE,ja]
           intro b' hb'
           rcases List.mem_cons.1 hb' with rfl | hb'
           · exact ⟨⟨_,(by exact trivial),hb⟩,oK k2 ko⟩
           · obtain ⟨⟨nr,hh,hw'⟩,h'⟩:=o3 b' hb'
             have hl':live S (av bx ((b, .dead)::u')) b':=yN hh hw'
             exact ⟨⟨nr,hh,by rw [← k1.dU hl']; exact hw'⟩,h'⟩
      · cases hy
    · cases hy
  · have vP: ∀ cs,k≠ .obj cs:=fun cs e=>vP ⟨cs,e⟩
    by_cases hkb:k= .aX
    · subst hkb
      simp only [cv] at hy
      split at hy
      · split at hy
        · split at hy
          · rename_i b off _ j hb _ l hj
            cases hw:Nat.beq off 0 with
            | false=>rw [hw] at hy; cases hy
            | true=>
             rw [hw] at hy
             cases hy
             have ho:=Nat.eq_of_beq_eq_true hw
             subst ho
             have hne:j≠b:=fun e=>by subst e; rw [hb] at hj; cases hj
             have hlb:live S bx b:=by unfold live; rw [hb]; trivial
             have hb0:env.bx b=some (.aX j):=(hk.dU hlb).symm.trans hb
             have hrb:=hn b _ hb0
             have ko:av bx [(b, .dead),(j, .dead)] b=some .dead:=(bg _ _ hne.symm).trans (aR _ _ _)
             have hv:v= .pointer (some ⟨(μ b).b,(μ b).o+0,none⟩):=h1
             have hov:dy S (.aX::ks) (.ptr b 0::Vs)=b::dy S ks Vs:=rfl
             refine ⟨⟨(fun t' cs' e=>nomatch e),(fun cs' e=>nomatch e),fun _=>⟨b,rfl,hv,hrb.1,hrb.2.1⟩,o1⟩, ?_, ?_⟩
             · rw [hov]
               refine List.nodup_cons.2 ⟨fun hm=> ?_,o2⟩
               obtain ⟨nr,hh,hw'⟩:=(o3 b hm).1
               rw [ko] at hw'
               cases hw'
               exact hh
             · rw [hov,ja]
               intro b' hb'
               rcases List.mem_cons.1 hb' with rfl | hb'
               · exact ⟨⟨_,(by exact trivial),hb⟩,oK k2 ko⟩
               · obtain ⟨⟨nr,hh,hw'⟩,h'⟩:=o3 b' hb'
                 have hl':live S (av bx [(b, .dead),(j, .dead)]) b':=yN hh hw'
                 exact ⟨⟨nr,hh,by rw [← k1.dU hl']; exact hw'⟩,h'⟩
          · cases hy
        · cases hy
      · cases hy
    by_cases ku: ∃ t cs,k= .b_ t cs
    · obtain ⟨t,cs,rfl⟩:=ku
      simp only [cv] at hy
      split at hy
      · rename_i b c
        obtain ⟨⟨ya,ua⟩,CV,hy⟩:=Option.bind_eq_some_iff.1 hy
        obtain ⟨⟨yb,ub⟩,CW,hy⟩:=Option.bind_eq_some_iff.1 hy
        cases hy
        dsimp only at CV CW
        have HD: ∀ (bx:Bx S.C) (cs:List CK) (i:Nat) (y:bH S.C cs) (u:aI S.C),Tk S env.bx bx→f_ S bx cs i=some (y,u)→Tk S bx (av bx u):=fun bx cs i y u qR h0=>by
         have :=hks [.obj cs] bx qR [.ptr i 0] [.pointer (some ⟨(μ i).b,(μ i).o+0,none⟩)] (Ks.cons (t:= .obj cs) (ts:= []) y ()) (u++ []) ⟨_,_,rfl,rfl,rfl⟩ (by
          simp only [eg]
          rw [Vo,h0]; rfl)
         rwa [List.append_nil] at this
        have ka:=HD bx _ _ _ _ hk CV
        have kb':=HD _ _ _ _ _ (hk.trans S ka) CW
        obtain ⟨⟨wa,hca,hla⟩,hda⟩:=Kq CV ka
        obtain ⟨⟨wb,hcb,hlb⟩,hdb⟩:=Kq CW kb'
        have P3:live S (av bx ua) b:=by unfold live; rw [hcb]; trivial
        have Cm:bx b=some (.cells wb):=(ka.dU P3).symm.trans hcb
        have P5:live S bx c:=by unfold live; rw [hca]; trivial
        have P4:live S bx b:=by unfold live; rw [Cm]; trivial
        have hne:c≠b:=fun e=>by subst e; rw [hda] at hcb; cases hcb
        have hc0:env.bx c=some (.cells wa):=(hk.dU P5).symm.trans hca
        have hb0:env.bx b=some (.cells wb):=(hk.dU P4).symm.trans Cm
        obtain ⟨kb,q,e1,e2,e3,e4⟩:=h1
        have cG:=e2 0 _ rfl
        rw [Nat.add_zero] at cG
        have hov:dy S (.b_ t cs::ks) (.split b c::Vs)=c::b::dy S ks Vs:=rfl
        have G8:av bx (ua++ub) c=some .dead:=by rw [ja]; exact oK kb' hda
        have G7:av bx (ua++ub) b=some .dead:=by rw [ja]; exact hdb
        have hout: ∀ i ∈ dy S ks Vs,av bx (ua++ub) i≠some .dead:=fun i hi he=>by
         obtain ⟨nr,hh,hw'⟩:=(o3 i hi).1
         rw [he] at hw'
         cases hw'
         exact hh
        refine ⟨⟨fun t' cs' e=> ?_,(fun cs' e=>nomatch e),(fun e=>nomatch e),o1⟩, ?_, ?_⟩
        · cases e
          exact ⟨b,c,kb,q,rfl,e1,e3,e4,by rw [(hn b _ hb0).2.1,hlb],by rw [(hn c _ hc0).2.1,hla],cG.2,cG.1⟩
        · rw [hov]
          refine List.nodup_cons.2 ⟨fun hm=> ?_,List.nodup_cons.2 ⟨fun hm=>hout b hm G7,o2⟩⟩
          rcases List.mem_cons.1 hm with e | hm
          · exact hne e
          · exact hout c hm G8
        · rw [hov,ja]
          intro b' hb'
          rcases List.mem_cons.1 hb' with rfl | hb'
          · exact ⟨⟨_,(by exact trivial),hca⟩,oK k2 G8⟩
          · rcases List.mem_cons.1 hb' with rfl | hb'
            · exact ⟨⟨_,(by exact trivial),Cm⟩,oK k2 G7⟩
            · obtain ⟨⟨nr,hh,hw'⟩,h'⟩:=o3 b' hb'
              have hl':live S (av bx (ua++ub)) b':=yN hh hw'
              exact ⟨⟨nr,hh,by rw [← k1.dU hl']; exact hw'⟩,h'⟩
      · cases hy
    have ku: ∀ t cs,k≠ .b_ t cs:=fun t cs e=>ku ⟨t,cs,e⟩
    rw [IJ vP hkb ku,ja]
    refine ⟨⟨fun t cs e=>absurd e (ku t cs),fun cs e=>absurd e (vP cs),fun e=>absurd e hkb,o1⟩,o2,fun b' hb'=> ?_⟩
    obtain ⟨⟨nr,hh,hw'⟩,h'⟩:=o3 b' hb'
    have hl':live S (av bx u1) b':=yN hh hw'
    exact ⟨⟨nr,hh,by rw [← k1.dU hl']; exact hw'⟩,h'⟩
end
end Go.Sy
namespace Go.Sy
section
variable {P:Program} {S:aS} {ak:Nat→Nat}
variable {w0:World} {M0 s0:St} {dq:List Deferred} {env:Env S.C} {a:Act} {w:World} {μ:Nat→Loc}
theorem bI.mono {w w':World} {s s':St} {μ:Nat→Loc} {bx:Bx S.C} (hl:bY w s w' s') {V:V S.C} {v:Value} (h:bI P S w s μ bx V v):bI P S w' s' μ bx V v:=by
 cases V with
 | d t x=>exact cA.mono S hl h
 | aZ b e l=>exact ⟨cA.mono S hl h.1,h.2⟩
 | dw t x=>exact mD.mono S hl h
 | fv a r g=>exact mB.mono P S hl h
 | split b c=>obtain ⟨k,q,h1,h2,h3⟩:=h; exact ⟨k,q,h1,h2.later hl,h3⟩
 | l8 c=>obtain ⟨k,q,h1,h2⟩:=h; exact ⟨k,q,h1,h2.later hl⟩
 | _=>exact h
theorem aH.mono {w w':World} {s s':St} {μ:Nat→Loc} {bx:Bx S.C} (hl:bY w s w' s'): ∀ {vs:List (V S.C)} {cs:List Value},aH P S w s μ bx vs cs→aH P S w' s' μ bx vs cs
 | [],_,h=>h
 | _::_,_,⟨c,r,h1,h2,h3⟩=>⟨c,r,h1,h2.mono hl,aH.mono hl h3⟩
theorem RB.mono {w:World} {s s':St} {μ:Nat→Loc} {bx:Bx S.C} (hl:bY w s w s') {L:Loc} {B:dP S.C} (h:RB P S w s μ bx L B):RB P S w s' μ bx L B:=by
 cases B with
 | cells vs=>
  obtain ⟨h1,h2,h3,cs,h4,h5⟩:=h
  exact ⟨h1,h2,h3,cs,h4,h5.mono hl⟩
 | bW vs=>
  obtain ⟨h1,cs,h4,h5⟩:=h
  exact ⟨h1,cs,h4.later hl,h5.mono hl⟩
 | arr e l=>
  obtain ⟨h1,h2,h3,h4,h5⟩:=h
  refine ⟨h1,h2,h3,h4,fun i x hi=> ?_⟩
  obtain ⟨ds,d1,d2,n,d3⟩:=h5 i x hi
  exact ⟨ds,d1,d2,n,d3.mono S hl (Nat.le_refl _)⟩
 | bM e l=>
  obtain ⟨h2,h3,h5⟩:=h
  refine ⟨h2,h3,fun i x hi=> ?_⟩
  obtain ⟨ds,d1,d2,n,d3⟩:=h5 i x hi
  exact ⟨ds,d1,d2.later hl,n,d3.mono S hl (Nat.le_refl _)⟩
 | tail=>exact h
 | dead=>trivial
 | aX j=>exact h
 | buf l=>exact h
def DF (us:aI S.C):Prop:= ∀ u ∈ us,u.2= .dead∨ ∃ e l,u.2= .bM e l
theorem DF.append {us vs:aI S.C} (h:DF us) (h':DF vs):DF (us++vs):=fun u hu=>(List.mem_append.1 hu).elim (h u) (h' u)
theorem DF.fz {bx:Bx S.C} {us:aI S.C} (h:cS bx us):DF us:=fun u hu=>by obtain ⟨e,l,he,_⟩:=h u hu; exact .inr ⟨e,l,he⟩
theorem DF.dX {bx:Bx S.C} {c:CK} {vs:List (Sy.V S.C)} {x:c.den S.C} {us:aI S.C} (h1:dX S bx c vs=some (x,us)):DF us:=by
 intro u hu
 cases c with
 | data t=>
  simp only [Sy.dX] at h1
  obtain ⟨z,_,h1⟩:=Option.bind_eq_some_iff.1 h1
  cases h1
  obtain ⟨v,_,hv⟩:=List.mem_flatMap.1 hu
  obtain ⟨e,l,he,_⟩:=cS.cN bx v u hv
  exact .inr ⟨e,l,he⟩
 | aZ e=>
  simp only [Sy.dX] at h1
  split at h1
  · split at h1
    · obtain ⟨z,_,h1⟩:=Option.bind_eq_some_iff.1 h1
      cases h1
      simp at hu; subst hu; exact .inl rfl
    · cases h1
  · cases h1; simp at hu
  · cases h1
 | aQ e=>
  simp only [Sy.dX] at h1
  split at h1
  · split at h1
    · obtain ⟨z,_,h1⟩:=Option.bind_eq_some_iff.1 h1
      cases h1
      simp at hu; subst hu; exact .inl rfl
    · cases h1
  · split at h1
    · obtain ⟨z,_,h1⟩:=Option.bind_eq_some_iff.1 h1
      cases h1
      simp at hu; subst hu; exact .inl rfl
    · cases h1
  · cases h1; simp at hu
  · cases h1
theorem DF.dN: ∀ {cs:List CK} {bx:Bx S.C} {vs:List (Sy.V S.C)} {x:bH S.C cs} {us:aI S.C},dN S bx cs vs=some (x,us)→DF us
 | [],_,_,_,_,h=>by cases h; intro u hu; simp at hu
 | c::cs,bx,vs,x,us,h=>by
  simp only [Sy.dN] at h
  obtain ⟨⟨p,q⟩,h1,h⟩:=Option.bind_eq_some_iff.1 h
  obtain ⟨⟨p',q'⟩,h2,h⟩:=Option.bind_eq_some_iff.1 h
  cases h
  exact (DF.dX h1).append (DF.dN h2)
theorem DF.f_ {cs:List CK} {bx:Bx S.C} {b:Nat} {x:bH S.C cs} {us:aI S.C} (hx:f_ S bx cs b=some (x,us)):DF us:=by
 unfold Sy.f_ at hx
 split at hx
 · rename_i ws hb
   cases hw:Nat.beq ws.length (CK.cD S cs) with
   | false=>rw [hw] at hx; cases hx
   | true=>
    rw [hw,cond_true] at hx
    obtain ⟨⟨y,u'⟩,hy,hx⟩:=Option.bind_eq_some_iff.1 hx
    cases hx
    intro u hu
    rcases List.mem_cons.1 hu with rfl | hu
    · exact .inl rfl
    · exact DF.dN hy u hu
 · cases hx
theorem DF.cv {fs:List (gA S)} {bx:Bx S.C} {k:K} {V:Sy.V S.C} {x:k.den S.C} {us:aI S.C} (hx:cv S fs bx k V=some (x,us)):DF us:=by
 have obj: ∀ (b:Nat) (us':aI S.C),DF us'→DF ((b, .dead)::us'):=fun b us' h u hu=>by
  rcases List.mem_cons.1 hu with rfl | hu
  · exact .inl rfl
  · exact h u hu
 cases k with
 | val c=>
  cases c with
  | data t=>
   simp only [Sy.cv] at hx
   obtain ⟨y,hy,hx⟩:=Option.bind_eq_some_iff.1 hx
   cases hx
   exact DF.fz (cS.dh bx V)
  | aZ e=>exact DF.dX (c:= .aZ e) hx
  | aQ e=>exact DF.dX (c:= .aQ e) hx
 | obj ps=>
  simp only [Sy.cv] at hx
  split at hx
  · split at hx
    · rename_i b off _ ws hb
      cases hw:Nat.beq off 0&&Nat.beq ws.length (CK.cD S ps) with
      | false=>rw [hw] at hx; cases hx
      | true=>
       rw [hw,cond_true] at hx
       obtain ⟨⟨y,u'⟩,hy,hx⟩:=Option.bind_eq_some_iff.1 hx
       cases hx
       exact obj _ _ (DF.dN hy)
    · cases hx
  · cases hx
 | b_ t ps=>
  simp only [Sy.cv] at hx
  split at hx
  · obtain ⟨⟨y,u1⟩,hy,hx⟩:=Option.bind_eq_some_iff.1 hx
    obtain ⟨⟨z,u2⟩,hz,hx⟩:=Option.bind_eq_some_iff.1 hx
    cases hx
    exact (DF.f_ hy).append (DF.f_ hz)
  · cases hx
 | opt ps=>
  simp only [Sy.cv] at hx
  split at hx
  · cases hx; intro u hu; simp at hu
  · split at hx
    · rename_i b off _ ws hb
      cases hw:Nat.beq off 0&&Nat.beq ws.length (CK.cD S ps) with
      | false=>rw [hw] at hx; cases hx
      | true=>
       rw [hw,cond_true] at hx
       obtain ⟨⟨y,u'⟩,hy,hx⟩:=Option.bind_eq_some_iff.1 hx
       cases hx
       exact obj _ _ (DF.dN hy)
    · cases hx
  · cases hx
 | cF ps=>
  simp only [Sy.cv] at hx
  split at hx
  · split at hx
    · rename_i b n _ ws hb
      cases hw:Nat.beq n ws.length&&Nat.beq ws.length (CK.cD S ps) with
      | false=>rw [hw] at hx; cases hx
      | true=>
       rw [hw,cond_true] at hx
       obtain ⟨⟨y,u'⟩,hy,hx⟩:=Option.bind_eq_some_iff.1 hx
       cases hx
       exact obj _ _ (DF.dN hy)
    · cases hx
  · cases hx
 | err=>
  simp only [Sy.cv] at hx
  split at hx
  · cases hx; intro u hu; simp at hu
  · cases hx
 | aX=>
  simp only [Sy.cv] at hx
  split at hx
  · split at hx
    · split at hx
      · rename_i b off _ j hb _ l hj
        cases hw:Nat.beq off 0 with
        | false=>rw [hw] at hx; cases hx
        | true=>
         rw [hw] at hx
         cases hx
         intro u hu
         simp only [List.mem_cons,List.not_mem_nil,or_false] at hu
         rcases hu with rfl | rfl <;> exact .inl rfl
      · cases hx
    · cases hx
  · cases hx
 | nil=>
  simp only [Sy.cv] at hx
  split at hx
  · cases hx; intro u hu; simp at hu
  · cases hx
 | ro t=>
  simp only [Sy.cv] at hx
  obtain ⟨y,hy,hx⟩:=Option.bind_eq_some_iff.1 hx
  cases hx; intro u hu; simp at hu
 | fn A R=>
  simp only [Sy.cv] at hx
  obtain ⟨y,hy,hx⟩:=Option.bind_eq_some_iff.1 hx
  cases hx; intro u hu; simp at hu
theorem DF.eg {fs:List (gA S)} : ∀ {ks:List K} {bx:Bx S.C} {Vs:List (Sy.V S.C)} {x:Ks S.C ks} {us:aI S.C},eg S fs bx ks Vs=some (x,us)→DF us
 | [],_,[],_,_,h=>by cases h; intro u hu; simp at hu
 | [],_,_::_,_,_,h=>by cases h
 | _::_,_,[],_,_,h=>by cases h
 | k::ks,bx,V::Vs,x,us,h=>by
  simp only [Sy.eg] at h
  obtain ⟨⟨p,q⟩,h1,h⟩:=Option.bind_eq_some_iff.1 h
  obtain ⟨⟨p',q'⟩,h2,h⟩:=Option.bind_eq_some_iff.1 h
  cases h
  exact (DF.cv h1).append (DF.eg h2)
theorem zc {i:Nat} : ∀ {us:aI S.C} {bx j_:Bx S.C} (fE:Bool),(bx i=some .dead→j_ i=some .dead)→av bx us i=some .dead→av j_ (jN S fE us) i=some .dead
 | [],bx,j_,fE,h,hu=>by
  have :jN S fE ([]:aI S.C)= []:=by cases fE <;> rfl
  rw [this]; exact h hu
 | u::us,bx,j_,true,h,hu=>zc (us:=us) (bx:=au bx u.1 (some u.2)) (j_:=au j_ u.1 (some u.2)) true (fun hi=>by
  by_cases e:i=u.1
  · rw [e,aR] at hi ⊢; exact hi
  · rw [bg _ _ e] at hi ⊢; exact h hi) hu
 | (k,B)::us,bx,j_,false,h,hu=>by
  have keep:av j_ ((k,B)::jN S false us) i=some .dead:=zc (us:=us) (bx:=au bx k (some B)) (j_:=au j_ k (some B)) false (fun hi=>by
   by_cases e:i=k
   · rw [e,aR] at hi ⊢; exact hi
   · rw [bg _ _ e] at hi ⊢; exact h hi) hu
  cases B with
  | bM e l=>
   refine zc (us:=us) (bx:=au bx k (some (.bM e l))) (j_:=j_) false (fun hi=> ?_) hu
   by_cases e:i=k
   · rw [e,aR] at hi
     cases hi
   · rw [bg _ _ e] at hi; exact h hi
  | _=>exact keep
theorem KS {i:Nat} : ∀ {us:aI S.C} {bx:Bx S.C},(∀ u ∈ us,u.2= .dead)→av bx us i=bx i∨av bx us i=some .dead
 | [],_,_=> .inl rfl
 | u::us,bx,h=>by
  rcases KS (us:=us) (bx:=au bx u.1 (some u.2)) (fun v hv=>h v (by simp [hv])) with h1 | h1
  · by_cases e:i=u.1
    · right; show av (au bx u.1 (some u.2)) us i=_
      rw [h1,e,aR,h u (by simp)]
    · left; show av (au bx u.1 (some u.2)) us i=_
      rw [h1,bg _ _ e]
  · exact .inr h1
theorem QV {us:aI S.C} (h:DF us) (fE:Bool) (bx:Bx S.C) (i:Nat):
 av bx (jN S fE us) i=bx i∨av bx (jN S fE us) i=some .dead∨(fE=true∧av bx (jN S fE us) i=av bx us i):=by
 cases fE with
 | true=>exact .inr (.inr ⟨rfl,rfl⟩)
 | false=>
  rcases KS (i:=i) (us:=jN S false us) (bx:=bx) (fun u hu=>by
   unfold jN at hu
   rw [cond_false,List.mem_filter] at hu
   rcases h u hu.1 with h1 | ⟨e,l,h1⟩
   · exact h1
   · rw [h1] at hu; exact absurd hu.2 (by simp)) with h1 | h1
  · exact .inl h1
  · exact .inr (.inl h1)
theorem Inv.call (h:Inv P S w0 M0 s0 dq env a w μ) {dF gs:aI S.C} {fE:Bool} {M M' s':St} {w':World} {lam:Nat→Loc} {I:Nat→Prop} {Co:List Nat}
 (hdf:DF dF) (hk:Tk S env.bx (av env.bx dF)) (hM:cz S env μ env.bx (av env.bx dF) M) (hw:aY w w' M)
 (hs': ∀ b o,s' b o→b<w'.heap.size∧ ¬ M' b o∧(cE S w0 M0 s0 env.bx (av env.bx dF) μ w b o∨M b o∨w.heap.size≤b))
 (oP: ∀ b o,M' b o→M b o∨w.heap.size≤b) (hG:cn P S w' s' I gs lam M') (hI: ∀ i,I i→i ∈ Co∨env.bx i=none)
 (hh: ∀ b ∈ Co,(∃ B,rj S B∧env.bx b=some B)∧lam b=μ b∧ ∃ B,rj S B∧(b,B) ∈ gs) (hl:fE=true∨ ∀ b o, ¬ s' b o):
 ∃ μ',Inv P S w0 M0 s0 dq { env with bx:=av env.bx (jN S fE dF++gs) } a w' μ'∧bY w' s' w' (aG S w0 M0 s0 (av env.bx (jN S fE dF++gs)) μ' w')∧
  Agree gs lam μ' (av env.bx (jN S fE dF++gs)):=by
 rw [ja]
 generalize Cl:av env.bx (jN S fE dF)=eu
 let μ':Nat→Loc:=fun i=>if i ∈ gs.map (·.1) then lam i else μ i
 have hin: ∀ u ∈ gs,av eu gs u.1=some u.2∧μ' u.1=lam u.1:=fun u hu=>⟨AV gs eu hG.one u hu,if_pos (List.mem_map.2 ⟨u,hu,rfl⟩)⟩
 have hout: ∀ i,(∀ u ∈ gs,u.1≠i)→av eu gs i=eu i∧μ' i=μ i:=fun i hi=>⟨uH gs eu hi,if_neg fun hm=>by
  obtain ⟨u,hu,he⟩:=List.mem_map.1 hm; exact hi u hu he⟩
 have fP: ∀ i,eu i=env.bx i∨eu i=some .dead∨(fE=true∧eu i=av env.bx dF i):=fun i=>by rw [← Cl]; exact QV hdf fE env.bx i
 have ko: ∀ i,av env.bx dF i=some .dead→eu i=some .dead:=fun i hi=>by rw [← Cl]; exact zc fE (fun h=>h) hi
 have hlv: ∀ i,live S eu i→eu i=env.bx i∧live S env.bx i:=fun i hi=>by
  have h1:eu i=env.bx i:=by
   rcases fP i with h1 | h1 | ⟨_,h1⟩
   · exact h1
   · unfold live at hi; rw [h1] at hi; exact hi.elim
   · rw [h1]; exact hk.dU ((eA S h1).1 hi)
  exact ⟨h1,(eA S h1).1 hi⟩
 let U:Nat→Prop:=fun i=>(∃ u ∈ gs,u.1=i)∨eu i≠env.bx i
 have s7: ∀ b o,M b o→ ∃ i,live S env.bx i∧eu i=some .dead∧(μ i).aF b o:=fun b o hm=>by
  obtain ⟨i,h1,_,h3,h4⟩:=hM b o hm
  exact ⟨i,h1,ko i h3,h4⟩
 have Cd: ∀ i,live S env.bx i→eu i=some .dead→U i:=fun i h1 h2=> .inr fun e=>by
  unfold live at h1; rw [← e,h2] at h1; exact h1
 have hT: ∀ b o,M b o→b<w.heap.size→ ∃ i,U i∧live S env.bx i∧(μ i).aF b o:=fun b o hm _=>by
  obtain ⟨i,h1,h2,h3⟩:=s7 b o hm
  exact ⟨i,Cd i h1 h2,h1,h3⟩
 have hU: ∀ i, ¬ U i→av eu gs i=env.bx i∧μ' i=μ i:=fun i hi=>by
  obtain ⟨h1,h2⟩:=hout i fun u hu e=>hi (.inl ⟨u,hu,e⟩)
  exact ⟨h1.trans (Classical.not_not.1 fun e=>hi (.inr e)),h2⟩
 have tf: ∀ i,live S (av eu gs) i→(∃ u ∈ gs,u.1=i∧μ' i=lam u.1)∨(eu i=env.bx i∧live S env.bx i∧μ' i=μ i∧av eu gs i=eu i):=fun i hi=>by
  by_cases hg: ∃ u ∈ gs,u.1=i
  · obtain ⟨u,hu,rfl⟩:=hg
    exact .inl ⟨u,hu,rfl,(hin u hu).2⟩
  · obtain ⟨h1,h2⟩:=hout i fun u hu e=>hg ⟨u,hu,e⟩
    obtain ⟨h3,h4⟩:=hlv i ((eA S h1).1 hi)
    exact .inr ⟨h3,h4,h2,h1⟩
 have yR: ∀ u ∈ gs, ∀ b o,(lam u.1).aF b o→M' b o:=fun u hu b o hf=>(hG.aF b o).2 ⟨u,hu,hf⟩
 have hf: ∀ i,U i→live S (av eu gs) i→ ∀ b o,(μ' i).aF b o→w.heap.size≤b∨ ∃ j,U j∧live S env.bx j∧(μ j).aF b o:=by
  intro i hi Cz b o hfo
  rcases tf i Cz with ⟨u,hu,rfl,h2⟩ | ⟨h1,h2,h3,h4⟩
  · rw [h2] at hfo
    rcases oP b o (yR u hu b o hfo) with hm | hn
    · obtain ⟨j,j1,j2,j3⟩:=s7 b o hm
      exact .inr ⟨j,Cd j j1 j2,j1,j3⟩
    · exact .inl hn
  · rcases hi with ⟨u,hu,rfl⟩ | hi
    · rw [(hin u hu).2] at hfo
      rcases oP b o (yR u hu b o hfo) with hm | hn
      · obtain ⟨j,j1,j2,j3⟩:=s7 b o hm
        exact .inr ⟨j,Cd j j1 j2,j1,j3⟩
      · exact .inl hn
    · exact absurd h1 hi
 have vL:=h.later hw hT hU hf
 have gk:bY w' s' w' (aG S w0 M0 s0 (av eu gs) μ' w'):=by
  intro b o hs
  obtain ⟨q1,q2,q3⟩:=hs' b o hs
  refine ⟨⟨q1, ?_,fun i hi hfo=> ?_⟩,rfl⟩
  · rcases q3 with q3 | q3 | q3
    · exact q3.2.1
    · obtain ⟨i,i1,_,i3⟩:=s7 b o q3
      exact (h.own i i1 b o i3).elim (fun h=> .inr (.inr h)) (fun h=> .inr (.inl h))
    · exact .inr (.inr (Nat.le_trans h.gY.size q3))
  · rcases tf i hi with ⟨u,hu,rfl,h2⟩ | ⟨h1,h2,h3,h4⟩
    · rw [h2] at hfo; exact q2 (yR u hu b o hfo)
    · rw [h3] at hfo
      rcases q3 with q3 | q3 | q3
      · rcases q3.2.2 i h2 with ⟨e,l,hq⟩ | hq
        · rcases hl with hl | hl
          · have :eu i=some (.bM e l):=by rw [← Cl,hl]; exact hq
            have hi':=(eA S h4).1 hi
            unfold live at hi'
            rw [this] at hi'
            exact hi'
          · exact hl b o hs
        · exact hq hfo
      · obtain ⟨k,k1,k2,k3⟩:=s7 b o q3
        refine h.dr i k (fun e=> ?_) h2 k1 b o hfo k3
        subst e
        rw [h1] at k2
        unfold live at h2; rw [k2] at h2; exact h2
      · exact absurd (lZ P S (h.cg i) h2 hfo).1 (by omega)
 refine ⟨μ',h.step hw hT hU hf ?_ ?_ ?_ ?_,gk,hin⟩
 · intro i B0 hi
   by_cases hg: ∃ u ∈ gs,u.1=i
   · obtain ⟨u,hu,rfl⟩:=hg
     rcases hI u.1 (hG.fJ u hu) with hm | hn
     · obtain ⟨⟨ws,d1,e1⟩,e2,vs,d3,e3⟩:=hh _ hm
       rw [hi] at e1
       cases e1
       have :u=(u.1,vs):=hG.one u hu _ e3 rfl
       refine ⟨_,(hin u hu).1, ?_⟩
       rw [show u.2=vs from congrArg Prod.snd this]
       exact Nz S d1 d3 ((hin u hu).2.trans e2)
     · rw [hi] at hn; cases hn
   · obtain ⟨h1,h2⟩:=hout i fun u hu e=>hg ⟨u,hu,e⟩
     rw [h1,h2]
     rcases fP i with e1 | e1 | ⟨e0,e1⟩
     · exact ⟨B0,e1.trans hi,cM.refl S _ _⟩
     · exact ⟨_,e1,by cases B0 <;> rfl⟩
     · rcases hk i with e2 | ⟨e2,_⟩ | ⟨e,l,e2,e3⟩
       · exact ⟨B0,(e1.trans e2).trans hi,cM.refl S _ _⟩
       · exact ⟨_,e1.trans e2,by cases B0 <;> rfl⟩
       · rw [hi] at e2
         cases e2
         exact ⟨_,e1.trans e3,rfl,rfl,rfl⟩
 · intro i j hi hj hij li lj b o fi fj
   rcases tf i li with ⟨u,hu,rfl,h2⟩ | ⟨h1,h2,h3,h4⟩
   · rcases tf j lj with ⟨u',aN,rfl,lS⟩ | ⟨h1',_,_,_⟩
     · rw [h2] at fi; rw [lS] at fj
       exact hG.dr u hu u' aN hij b o fi fj
     · rcases hj with ⟨u',aN,rfl⟩ | hj
       · rw [h2] at fi; rw [(hin u' aN).2] at fj
         exact hG.dr u hu u' aN hij b o fi fj
       · exact hj h1'
   · rcases hi with ⟨u,hu,rfl⟩ | hi
     · rcases tf j lj with ⟨u',aN,rfl,lS⟩ | ⟨h1',_,_,_⟩
       · rw [(hin u hu).2] at fi; rw [lS] at fj
         exact hG.dr u hu u' aN hij b o fi fj
       · rcases hj with ⟨u',aN,rfl⟩ | hj
         · rw [(hin u hu).2] at fi; rw [(hin u' aN).2] at fj
           exact hG.dr u hu u' aN hij b o fi fj
         · exact hj h1'
     · exact hi h1
 · intro i B hi hB
   by_cases hg: ∃ u ∈ gs,u.1=i
   · obtain ⟨u,hu,rfl⟩:=hg
     rw [(hin u hu).1] at hB
     cases hB
     rw [(hin u hu).2]
     exact (hG.rb μ' _ hin u hu).mono gk
   · obtain ⟨h1,h2⟩:=hout i fun u hu e=>hg ⟨u,hu,e⟩
     rw [h1] at hB
     rw [h2]
     have hne:eu i≠env.bx i:=hi.resolve_left hg
     rcases fP i with e1 | e1 | ⟨e0,e1⟩
     · exact absurd e1 hne
     · rw [e1] at hB; cases hB; trivial
     · rcases hk i with e2 | ⟨e2,_⟩ | ⟨e,l,e2,e3⟩
       · exact absurd (e1.trans e2) hne
       · rw [e1,e2] at hB; cases hB; trivial
       · have G2:eu i=some (.bM e l):=e1.trans e3
         rw [G2] at hB
         cases hB
         have cj:live S env.bx i:=by unfold live; rw [e2]; trivial
         obtain ⟨g1,g2,g3,g4,g5⟩:=h.cg i _ e2
         refine ⟨g2,g3,fun k x nL=> ?_⟩
         obtain ⟨ds,d1,d2,n,d3⟩:=g5 k x nL
         refine ⟨ds,d1,fun j u hj=> ?_,n,d3.mono S vL (Nat.le_refl _)⟩
         have hj':=(List.getElem?_eq_some_iff.1 hj).1
         have tg:=(List.getElem?_eq_some_iff.1 nL).1
         have hO:(μ i).aF (μ i).b ((μ i).o+k*Ty.sz S e+j):=by
          refine ⟨rfl,by omega, ?_⟩
          have :(k+1)*Ty.sz S e≤(μ i).cap*Ty.sz S e:=Nat.mul_le_mul_right _ (by omega)
          rw [Nat.add_mul,Nat.one_mul] at this
          omega
         have Hy: ¬ M (μ i).b ((μ i).o+k*Ty.sz S e+j):=fun hm=>by
          obtain ⟨q,q1,q2,q3⟩:=s7 _ _ hm
          refine h.dr i q (fun e=> ?_) cj q1 _ _ hO q3
          subst e
          rw [G2] at q2
          cases q2
         have Hv:=(lZ P S (h.cg i) cj hO).1
         refine ⟨(hw.cell _ _ Hv Hy).trans (d2 j u hj),Nat.lt_of_lt_of_le Hv hw.size,(h.own i cj _ _ hO).elim (fun h=> .inr (.inr h)) (fun h=> .inr (.inl h)),fun q hq td=> ?_⟩
         rcases tf q hq with ⟨u,hu,rfl,h2⟩ | ⟨r1,r2,r3,r4⟩
         · rw [h2] at td
           rcases oP _ _ (yR u hu _ _ td) with hm | hn
           · exact Hy hm
           · omega
         · rw [r3] at td
           refine h.dr q i (fun e=> ?_) r2 cj _ _ td hO
           subst e
           exact hne r1
 · intro i vs hi hvs v hv j hj
   by_cases hg: ∃ u ∈ gs,u.1=i
   · obtain ⟨u,hu,rfl⟩:=hg
     rw [(hin u hu).1] at hvs
     obtain ⟨u',aN,he⟩:=hG.ref u hu vs (by rcases hvs with hvs | hvs <;> · rw [Option.some.inj hvs]; simp) v hv j hj
     rw [← he,(hin u' aN).1]; simp
   · obtain ⟨h1,h2⟩:=hout i fun u hu e=>hg ⟨u,hu,e⟩
     have hne:eu i≠env.bx i:=hi.resolve_left hg
     rw [h1] at hvs
     rcases fP i with e1 | e1 | ⟨e0,e1⟩
     · exact absurd e1 hne
     · rw [e1] at hvs; rcases hvs with hvs | hvs <;> cases hvs
     · rcases hk i with e2 | ⟨e2,_⟩ | ⟨e,l,e2,e3⟩
       · exact absurd (e1.trans e2) hne
       · rw [e1,e2] at hvs; rcases hvs with hvs | hvs <;> cases hvs
       · rw [e1,e3] at hvs; rcases hvs with hvs | hvs <;> cases hvs
end
end Go.Sy
namespace Go.Sy
section
variable {P:Program} {S:aS} {ak:Nat→Nat}
theorem sK {bx ai:Bx S.C} {W:Sy.V S.C} {t:Ty} (hW: ∀ i ∈ az S W,ai i=bx i):cU S ai t W=cU S bx t W:=by
 cases W with
 | aQ b=>simp only [cU]; rw [hW b (by simp [az])]
 | _=>rfl
theorem OF {bx ai:Bx S.C} {W:Sy.V S.C} (hW: ∀ i ∈ az S W,ai i=bx i):cN S ai W=cN S bx W:=by
 cases W with
 | aQ b=>simp only [cN]; rw [hW b (by simp [az])]
 | _=>rfl
theorem KE {bx ai:Bx S.C} : ∀ {ts:List Ty} {vs:List (Sy.V S.C)},(∀ v ∈ vs, ∀ i ∈ az S v,ai i=bx i)→gR S ai ts vs=gR S bx ts vs
 | [],_,_=>rfl
 | t::ts,[],_=>rfl
 | t::ts,v::vs,h=>by
  simp only [gR]
  rw [sK (h v (by simp)),KE fun v hv=>h v (by simp [hv])]
theorem CZ {bx ai:Bx S.C} {t:Ty} {vs:List (Sy.V S.C)} (h: ∀ v ∈ vs, ∀ i ∈ az S v,ai i=bx i):h_ S ai t vs=h_ S bx t vs:=by
 cases t with
 | st u=>simp only [h_]; rw [KE h]
 | _=>
  cases vs with
  | nil=>rfl
  | cons v vs=>exact sK (h v (by simp))
theorem GH {bx ai:Bx S.C} : ∀ {vs:List (Sy.V S.C)},(∀ v ∈ vs, ∀ i ∈ az S v,ai i=bx i)→vs.flatMap (cN S ai)=vs.flatMap (cN S bx)
 | [],_=>rfl
 | v::vs,h=>by
  simp only [List.flatMap_cons]
  rw [OF (h v (by simp)),GH fun v hv=>h v (by simp [hv])]
theorem Kk {bx ai:Bx S.C} {c:CK} {vs:List (Sy.V S.C)} (h: ∀ v ∈ vs, ∀ i ∈ az S v,ai i=bx i):dX S ai c vs=dX S bx c vs:=by
 cases c with
 | data t=>
  simp only [dX]
  rw [CZ h,GH fun v hv=>h v (List.mem_of_mem_take hv)]
 | aZ e=>
  cases vs with
  | nil=>rfl
  | cons v vs=>
   have :=h v (by simp)
   cases v with
   | aZ b e' l=>simp only [dX]; rw [this b (by simp [az])]
   | _=>rfl
 | aQ e=>
  cases vs with
  | nil=>rfl
  | cons v vs=>
   have :=h v (by simp)
   cases v with
   | aQ b=>simp only [dX]; rw [this b (by simp [az])]
   | pre b n=>simp only [dX]; rw [this b (by simp [az])]
   | _=>rfl
theorem pU {i:Nat} : ∀ (us:aI S.C) {bx ai:Bx S.C},ai i=bx i→av ai us i=av bx us i
 | [],_,_,h=>h
 | u::us,bx,ai,h=>pU us (bx:=au bx u.1 (some u.2)) (ai:=au ai u.1 (some u.2)) (by
  by_cases e:i=u.1
  · rw [e,aR,aR]
  · rw [bg _ _ e,bg _ _ e]; exact h)
theorem AU: ∀ {cs:List CK} {bx ai:Bx S.C} {vs:List (Sy.V S.C)},(∀ v ∈ vs, ∀ i ∈ az S v,ai i=bx i)→dN S ai cs vs=dN S bx cs vs
 | [],_,_,_,_=>rfl
 | c::cs,bx,ai,vs,h=>by
  simp only [dN]
  rw [Kk h]
  cases dX S bx c vs with
  | none=>rfl
  | some a=>
   simp only [Option.bind_some]
   rw [AU fun v hv i hi=>pU _ (h v (List.mem_of_mem_drop hv) i hi)]
def jd (S:aS) (bx ai:Bx S.C) (V:Sy.V S.C):Prop:=
 ∀ i ∈ aA S V,ai i=bx i∧(∀ vs,(bx i=some (.cells vs)∨bx i=some (.bW vs))→ ∀ v ∈ vs, ∀ j ∈ az S v,ai j=bx j)∧ ∀ j,bx i=some (.aX j)→ai j=bx j
theorem Wg {us:aI S.C} {i:Nat} {vs:List (Sy.V S.C)} (h:DF us): ∀ {bx:Bx S.C},(av bx us i=some (.cells vs)∨av bx us i=some (.bW vs))→(bx i=some (.cells vs)∨bx i=some (.bW vs)):=by
 induction us with
 | nil=>exact fun h=>h
 | cons u us ih=>
  intro bx hu
  have :=ih (fun v hv=>h v (by simp [hv])) (bx:=au bx u.1 (some u.2)) hu
  by_cases e:i=u.1
  · rw [e,aR] at this
    rcases h u (by simp) with h1 | ⟨_,_,h1⟩ <;> · rw [h1] at this; rcases this with h2 | h2 <;> cases h2
  · rw [bg _ _ e] at this; exact this
theorem Wh {us:aI S.C} {i j:Nat} (h:DF us): ∀ {bx:Bx S.C},av bx us i=some (.aX j)→bx i=some (.aX j):=by
 induction us with
 | nil=>exact fun h=>h
 | cons u us ih=>
  intro bx hu
  have :=ih (fun v hv=>h v (by simp [hv])) (bx:=au bx u.1 (some u.2)) hu
  by_cases e:i=u.1
  · rw [e,aR] at this
    rcases h u (by simp) with h1 | ⟨_,_,h1⟩ <;> · rw [h1] at this; cases this
  · rw [bg _ _ e] at this; exact this
theorem jd.av {bx ai:Bx S.C} {V:Sy.V S.C} {us:aI S.C} (hd:DF us) (h:jd S bx ai V):jd S (av bx us) (av ai us) V:=fun i hi=>
 ⟨pU us (h i hi).1,fun vs hvs v hv j hj=>pU us ((h i hi).2.1 vs (Wg hd hvs) v hv j hj),fun j hj=>pU us ((h i hi).2.2 j (Wh hd hj))⟩
theorem Np {bx ai:Bx S.C} {t:Ty} {v:Sy.V S.C} (this: ∀ i ∈ az S v,ai i=bx i∧ ∀ ws,(bx i=some (.cells ws)∨bx i=some (.bW ws))→ ∀ v ∈ ws, ∀ j ∈ az S v,ai j=bx j):mH S ai t v=mH S bx t v:=by
 cases v with
 | ptr b off=>
  obtain ⟨h1,h2⟩:=this b (by simp [az])
  cases off with
  | zero=>
   simp only [mH]
   rw [h1]
   split
   · rename_i ws hb
     rw [CZ (h2 ws (.inr hb))]
   · rfl
  | succ n=>rfl
 | _=>rfl
theorem Bv {bx ai:Bx S.C} : ∀ {ts:List Ty} {vs:List (Sy.V S.C)},(∀ v ∈ vs, ∀ i ∈ az S v,ai i=bx i∧ ∀ ws,(bx i=some (.cells ws)∨bx i=some (.bW ws))→ ∀ v ∈ ws, ∀ j ∈ az S v,ai j=bx j)→caps S ai ts vs=caps S bx ts vs
 | [],[],_=>rfl
 | [],_::_,_=>rfl
 | t::ts,[],_=>rfl
 | t::ts,v::vs,h=>by
  simp only [caps]
  have h1:mH S ai t v=mH S bx t v:=by
   have :=h v (by simp)
   cases v with
   | ptr b off=>
    obtain ⟨h1,h2⟩:=this b (by simp [az])
    cases off with
    | zero=>
     simp only [mH]
     rw [h1]
     split
     · rename_i ws hb
       rw [CZ (h2 ws (.inr hb))]
     · rfl
    | succ n=>rfl
   | _=>rfl
  rw [h1,Bv fun v hv=>h v (by simp [hv])]
theorem OB {fs:List (gA S)} {bx ai:Bx S.C} {A R:List Ty} {V:Sy.V S.C} (h:jd S bx ai V):qt S fs ai A R V=qt S fs bx A R V:=by
 cases V with
 | fC f vs=>
  simp only [qt]
  have : ∀ ts,caps S ai ts vs=caps S bx ts vs:=fun ts=>Bv fun v hv i hi=>have q:=h i (by simp only [aA,List.mem_flatMap]; exact ⟨v,hv,hi⟩); ⟨q.1,q.2.1⟩
  simp only [this]
 | _=>rfl
theorem Kr {bx ai:Bx S.C} {cs:List CK} {b:Nat} (h:jd S bx ai (.ptr b 0)):f_ S ai cs b=f_ S bx cs b:=by
 unfold f_
 rw [(h b (by simp [aA,az])).1]
 split
 · rename_i vs hb
   have :dN S (au ai b (some .dead)) cs (vs.drop 0)=dN S (au bx b (some .dead)) cs (vs.drop 0):=by
    refine AU fun v hv i hi=> ?_
    have :=(h b (by simp [aA,az])).2.1 vs (.inl hb) v (List.mem_of_mem_drop hv) i hi
    by_cases e:i=b
    · rw [e,aR,aR]
    · rw [bg _ _ e,bg _ _ e]; exact this
   rw [this]
 · rfl
theorem Vl {fs:List (gA S)} {bx ai:Bx S.C} {k:K} {V:Sy.V S.C} (h:jd S bx ai V):cv S fs ai k V=cv S fs bx k V:=by
 have h1: ∀ (c:CK),dX S ai c [V]=dX S bx c [V]∨ ∃ u vs,V= .agg u vs∨V= .fC u vs∨V= .iy vs:=by
  intro c
  cases V with
  | agg u vs=>exact .inr ⟨u,vs, .inl rfl⟩
  | fC u vs=>exact .inr ⟨u,vs, .inr (.inl rfl)⟩
  | iy vs=>exact .inr ⟨0,vs, .inr (.inr rfl)⟩
  | _=>exact .inl (Kk fun v hv i hi=>by simp at hv; subst hv; exact (h i hi).1)
 have obj: ∀ (cs:List CK) (b:Nat) (vs:List (Sy.V S.C)) (off:Nat),V= .ptr b off→bx b=some (.cells vs)→dN S (au ai b (some .dead)) cs (vs.drop off)=dN S (au bx b (some .dead)) cs (vs.drop off):=by
  rintro cs b vs off rfl hb
  refine AU fun v hv i hi=> ?_
  have :=(h b (by simp [aA,az])).2.1 vs (.inl hb) v (List.mem_of_mem_drop hv) i hi
  by_cases e:i=b
  · rw [e,aR,aR]
  · rw [bg _ _ e,bg _ _ e]; exact this
 cases k with
 | val c=>
  cases c with
  | data t=>
   obtain ⟨d1,d2⟩:=vg (t:=t) fun i hi=>(h i hi).1
   simp only [cv,d1,d2]
  | aZ e=>
   rcases h1 (.aZ e) with h1 | ⟨u,vs,rfl | rfl | rfl⟩
   · exact h1
   all_goals rfl
  | aQ e=>
   rcases h1 (.aQ e) with h1 | ⟨u,vs,rfl | rfl | rfl⟩
   · exact h1
   all_goals rfl
 | obj cs=>
  cases V with
  | ptr b off=>
   simp only [cv]
   rw [(h b (by simp [aA,az])).1]
   split
   · rename_i vs hb
     rw [obj cs b vs off rfl hb]
   · rfl
  | _=>rfl
 | opt cs=>
  cases V with
  | ptr b off=>
   simp only [cv]
   rw [(h b (by simp [aA,az])).1]
   split
   · rename_i vs hb
     rw [obj cs b vs off rfl hb]
   · rfl
  | _=>rfl
 | cF cs=>
  cases V with
  | cF b n=>
   simp only [cv]
   rw [(h b (by simp [aA,az])).1]
   split
   · rename_i vs hb
     have :dN S (au ai b (some .dead)) cs (vs.drop 0)=dN S (au bx b (some .dead)) cs (vs.drop 0):=by
      refine AU fun v hv i hi=> ?_
      have :=(h b (by simp [aA,az])).2.1 vs (.inl hb) v (List.mem_of_mem_drop hv) i hi
      by_cases e:i=b
      · rw [e,aR,aR]
      · rw [bg _ _ e,bg _ _ e]; exact this
     rw [this]
   · rfl
  | _=>rfl
 | b_ t cs=>
  cases V with
  | split b c=>
   simp only [cv]
   have hc:jd S bx ai (.ptr c 0):=fun i hi=>h i (by simp [aA,az] at hi ⊢; exact .inr hi)
   have hb:jd S bx ai (.ptr b 0):=fun i hi=>h i (by simp [aA,az] at hi ⊢; exact .inl hi)
   rw [Kr hc]
   cases hy:f_ S bx [.data t] c with
   | none=>rfl
   | some y=>
    simp only [Option.bind_some]
    rw [Kr (hb.av (DF.f_ (us:=y.2) (x:=y.1) hy))]
  | _=>rfl
 | nil=>rfl
 | err=>rfl
 | aX=>
  cases V with
  | ptr b off=>
   simp only [cv]
   rw [(h b (by simp [aA,az])).1]
   split
   · rename_i j hb
     rw [(h b (by simp [aA,az])).2.2 j hb]
   · rfl
  | _=>rfl
 | ro t=>
  cases V with
  | ptr b off=>
   simp only [cv]
   have :=Np (t:=t) (v:= .ptr b off) fun i hi=>⟨(h i hi).1,(h i hi).2.1⟩
   rw [this]
  | _=>rfl
 | fn A R=>simp only [cv]; rw [OB h]
theorem Kn {fs:List (gA S)} : ∀ {ks:List K} {bx ai:Bx S.C} {Vs:List (Sy.V S.C)},(∀ V ∈ Vs,jd S bx ai V)→eg S fs ai ks Vs=eg S fs bx ks Vs
 | [],_,_,[],_=>rfl
 | [],_,_,_::_,_=>rfl
 | k::ks,_,_,[],_=>rfl
 | k::ks,bx,ai,V::Vs,h=>by
  simp only [eg]
  rw [Vl (h V (by simp))]
  cases hk:cv S fs bx k V with
  | none=>rfl
  | some a=>
   simp only [Option.bind_some]
   rw [Kn fun V' O1=>(h V' (by simp [O1])).av (DF.cv (us:=a.2) (x:=a.1) hk)]
theorem cc.length {w:World} {s:St} : ∀ {M:St} {ks:List K} {x:Ks S.C ks} {vs:List Value},cc P S w s M ks x vs→vs.length=ks.length
 | _,[],_,_,h=>by rw [h.2]; rfl
 | _,k::ks,_,_,⟨M1,M2,v,r,h1,h2,h3,h4⟩=>by subst h2; rw [List.length_cons,cc.length h4]; rfl
theorem aC.flat {w:World} {s s':St} {n:Nat} {t:Ty} (hf:yA S t=true) {x:t.den S.C} {cs:List Value} (h:aC S w s n t x cs):aC S w s' n t x cs:=by
 cases n with
 | zero=>exact h.elim
 | succ n=>cases t with
  | int k=>exact h
  | bool=>exact h
  | str=>exact h
  | pt=>exact h
  | sl e=>simp [yA] at hf
  | st u=>
   cases n with
   | zero=>
    have : ∀ (ts:List Ty) (x:aq S.C ts) (cs:List Value),bF S (fun t x cs=>aC S w s 0 t x cs) ts x cs→bF S (fun t x cs=>aC S w s' 0 t x cs) ts x cs:=by
     intro ts x cs h
     exact bF.mono S (fun t x cs h=>h.elim) ts x cs h
    exact this _ _ _ h
   | succ m=>exact (bF.flat S (m:=m) _ _ _ hf h)
theorem lC.flat {w:World} {s s' M:St} {c:CK} (hf:qq S c=true) {x:c.den S.C} {cs:List Value} (h:lC S w s M c x cs):lC S w s' M c x cs:=by
 cases c with
 | data t=>exact ⟨h.1,h.2.imp fun _ hn=>hn.flat hf⟩
 | aZ e=>simp [qq] at hf
 | aQ e=>
  obtain ⟨a,cap,L,h1,h2,h3,h4,h5⟩:=h
  refine ⟨a,cap,L,h1,h2,h3,h4,fun i y hi=> ?_⟩
  obtain ⟨ds,d1,d2,n,d3⟩:=h5 i y hi
  exact ⟨ds,d1,d2,n,d3.flat hf⟩
theorem gS.flat {w:World} {s s':St} : ∀ {M:St} {cs:List CK} {x:bH S.C cs} {vs:List Value},cs.all (qq S)=true→gS S w s M cs x vs→gS S w s' M cs x vs
 | _,[],_,_,_,h=>h
 | _,_::_,_,_,hf,⟨M1,M2,v1,v2,h1,h2,h3,h4,h5⟩=>by
  simp only [List.all_cons,Bool.and_eq_true] at hf
  exact ⟨M1,M2,v1,v2,h1,h2,h3,h4.flat hf.1,gS.flat hf.2 h5⟩
theorem eo.flat {w:World} {s s' M:St} {cs:List CK} (hf:cs.all (qq S)=true) {x:bH S.C cs} {v:Value} (h:eo S w s M cs x v):eo S w s' M cs x v:=by
 obtain ⟨b,o,ds,M',h1,h2,h3,h4,h5⟩:=h
 exact ⟨b,o,ds,M',h1,h2,h3,h4,h5.flat hf⟩
theorem mC.flat {w:World} {s s' M:St} {k:K} (hf:sW S k=true) {x:k.den S.C} {v:Value} (h:mC P S w s M k x v):mC P S w s' M k x v:=by
 cases k with
 | val c=>exact ⟨h.1.flat hf,h.2⟩
 | obj cs=>exact eo.flat hf h
 | aX=>exact h
 | opt cs=>
  cases x with
  | none=>exact h
  | some y=>exact eo.flat hf h
 | nil=>exact h
 | ro t=>simp [sW] at hf
 | fn a r=>simp [sW] at hf
 | b_ t cs=>simp [sW] at hf
 | cF cs=>
  obtain ⟨p,h1,h2⟩:=h
  exact ⟨p,h1,eo.flat hf h2⟩
 | err=>exact h
theorem cc.flat {w:World} {s s':St} : ∀ {M:St} {ks:List K} {x:Ks S.C ks} {vs:List Value},ks.all (sW S)=true→cc P S w s M ks x vs→cc P S w s' M ks x vs
 | _,[],_,_,_,h=>h
 | _,_::_,_,_,hf,⟨M1,M2,v,r,h1,h2,h3,h4⟩=>by
  simp only [List.all_cons,Bool.and_eq_true] at hf
  exact ⟨M1,M2,v,r,h1,h2,h3.flat hf.1,cc.flat hf.2 h4⟩
def ay (P:Program) (S:aS) (e:Entry S):Prop:=jc P e.f∧ ∀ (w:World) (s M:St) (x:Ks S.C e.ps) (args:List Value) (r:Ks S.C (e.rs++outs e.ps)),
 cc P S w s M e.ps x args→(∀ b o,s b o→b<w.heap.size∧ ¬ M b o)→iz S w M→e.sp x=some r→
 Calls P e.f args.toArray w fun en w'=> ∃ us s' M',en= .returned (kN us)∧aY w w' M∧cc P S w' s' M' (e.rs++outs e.ps) r (us++eS e.ps args)∧
  (∀ b o,s' b o→b<w'.heap.size∧ ¬ M' b o∧(s b o∨M b o∨w.heap.size≤b))∧ ∀ b o,M' b o→M b o∨w.heap.size≤b
def oz (P:Program) (S:aS) (w0:World) (M0:St) (e:Entry S):Prop:=jc P e.f∧ ∀ (w:World) (s M:St) (x:Ks S.C e.ps) (args:List Value) (r:Ks S.C (e.rs++outs e.ps)),
 aY w0 w M0→(∀ b o,M b o→w0.heap.size≤b∨M0 b o)→cc P S w s M e.ps x args→(∀ b o,s b o→b<w.heap.size∧ ¬ M b o)→e.sp x=some r→
 Calls P e.f args.toArray w fun en w'=> ∃ us s' M',en= .returned (kN us)∧aY w w' M∧cc P S w' s' M' (e.rs++outs e.ps) r (us++eS e.ps args)∧
  (∀ b o,s' b o→b<w'.heap.size∧ ¬ M' b o∧(s b o∨M b o∨w.heap.size≤b))∧ ∀ b o,M' b o→M b o∨w.heap.size≤b
theorem ay.at {w0:World} {M0:St} {e:Entry S} (h:ay P S e) (hG:iz S w0 M0):oz P S w0 M0 e:=
 ⟨h.1,fun w s M x args r hc hM hx hs hr=>h.2 w s M x args r hx hs ⟨fun g hg=>by
  obtain ⟨g1,g2,v,g3,g4⟩:=hG.1 g hg
  refine ⟨Nat.lt_of_lt_of_le g1 hc.size,fun hm=> ?_,v,(hc.cell g.1.1 g.1.2 g1 g2).trans g3,g4⟩
  rcases hM _ _ hm with h1 | h1
  · exact absurd g1 (Nat.not_lt.2 h1)
  · exact g2 h1,fun g hg=>by
  obtain ⟨g1,g2,v,g3,g4⟩:=hG.2 g hg
  refine ⟨Nat.lt_of_lt_of_le g1 hc.size,fun o hm=> ?_,v,(hc.same g.1 g1 g2).trans g3,g4⟩
  rcases hM _ _ hm with h1 | h1
  · exact absurd g1 (Nat.not_lt.2 h1)
  · exact g2 o h1⟩ hr⟩
end
end Go.Sy
namespace Go.Sy
section
variable {P:Program} {S:aS} {ak:Nat→Nat}
variable {w0:World} {M0 s0:St} {dq:List Deferred} {env:Env S.C} {a:Act} {w:World} {μ:Nat→Loc} {K:Act→World→Prop} {Q:Exit→Act→World→Prop} {o:Oper} {V:V S.C} {us:aI S.C}
theorem E0 {s:St} {bx:Bx S.C} {vs:List (Sy.V S.C)} {us:List Value} (h:aH P S w s μ bx vs us):RV P S w s μ bx (pS S vs) (kN us):=by
 cases vs with
 | nil=>cases h; exact ⟨#[],rfl,rfl⟩
 | cons v vs=>
  obtain ⟨c,r,rfl,h1,h2⟩:=h
  cases vs with
  | nil=>cases h2; exact mE h1
  | cons v' vs=>
   obtain ⟨c',r',rfl,h3,h4⟩:=h2
   exact ⟨_,rfl,c,c'::r',by simp,h1,c',r',rfl,h3,h4⟩
theorem HR {vs:List (Sy.V S.C)} {j:Nat} (h:j ∈ aA S (pS S vs)): ∃ v ∈ vs,j ∈ az S v∨j ∈ aA S v:=by
 cases vs with
 | nil=>simp [pS,aA] at h
 | cons v vs=>
  cases vs with
  | nil=>exact ⟨v,by simp, .inr h⟩
  | cons v' vs=>
   simp only [pS,aA,List.mem_flatMap] at h
   obtain ⟨u,hu,hj⟩:=h
   exact ⟨u,hu, .inl hj⟩
theorem QF {s:St} {bx:Bx S.C} {V:Sy.V S.C} {v:Value} (h:bI P S w s μ bx V v) {j:Nat} (hj:j ∈ aA S V):j ∈ az S V:=by
 cases V <;> first | exact hj | exact (h:False).elim
theorem HQ {s:St} {bx:Bx S.C} : ∀ {vs:List (Sy.V S.C)} {cs:List Value},aH P S w s μ bx vs cs→ ∀ v ∈ vs, ∀ j ∈ aA S v,j ∈ az S v
 | [],_,_,v,hv,_,_=>by simp at hv
 | u::vs,_,⟨c,r,h1,h2,h3⟩,v,hv,j,hj=>by
  rcases List.mem_cons.1 hv with rfl | hv
  · exact QF h2 hj
  · exact HQ h3 v hv j hj
theorem Ed {c:Call} (ho:o.op= .call c) {f:Operand} (hc:c.callee= .value f) {g:Nat} {first cap:Array Value} (hf:a.eval f= .func (.func g) first cap) (hok:jc P g):
 (execOp a.eval o).run P w= .ok (.enter g (first++c.args.map a.eval++cap)) w:=by
 obtain ⟨fn,h1,h2,h3⟩:=hok
 unfold execOp
 simp only [ho]
 have lS: ¬ fn.name= "runtime.NumGoroutine" :=by simpa using h2
 have fO: ¬ fn.body=none:=fun e=>by rw [e] at h3; cases h3
 simp [resolve,hc,hf,Deferred.ofValue,invoke,callFunc,h1,lS,fO]
theorem Dy: ∀ (ps:List Sy.K) (args:List Value),args.length=ps.length→(eS ps args).length=(outs ps).length
 | [],_,_=>by simp [eS,outs]
 | _::_,[],h=>by simp at h
 | k::ps,v::args,h=>by
  have ih:=Dy ps args (by simpa using h)
  cases k <;> simp [eS,outs,ih]
theorem FJ (hP:aV P S ak) {T:gC S} {f:Nat} {args:Array Value} {C:(Ending→World→Prop)→Prop} (hmono: ∀ R R',(∀ en w',R en w'→R' en w')→C R→C R')
 (hT: ∀ e ∈ T.es,e.f=f→ ∀ (s M:St) (x:Ks S.C e.ps) (r:Ks S.C (e.rs++outs e.ps)),(∀ b o,M b o→w0.heap.size≤b∨M0 b o)→cc P S w s M e.ps x args.toList→(∀ b o,s b o→b<w.heap.size∧ ¬ M b o)→e.sp x=some r→
  C fun en w'=> ∃ us s' M',en= .returned (kN us)∧aY w w' M∧cc P S w' s' M' (e.rs++outs e.ps) r (us++eS e.ps args.toList)∧
   (∀ b o,s' b o→b<w'.heap.size∧ ¬ M' b o∧(s b o∨M b o∨w.heap.size≤b))∧ ∀ b o,M' b o→M b o∨w.heap.size≤b)
 (hF: ∀ e ∈ T.fs,fq P S e) (h:Inv P S w0 M0 s0 dq env a w μ) {B:Nat} {fM:Bx S.C}
 {Vs:List (Sy.V S.C)} (hargs:fu P S w (aG S w0 M0 s0 env.bx μ w) μ env.bx Vs args.toList)
 (hkn: ∀ V ∈ Vs,jd S env.bx fM V) (hnew: ∀ u ∈ us,B≤u.1→u.1<B+16→env.bx u.1=none)
 (hl:(oI S T B fM f Vs).leaf (V,us)):
 C fun en w'=> ∃ v μ',en= .returned v∧Inv P S w0 M0 s0 dq { env with bx:=av env.bx us } a w' μ'∧RV P S w' (aG S w0 M0 s0 (av env.bx us) μ' w') μ' (av env.bx us) V v∧ ∀ j ∈ aA S V,av env.bx us j≠none:=by
 unfold oI at hl
 split at hl
 · rename_i e tk hfind
   obtain ⟨e0,kq,hsel⟩:=List.exists_of_findSome?_eq_some hfind
   split at hsel
   · rename_i lW
     obtain ⟨oe,htk,hsel⟩:=Option.bind_eq_some_iff.1 hsel
     cases hsel
     cases hlim:Nat.ble (iH e.rs+iH (outs e.ps)) 16&&(dy S e.ps Vs).all fun b=> !(Nat.ble B b&&Nat.blt b (B+16)) with
     | false=>rw [hlim] at hl; exact hl.elim
     | true=>
      rw [hlim,cond_true] at hl
      rw [Bool.and_eq_true] at hlim
      obtain ⟨hlim,Ph⟩:=hlim
      have hlim:=Nat.le_of_ble_eq_true hlim
      obtain ⟨r,hr,hl⟩:=hl
      rw [Kn hkn] at htk
      obtain ⟨x,dF⟩:=tk
      dsimp only at hr hl
      obtain ⟨k1,M,kr,fr⟩:=xu hP.tocT h hF e.ps (Tk.refl S env.bx) hargs htk
      have Qq: ∀ (ks:List Sy.K) (bx:Bx S.C) (hk:Tk S env.bx bx) (Vs:List (Sy.V S.C)) (args:List Value) (x:Ks S.C ks) (us:aI S.C),fu P S w (aG S w0 M0 s0 env.bx μ w) μ env.bx Vs args→eg S T.fs bx ks Vs=some (x,us)→Tk S bx (av bx us):=
       fun ks bx hk Vs args x us h1 h2=>(xu hP.tocT h hF ks hk h1 h2).1
      obtain ⟨oo,R4,od⟩:=Ko (s:=aG S w0 M0 s0 env.bx μ w) (s':=aG S w0 M0 s0 env.bx μ w) h.cg e.ps (Tk.refl S env.bx) Qq hargs htk
      have hdf:=DF.eg htk
      have HL: ∀ b o,cE S w0 M0 s0 env.bx (av env.bx dF) μ w b o→b<w.heap.size∧ ¬ M b o:=by
       intro b o ⟨q1,q2,q3⟩
       refine ⟨q1,fun hm=> ?_⟩
       obtain ⟨i,i1,_,i3,i4⟩:=fr b o hm
       rcases q3 i i1 with ⟨_,_,hq⟩ | hq
       · rw [i3] at hq; cases hq
       · exact hq i4
      refine hmono _ _ ?_ (hT e kq lW _ M x r (fun b o hm=>by obtain ⟨i,i1,_,_,i4⟩:=fr b o hm; exact h.own i i1 b o i4) kr HL hr)
      rintro en w' ⟨vs,s',M',rfl,hw,hks,hs',oP⟩
      have PF: ∃ s2:St,cc P S w' s2 M' (e.rs++outs e.ps) r (vs++eS e.ps args.toList)∧(∀ b o,s2 b o→s' b o)∧(zh S e=true∨ ∀ b o, ¬ s2 b o):=by
       cases hlk:zh S e with
       | true=>exact ⟨s',hks,fun _ _ h=>h, .inl rfl⟩
       | false=>
        unfold zh at hlk
        simp only [Bool.not_eq_false'] at hlk
        exact ⟨fun _ _=>False,hks.flat hlk,fun _ _ h=>h.elim, .inr fun _ _ h=>h⟩
      obtain ⟨s2,Hr,hs2,hlk⟩:=PF
      obtain ⟨q,M1,M2,us',ws,hq,hv1,hsp,qS,n1,n2,l1,g1,r1,n9⟩:=Iy hP.tocT e.rs B Hr hl
      obtain ⟨rfl,rfl⟩:=bE hq
      have hlen:=cc.length Hr
      have hlo:=cc.length qS
      have hla:args.toList.length=e.ps.length:=cc.length kr
      have hol:=Dy e.ps args.toList hla
      have hsame:vs=us'∧eS e.ps args.toList=ws:=by
       refine List.append_inj hv1 ?_
       have :=congrArg List.length hv1
       simp only [List.length_append] at this
       omega
      obtain ⟨rfl,rfl⟩:=hsame
      have Cu: ∀ b ∈ dy S e.ps Vs, ∀ i,B≤i→i<B+16→i≠b:=by
       rintro b hb i h1 h2 rfl
       have :=List.all_eq_true.1 Ph i hb
       rw [show Nat.ble B i=true from Nat.ble_eq_true_of_le h1,show Nat.blt i (B+16)=true from Nat.ble_eq_true_of_le h2] at this
       cases this
      obtain ⟨l2,g2,Hq⟩:=l7 (P:=P) hP.tocT e.ps q.2.2 (oo.later fun b o hs=>have hq:=HL b o (ng S w0 M0 s0 env.bx (av env.bx dF) μ w b o hs).1; hw.cell b o hq.1 hq.2) R4 (fun b hb i h1 h2=>Cu b hb i (by omega) (by omega)) qS
      obtain ⟨g,hag⟩:=cn.both g1 g2 (fun i h1 h2=>by
       rcases h2 with h2 | h2
       · exact Cu i h2 i (by omega) (by omega) rfl
       · omega) hsp
      have Ct:cn P S w' s2 (fun i=> ∃ u ∈ (q.2.1++e9 S q.2.2 e.ps Vs (j5 S e.rs (outs e.ps) r).2),u.1=i) (q.2.1++e9 S q.2.2 e.ps Vs (j5 S e.rs (outs e.ps) r).2) _ M':=
       ⟨fun u hu=>⟨u,hu,rfl⟩,g.one,g.rb,g.lv,g.aF,g.dr,g.ref⟩
      obtain ⟨μ',hI,gk,G1⟩:=h.call (Co:=dy S e.ps Vs) hdf k1 fr hw (fun b o hs=>hs' b o (hs2 b o hs)) oP Ct (fun i hi=>by
       obtain ⟨u,hu,rfl⟩:=hi
       rcases g.fJ u hu with h1 | h1 | h1
       · exact .inr (hnew u (List.mem_append.2 (.inr hu)) h1.1 (by omega))
       · exact .inl h1
       · exact .inr (hnew u (List.mem_append.2 (.inr hu)) (by omega) (by omega)))
       (fun b hb=>⟨(od b hb).1,by
        unfold both
        rw [if_neg]
        · exact (Hq b hb).1
        · intro hm
          obtain ⟨u,hu,he⟩:=List.mem_map.1 hm
          have :=g1.fJ u hu
          rw [he] at this
          exact Cu b hb b this.1 (by omega) rfl,by
        obtain ⟨vs,hh,hvs⟩:=(Hq b hb).2
        exact ⟨vs,hh,List.mem_append.2 (.inr hvs)⟩⟩) hlk
      have cV:=(n9 _ _ (hag _ _ G1).1).mono gk
      refine ⟨_,μ',rfl,hI,E0 cV,fun j hj=> ?_⟩
      obtain ⟨v,hv,hj⟩:=HR hj
      obtain ⟨u,hu,he⟩:=r1 v hv j (hj.elim id fun hj=>HQ cV v hv j hj)
      have :=(G1 u (List.mem_append.2 (.inl hu))).1
      rw [he] at this
      rw [this]
      simp
   · cases hsel
 · exact hl.elim
theorem Nn (hP:aV P S ak) {T:gC S} (hT: ∀ e ∈ T.es,oz P S w0 M0 e) (hF: ∀ e ∈ T.fs,fq P S e) (h:Inv P S w0 M0 s0 dq env a w μ) (hd: ∀ d,o.dst=some d→d<a.tmps.size) {B:Nat} {ids:List Nat}
 {Vs:List (Sy.V S.C)} {args:Array Value} {f:Nat} (hrun:jc P f→(execOp a.eval o).run P w= .ok (.enter f args) w) (hargs:fu P S w (aG S w0 M0 s0 env.bx μ w) μ env.bx Vs args.toList)
 (hkn: ∀ V ∈ Vs,jd S env.bx (restrict S env.bx ids) V) (hnew: ∀ u ∈ us,B≤u.1→u.1<B+16→env.bx u.1=none)
 (hl:(oI S T B (restrict S env.bx ids) f Vs).leaf (V,us)) (hK:Goal P S w0 M0 s0 dq env a o.dst V us K):o.wp P a w K Q:=by
 have hok:jc P f:=by
  unfold oI at hl
  split at hl
  · rename_i e tk hfind
    obtain ⟨e0,kq,hsel⟩:=List.exists_of_findSome?_eq_some hfind
    split at hsel
    · rename_i lW
      rw [← lW]; exact (hT e0 kq).1
    · cases hsel
  · exact hl.elim
 unfold Oper.wp
 rw [hrun hok]
 refine Calls.mono (FJ (dq:=dq) hP (C:=fun R=>Calls P f args w R) (fun R R' hR hc=>Calls.mono hc hR) (fun e he lW s M x r hM hx hs hr=> ?_) hF h hargs hkn hnew hl) ?_
 · have hc:=(hT e he).2 w s M x args.toList r h.gY hM hx hs hr
   rw [lW,show args.toList.toArray=args from by simp] at hc
   exact hc
 · rintro en w' ⟨v,μ',rfl,hI,cV,fQ⟩
   refine hK _ w' μ' (hI.put hd cV fQ) ?_
   cases o.dst <;> simp [Act.put]
end
end Go.Sy
namespace Go.Sy
section
variable {P:Program} {S:aS} {ak:Nat→Nat}
variable {w0:World} {M0 s0:St} {dq:List Deferred} {env:Env S.C} {a:Act} {w:World} {μ:Nat→Loc} {K:Act→World→Prop} {Q:Exit→Act→World→Prop} {o:Oper} {V:V S.C} {us:aI S.C}
theorem Inv.world (h:Inv P S w0 M0 s0 dq env a w μ) {w':World} (hw:aY w w' (fun _ _=>False)):
 Inv P S w0 M0 s0 dq env a w' μ∧bY w' (grown (aG S w0 M0 s0 env.bx μ w) w w') w' (aG S w0 M0 s0 env.bx μ w'):=by
 have vL:=h.later (T:=fun _ _=>False) (U:=fun _=>False) (ai:=env.bx) (μ':=μ) hw (fun _ _ h=>h.elim) (fun _ _=>⟨rfl,rfl⟩) (fun _ h=>h.elim)
 refine ⟨h.step (T:=fun _ _=>False) (U:=fun _=>False) hw (fun _ _ h=>h.elim) (fun _ _=>⟨rfl,rfl⟩) (fun _ h=>h.elim) (fun i B0 hi=>⟨B0,hi,cM.refl S _ _⟩) (fun _ _ h=>h.elim) (fun _ _ h=>h.elim) (fun _ _ h=>h.elim), ?_⟩
 rintro b o (hs | ⟨h1,h2⟩)
 · exact ⟨(vL b o hs).1,rfl⟩
 · exact ⟨⟨h2, .inr (.inr (Nat.le_trans h.gY.size h1)),fun i li hf=>absurd (lZ P S (h.cg i) li hf).1 (by omega)⟩,rfl⟩
theorem FU {bx ai:Bx S.C} : ∀ {ts:List Ty} {Vs:List (Sy.V S.C)},(∀ V ∈ Vs, ∀ i ∈ aA S V,ai i=bx i)→kf S ai ts Vs=kf S bx ts Vs
 | [],[],_=>rfl
 | [],_::_,_=>rfl
 | _::_,[],_=>rfl
 | t::ts,V::Vs,h=>by
  obtain ⟨h1,h2⟩:=vg (t:=t) (h V (by simp))
  simp only [kf,h1,h2]
  rw [FU fun V hV=>h V (by simp [hV])]
theorem BC {bx:Bx S.C} : ∀ {ts:List Ty} {Vs:List (Sy.V S.C)} {x:aq S.C ts} {us:aI S.C},kf S bx ts Vs=some (x,us)→cS bx us
 | [],[],_,_,h=>by cases h; intro u hu; simp at hu
 | [],_::_,_,_,h=>by cases h
 | _::_,[],_,_,h=>by cases h
 | t::ts,V::Vs,x,us,h=>by
  simp only [kf] at h
  obtain ⟨y,hy,h⟩:=Option.bind_eq_some_iff.1 h
  obtain ⟨⟨z,u2⟩,hz,h⟩:=Option.bind_eq_some_iff.1 h
  cases h
  exact (cS.dh bx V).append (BC hz)
theorem BD (hS:cT S) (h:Inv P S w0 M0 s0 dq env a w μ) {US:aI S.C} (hU:cS env.bx US): ∀ {ts:List Ty} {Vs:List (Sy.V S.C)} {args:List Value} {x:aq S.C ts} {us:aI S.C},
 fu P S w (aG S w0 M0 s0 env.bx μ w) μ env.bx Vs args→kf S env.bx ts Vs=some (x,us)→(∀ u ∈ us,u ∈ US)→fK S w (cE S w0 M0 s0 env.bx (av env.bx US) μ w) ts x args
 | [],[],_,_,_,hv,h,_=>hv
 | [],_::_,_,_,_,_,h,_=>by cases h
 | _::_,[],_,_,_,_,h,_=>by cases h
 | t::ts,V::Vs,args,x,us,⟨v,r,hargs,h1,h2⟩,hx,hs=>by
  simp only [kf] at hx
  obtain ⟨y,hy,hx⟩:=Option.bind_eq_some_iff.1 hx
  obtain ⟨⟨z,u2⟩,hz,hx⟩:=Option.bind_eq_some_iff.1 hx
  cases hx
  obtain ⟨_,d2⟩:=yd hS h (Tk.refl S env.bx) h1 hy
  refine ⟨v,r,hargs, ?_, ?_⟩
  · rw [show aq.head (aq.cons y z)=y from by cases ts <;> rfl]
    exact d2.mono S (uB S (hU.tk (us:=dh S env.bx V) fun u hu=>hs u (by simp [hu])))
  · rw [show aq.tail (aq.cons y z)=z from by cases ts <;> rfl]
    exact BD hS h hU h2 hz fun u hu=>hs u (by simp [hu])
theorem KG {s:St} {bx:Bx S.C} : ∀ {ts:List Ty} {x:aq S.C ts} {us:List Value},fK S w s ts x us→aH P S w s μ bx (rZ S ts x) us∧ ∀ v ∈ rZ S ts x,aA S v= []∧az S v= []
 | [],_,_,h=>⟨h,by simp [rZ]⟩
 | t::ts,x,us,⟨v,r,h1,h2,h3⟩=>by
  obtain ⟨h4,h5⟩:=KG (bx:=bx) h3
  refine ⟨⟨v,r,h1,h2,h4⟩,fun u hu=> ?_⟩
  rcases List.mem_cons.1 hu with rfl | hu
  · exact ⟨rfl,rfl⟩
  · exact h5 u hu
theorem KX (hP:aV P S ak) (h:Inv P S w0 M0 s0 dq env a w μ) (hd: ∀ d,o.dst=some d→d<a.tmps.size) {f:Nat} {args:Array Value} {us:aI S.C} (hfz:cS env.bx us) {r:List Ty} {y:aq S.C r}
 (hrun:(execOp a.eval o).run P w= .ok (.enter f args) w)
 (hc:Calls P f args w fun e w'=> ∃ us',e= .returned (kN us')∧aY w w' (fun _ _=>False)∧fK S w' (grown (aG S w0 M0 s0 (av env.bx us) μ w) w w') r y us')
 (hK:Goal P S w0 M0 s0 dq env a o.dst (pS S (rZ S r y)) us K):o.wp P a w K Q:=by
 have h1:=h.tk hfz.oe
 unfold Oper.wp
 rw [hrun]
 refine Calls.mono hc ?_
 rintro en w' ⟨vs,rfl,hw,gi⟩
 obtain ⟨h2,hl⟩:=h1.world hw
 obtain ⟨h3,h4⟩:=KG (P:=P) (μ:=μ) (bx:=av env.bx us) (gi.mono S hl)
 refine hK _ w' μ (h2.put hd (E0 h3) fun j hj=> ?_) ?_
 · obtain ⟨v,hv,hj⟩:=HR hj
   obtain ⟨e1,e2⟩:=h4 v hv
   rw [e1,e2] at hj
   simp at hj
 · cases o.dst <;> simp [Act.put]
theorem No (hP:aV P S ak) {T:gC S} (hT: ∀ e ∈ T.es,oz P S w0 M0 e) (hF: ∀ e ∈ T.fs,fq P S e) (h:Inv P S w0 M0 s0 dq env a w μ) (hd: ∀ d,o.dst=some d→d<a.tmps.size) {B:Nat} {ids:List Nat}
 {c:Call} (ho:o.op= .call c) {f:Operand} (hc:c.callee= .value f) {Vs:List (Sy.V S.C)} {Vf:Sy.V S.C} (hargs:c.args.toList.mapM (aO S env.tm)=some Vs) (hf:aO S env.tm f=some Vf)
 (hkn: ∀ V ∈ Vs,jd S env.bx (restrict S env.bx ids) V) (PV:jd S env.bx (restrict S env.bx ids) Vf) (hnew: ∀ u ∈ us,B≤u.1→u.1<B+16→env.bx u.1=none)
 (hl:(vc S T B (restrict S env.bx ids) Vs Vf).leaf (V,us)) (hK:Goal P S w0 M0 s0 dq env a o.dst V us K):o.wp P a w K Q:=by
 obtain ⟨hvs,_⟩:=xW h hargs
 obtain ⟨y5,_⟩:=bB h hf
 have s9: ∀ {ts:List Ty} {x:aq S.C ts} {us:aI S.C},kf S (restrict S env.bx ids) ts Vs=some (x,us)→kf S env.bx ts Vs=some (x,us):=fun hx=>by
  rw [FU (bx:=env.bx) fun V hV i hi=>(hkn V hV i hi).1] at hx; exact hx
 cases Vf with
 | fv A R g=>
  simp only [vc] at hl
  split at hl
  · rename_i x us' hx
    obtain ⟨y,hy,hl⟩:=hl
    obtain ⟨rfl,rfl⟩:=bE hl
    have hx:=s9 hx
    have hfz:=BC hx
    have gi:=(BD hP.tocT h hfz hvs hx fun u hu=>hu).mono S (AT hfz.oe)
    have y5:mB P S w (aG S w0 M0 s0 env.bx μ w) A R g (a.eval f):=y5
    obtain ⟨g',first,cap,he,hok,qN⟩:=y5
    have :=qN w _ (Kj hfz.oe) (h.qv.at h.gY fun _ _ h=>h.elim) x _ y gi hy
    refine KX hP h hd hfz (Ed ho hc he hok) ?_ hK
    rw [show (c.args.toList.map a.eval).toArray=c.args.map a.eval from by rw [← Array.toList_map,Array.toArray_toList]] at this
    exact this
  · exact hl.elim
 | fC g vs=>
  obtain ⟨cs,he,hcs⟩:=y5
  cases vs with
  | nil=>
   simp only [vc] at hl
   have Cn:cs= #[]:=by have h0:cs.toList= []:=hcs; exact Array.toList_eq_nil_iff.1 h0
   subst Cn
   refine Nn hP hT hF h hd (args:=c.args.map a.eval) (fun hok=> ?_) (by simpa using hvs) hkn hnew hl hK
   have :=Ed (w:=w) ho hc he hok
   simpa using this
  | cons v vs=>
   simp only [vc] at hl
   split at hl
   · rename_i e hfind
     split at hl
     · rename_i y x us' hy hx
       obtain ⟨z,hz,hl⟩:=hl
       obtain ⟨rfl,rfl⟩:=bE hl
       have hx:=s9 hx
       have hfz:=BC hx
       have gi:=(BD hP.tocT h hfz hvs hx fun u hu=>hu).mono S (AT hfz.oe)
       have hmem:=List.mem_of_find?_eq_some hfind
       have lW:e.f=g:=by simpa using List.find?_some hfind
       obtain ⟨hok,qN⟩:=hF e hmem
       rw [lW] at hok qN
       have hy:caps S env.bx e.c (v::vs)=some y:=by
        rw [← Bv (bx:=env.bx) (ai:=restrict S env.bx ids) fun u hu i hi=>have q:=PV i (by simp only [aA,List.mem_flatMap]; exact ⟨u,hu,hi⟩); ⟨q.1,q.2.1⟩]
        exact hy
       have hcap:=Bw hP.tocT h (Tk.refl S env.bx) e.c hcs hy
       have hcap2:gz S w (aG S w0 M0 s0 (av env.bx us) μ w) e.c y cs.toList:=by
        refine gz.mono ?_ _ _ _ hcap
        exact (uB S hfz.oe).trans (AT hfz.oe)
       refine KX hP h hd hfz (Ed ho hc he hok) ?_ hK
       have :=qN w _ x y z (c.args.toList.map a.eval) cs.toList (h.qv.at h.gY fun _ _ h=>h.elim) gi hcap2 hz
       rw [show (c.args.toList.map a.eval++cs.toList).toArray= #[]++c.args.map a.eval++cs from by simp] at this
       exact this
     · exact hl.elim
   · exact hl.elim
 | _=>exact hl.elim
theorem B7 {bx fM:Bx S.C} : ∀ (vs:List (Sy.V S.C)) (u:Nat×dP S.C),u ∈ lQ S fM vs→(∀ i B,fM i=some B→bx i=some B)→ ∃ ws,u.2= .bW ws∧bx u.1=some (.cells ws)
 | [],u,hu,_=>by simp [lQ] at hu
 | v::vs,u,hu,h=>by
  cases v with
  | ptr b off=>
   simp only [lQ,List.mem_append] at hu
   rcases hu with hu | hu
   · split at hu
     · rename_i ws hb
       simp at hu
       subst hu
       exact ⟨ws,rfl,h _ _ hb⟩
     · simp at hu
   · exact B7 vs u hu h
  | _=>exact B7 vs u hu h
theorem Gs {bx:Bx S.C} {i:Nat} : ∀ {us:aI S.C} (ai:Bx S.C),(∀ u ∈ us, ∃ ws,u.2= .bW ws∧bx u.1=some (.cells ws))→av ai us i=ai i∨ ∃ ws,bx i=some (.cells ws)∧av ai us i=some (.bW ws)
 | [],_,_=> .inl rfl
 | u::us,ai,h=>by
  rcases Gs (us:=us) (au ai u.1 (some u.2)) (fun v hv=>h v (by simp [hv])) with h1 | h1
  · by_cases e:i=u.1
    · right
      obtain ⟨ws,h2,h3⟩:=h u (by simp)
      refine ⟨ws,e▸h3, ?_⟩
      show av (au ai u.1 (some u.2)) us i=_
      rw [h1,e,aR,h2]
    · left
      show av (au ai u.1 (some u.2)) us i=_
      rw [h1,bg _ _ e]
  · exact .inr h1
theorem Inv.yC (h:Inv P S w0 M0 s0 dq env a w μ) {ai:Bx S.C} (hk: ∀ i,ai i=env.bx i∨ ∃ ws,env.bx i=some (.cells ws)∧ai i=some (.bW ws)):Inv P S w0 M0 s0 dq { env with bx:=ai } a w μ:=by
 have hlv: ∀ i,live S ai i→ai i=env.bx i:=fun i hi=>by
  rcases hk i with e | ⟨ws,_,e⟩
  · exact e
  · unfold live at hi; rw [e] at hi; exact hi.elim
 have hf: ∀ i, ¬ ai i=env.bx i→live S ai i→False:=fun i hi hl=>hi (hlv i hl)
 have hl:bY w (aG S w0 M0 s0 env.bx μ w) w (aG S w0 M0 s0 ai μ w):=h.later (T:=fun _ _=>False) (U:=fun i=> ¬ ai i=env.bx i) (aY.refl w _) (fun _ _ h=>h.elim) (fun i hi=>⟨Classical.not_not.1 hi,rfl⟩) (fun i hi hl=>(hf i hi hl).elim)
 have hc: ∀ i B0,env.bx i=some B0→ ∃ B,ai i=some B∧cM S (μ i) (μ i) B0 B:=fun i B0 bS=>by
  rcases hk i with e | ⟨ws,e1,e2⟩
  · exact ⟨B0,e.trans bS,cM.refl S _ _⟩
  · rw [bS] at e1; cases e1
    exact ⟨_,e2,rfl⟩
 refine h.step (T:=fun _ _=>False) (U:=fun i=> ¬ ai i=env.bx i) (aY.refl w _) (fun _ _ h=>h.elim) (fun i hi=>⟨Classical.not_not.1 hi,rfl⟩)
  (fun i hi hl=>(hf i hi hl).elim) hc (fun i _ hi _ _ hl=>(hf i hi hl).elim) (fun i B hi hB=> ?_) (fun i vs hi hvs v hv j hj=> ?_)
 · rcases hk i with e | ⟨ws,e1,e2⟩
   · exact absurd e hi
   · rw [e2] at hB
     cases hB
     obtain ⟨g1,g2,g3,cs,g4,g5⟩:=h.cg i _ e1
     have cj:live S env.bx i:=by unfold live; rw [e1]; trivial
     have hlen:=aH.length P S g5
     refine ⟨g1,cs,fun j u hj=>⟨g4 j u hj, ?_⟩,aH.step P S hl hc (h.kL i ws (.inl e1)) g5⟩
     have hj':=(List.getElem?_eq_some_iff.1 hj).1
     have hO:(μ i).aF (μ i).b ((μ i).o+j):=⟨rfl,by omega,by omega⟩
     refine ⟨(lZ P S (h.cg i) cj hO).1,(h.own i cj _ _ hO).elim (fun h=> .inr (.inr h)) (fun h=> .inr (.inl h)),fun q hq td=> ?_⟩
     refine h.dr q i (fun e=> ?_) ((eA S (hlv q hq)).1 hq) cj _ _ td hO
     subst e
     unfold live at hq; rw [e2] at hq; exact hq
 · rcases hk i with e | ⟨ws,e1,e2⟩
   · exact absurd e hi
   · rw [e2] at hvs
     rcases hvs with hvs | hvs
     · cases hvs
     · cases hvs
       have :=h.kL i _ (.inl e1) v hv j hj
       obtain ⟨B0,bS⟩:=Option.ne_none_iff_exists'.1 this
       obtain ⟨B',gF,_⟩:=hc j B0 bS
       rw [gF]; simp
theorem EY {s:St} {bx:Bx S.C} : ∀ {vs:List (Sy.V S.C)} {cs:List Value},vs.all (bU S)=true→fu P S w s μ bx vs cs→aH P S w s μ bx vs cs
 | [],_,_,h=>h
 | v::vs,_,hs,⟨c,r,h1,h2,h3⟩=>by
  simp only [List.all_cons,Bool.and_eq_true] at hs
  refine ⟨c,r,h1, ?_,EY hs.2 h3⟩
  cases v <;> first | exact h2 | simp [bU] at hs
theorem RL (h:Inv P S w0 M0 s0 dq env a w μ) (hd: ∀ d,o.dst=some d→d<a.tmps.size) {f:Nat} {cs:Array Operand} {ids:List Nat} (ho:o.op= .makeFunc (.func f) #[] cs)
 (hl:(match cs.toList.mapM (aO S env.tm) with
  | some vs=>cond (vs.all (bU S)) (aB S (.fC f vs) (lQ S (restrict S env.bx ids) vs)) .fail
  | none=> .fail).leaf (V,us)) (hK:Goal P S w0 M0 s0 dq env a o.dst V us K):o.wp P a w K Q:=by
 split at hl
 · rename_i vs hvs
   cases hs:vs.all (bU S) with
   | false=>rw [hs] at hl; exact hl.elim
   | true=>
    rw [hs,cond_true] at hl
    obtain ⟨rfl,rfl⟩:=bE hl
    obtain ⟨h1,h2⟩:=xW h hvs
    have h3:=EY hs h1
    have hall: ∀ i,av env.bx (lQ S (restrict S env.bx ids) vs) i=env.bx i∨ ∃ ws,env.bx i=some (.cells ws)∧av env.bx (lQ S (restrict S env.bx ids) vs) i=some (.bW ws):=fun i=>
     Gs env.bx fun u hu=>B7 vs u hu fun i B hB=>eU hB
    have hI:=h.yC hall
    have hc: ∀ i B0,env.bx i=some B0→ ∃ B,av env.bx (lQ S (restrict S env.bx ids) vs) i=some B∧cM S (μ i) (μ i) B0 B:=fun i B0 bS=>by
     rcases hall i with e | ⟨ws,e1,e2⟩
     · exact ⟨B0,e.trans bS,cM.refl S _ _⟩
     · rw [bS] at e1; cases e1
       exact ⟨_,e2,rfl⟩
    have vL:bY w (aG S w0 M0 s0 env.bx μ w) w (aG S w0 M0 s0 (av env.bx (lQ S (restrict S env.bx ids) vs)) μ w):=fun b o ⟨q1,q2,q3⟩=>⟨⟨q1,q2,fun i hi=>q3 i (by
     rcases hall i with e | ⟨ws,_,e⟩
     · exact (eA S e).1 hi
     · unfold live at hi; rw [e] at hi; exact hi.elim)⟩,rfl⟩
    have fQ: ∀ v ∈ vs, ∀ j ∈ az S v,env.bx j≠none:=fun v hv j hj=>by
     obtain ⟨x,hx,he⟩:=h2 v hv
     refine (bB h he).2 j ?_
     cases v <;> first | exact hj | simp [az] at hj
    unfold Oper.wp
    have hrun:(execOp a.eval o).run P w= .ok (.value (.func (.func f) #[] (cs.map a.eval))) w:=by
     unfold execOp
     simp only [ho]
     simp [Instr.makeFunc]
    rw [hrun]
    refine hK _ w μ (hI.put hd (V:= .fC f vs) ⟨_,rfl, ?_⟩ fun j hj=> ?_) ?_
    · have :=aH.step P S vL hc fQ h3
      simpa using this
    · simp only [aA,List.mem_flatMap] at hj
      obtain ⟨v,hv,hj⟩:=hj
      obtain ⟨B0,bS⟩:=Option.ne_none_iff_exists'.1 (fQ v hv j hj)
      obtain ⟨B',gF,_⟩:=hc j B0 bS
      dsimp only
      rw [gF]; simp
    · cases o.dst <;> simp [Act.put]
 · exact hl.elim
theorem RO (h:Inv P S w0 M0 s0 dq env a w μ) (hd: ∀ d,o.dst=some d→d<a.tmps.size) {c:Call} (ho:o.op= .call c) {b:Builtin} (hc:c.callee= .builtin b) {args:List (Sy.V S.C)}
 (hargs:c.args.toList.mapM (aO S env.tm)=some args)
 (hl:(match args with
  | [v,w]=>match v.int?,w.int? with
   | some (k,x),some (k',y)=>if k=k' then match b with
    | .min=>aB S (.d (.int k) (Min.min (α:=Int) x y)) []
    | .max=>aB S (.d (.int k) (Max.max (α:=Int) x y)) []
    | _=>Tr.fail else Tr.fail
   | _,_=>Tr.fail
  | _=>Tr.fail).leaf (V,us)) (hK:Goal P S w0 M0 s0 dq env a o.dst V us K):o.wp P a w K Q:=by
 split at hl
 · rename_i v u
   obtain ⟨xs,xx,hxs,nJ,hex⟩:=Fq hargs
   have har:c.args= #[xs,xx]:=by
    have :c.args=c.args.toList.toArray:=by simp
    rw [this,hxs]
   split at hl
   · rename_i k x k' y hv hu
     split at hl
     · rename_i hkk
       subst hkk
       have e1:=jr (bB h nJ).1 hv
       have e2:=jr (bB h hex).1 hu
       split at hl
       · obtain ⟨rfl,rfl⟩:=bE hl
         refine wp_pure (V:= .d (.int k) (Min.min (α:=Int) x y)) h (v:= .int k (Min.min x y)) ?_ hd (iI ..) (by simp [aA,az]) hK
         unfold execOp
         simp only [ho]
         simp [resolve,hc,har,e1,e2,invoke,builtin,Builtin.min_,Builtin.min2]
         split <;> first | omega | (simp; omega)
       · obtain ⟨rfl,rfl⟩:=bE hl
         refine wp_pure (V:= .d (.int k) (Max.max (α:=Int) x y)) h (v:= .int k (Max.max x y)) ?_ hd (iI ..) (by simp [aA,az]) hK
         unfold execOp
         simp only [ho]
         simp [resolve,hc,har,e1,e2,invoke,builtin,Builtin.max_,Builtin.max2]
         split <;> first | omega | (simp; omega)
       · exact hl.elim
     · exact hl.elim
   · exact hl.elim
 · exact hl.elim
end
end Go.Sy
namespace Go.Sy
section
variable {P:Program} {S:aS} {ak:Nat→Nat}
variable {w0:World} {M0 s0:St} {dq:List Deferred} {env:Env S.C} {a:Act} {w:World} {μ:Nat→Loc} {K:Act→World→Prop} {Q:Exit→Act→World→Prop} {o:Oper} {V:V S.C} {us:aI S.C}
theorem Fu {s:St} {bx:Bx S.C} {e:Ty} (he:bq e=false) {V:Sy.V S.C} {v:Value} {x:e.den S.C} (hv:bI P S w s μ bx V v) (hx:cU S (fun _=>none) e V=some x): ∃ n,aC S w s n e x [v]:=by
 have hd: ∀ (u:Ty) (y:u.den S.C),cA S w s u y v→eF S u e y=some x→ ∃ n,aC S w s n e x [v]:=by
  intro u y hr hc
  obtain ⟨rfl,rfl⟩:=ew hc
  obtain ⟨h1,n,hn⟩:=hr
  rw [aC.lK h1 he] at hn
  exact ⟨n,hn⟩
 cases V with
 | d u y=>exact hd u y hv hx
 | pr p i=>
  obtain ⟨rfl,rfl⟩:=ew hx
  cases hv
  exact ⟨1,rfl⟩
 | aZ b e l=>exact hd (.sl e) l hv.1 hx
 | cI=>
  cases e with
  | sl e=>
   cases hx
   cases hv
   exact ⟨1,none,0,rfl,Nat.le_refl _, .inl rfl⟩
  | _=>cases hx
 | _=>cases hx
theorem KC {s:St} {bx:Bx S.C} : ∀ (ts:List Ty) (hts:ts.all (fun t=> !bq t)=true) {vs:List (Sy.V S.C)} {cs:List Value} {x:aq S.C ts},aH P S w s μ bx vs cs→gR S (fun _=>none) ts vs=some x→ ∃ n,bF S (fun t x cs=>aC S w s n t x cs) ts x (cs.take ts.length)
 | [],_,_,cs,_,_,_=>⟨0,by simp [bF]⟩
 | t::ts,hts,[],_,_,_,hx=>by simp [gR] at hx
 | t::ts,hts,V::vs,cs,x,⟨c,r,hcs,hv,hr⟩,hx=>by
  simp only [List.all_cons,Bool.and_eq_true,Bool.not_eq_true'] at hts
  simp only [gR] at hx
  obtain ⟨y,hy,hx⟩:=Option.bind_eq_some_iff.1 hx
  obtain ⟨z,hz,hx⟩:=Option.bind_eq_some_iff.1 hx
  cases hx
  obtain ⟨n,hn⟩:=Fu hts.1 hv hy
  obtain ⟨m,hm⟩:=KC ts hts.2 hr hz
  refine ⟨max n m,c,r.take ts.length,by simp [hcs], ?_, ?_⟩
  · rw [show aq.head (aq.cons y z)=y from by cases ts <;> rfl]
    exact hn.up S (by omega)
  · rw [show aq.tail (aq.cons y z)=z from by cases ts <;> rfl]
    exact bF.mono S (fun t x cs hr=>hr.up S (by omega)) _ _ _ hm
theorem FV (hP:aV P S ak) {s:St} {bx:Bx S.C} {u:Nat} {V:Sy.V S.C} {v:Value} {x:S.C u} (hv:RV P S w s μ bx V v) (hx:datum S (fun _=>none) (.st u) V=some x): ∃ cs n,v= .agg cs∧bF S (fun t x cs=>aC S w s n t x cs) (S.F u) (S.ex u x) cs.toList:=by
 cases V with
 | agg u' vs=>
  simp only [datum] at hx
  split at hx
  · rename_i hu
    obtain ⟨cs,g1,g2,g3,g4⟩:=hv
    simp only [h_] at hx
    obtain ⟨y,hy,hx⟩:=Option.bind_eq_some_iff.1 hx
    cases hx
    obtain ⟨n,hn⟩:=KC (S.F u) (hP.flat u) g4 hy
    have hlen:=aH.length P S g4
    rw [List.take_of_length_le (by rw [hlen,g2,hu]; exact Nat.le_refl _)] at hn
    refine ⟨cs,n,g1, ?_⟩
    rw [hP.sQ]
    exact hn
  · cases hx
 | d t y=>
  simp only [datum] at hx
  obtain ⟨rfl,h2⟩:=ew hx
  cases h2
  obtain ⟨ha,n,hr⟩:=hv
  have : ∃ cs,v= .agg cs:=by
   cases v <;> first | exact ⟨_,rfl⟩ | (simp [Go.Sy.isAgg,bq] at ha)
  obtain ⟨cs,rfl⟩:=this
  cases n with
  | zero=>exact hr.elim
  | succ n=>exact ⟨cs,n,rfl,hr⟩
 | _=>cases hx
theorem yl {t:Ty} {ts:List Ty} (x y:aq S.C (t::ts)):jk S (t::ts) x y↔sP S t (aq.head x) (aq.head y)∧jk S ts (aq.tail x) (aq.tail y):=by
 cases ts with
 | nil=>exact ⟨fun h=>⟨h,trivial⟩,fun h=>h.1⟩
 | cons u ts=>exact Iff.rfl
theorem Uv (hP:aV P S ak) {s:St} {n m:Nat} {t:Nat} {T:Ty} (h4:match T with | .int _=>True | .bool=>True | .str=>True | _=>False) (h3:S.ty t=some T) {x y:T.den S.C} {c c':Value} (e2:aC S w s n T x [c]) (f2:aC S w s m T y [c']) (d:Nat):
 ∃ b0,(Op.equalIn (d+1) t c c').run P w= .ok b0 w∧(b0=true↔sP S T x y):=by
 have hty:=(hP.ty t T h3).2
 cases n with
 | zero=>exact e2.elim
 | succ n=>
 cases m with
 | zero=>exact f2.elim
 | succ m=>
 cases T with
 | int k=>
  have e2: [c]= [Value.int k _]:=e2
  have f2: [c']= [Value.int k _]:=f2
  cases e2; cases f2
  exact ⟨_,run_equalIn_int w d t k k _ _ hty,by show _↔ @Eq Int _ _; exact beq_iff_eq⟩
 | bool=>
  have e2: [c]= [Value.bool _]:=e2
  have f2: [c']= [Value.bool _]:=f2
  cases e2; cases f2
  exact ⟨_,run_equalIn_bool' w d t _ _ hty,by show _↔ @Eq Bool _ _; exact beq_iff_eq⟩
 | str=>
  have e2: [c]= [Value.string ⟨List.toArray _⟩]:=e2
  have f2: [c']= [Value.string ⟨List.toArray _⟩]:=f2
  cases e2; cases f2
  exact ⟨_,run_equalIn_string w d t _ _ hty,by show _↔ @Eq (List UInt8) _ _; rw [ByteArray.toList_eq,ByteArray.toList_eq]; exact beq_iff_eq⟩
 | st u=>exact h4.elim
 | sl e=>exact h4.elim
 | pt=>exact h4.elim
theorem JK (hP:aV P S ak) {s:St} {d:Nat} {n m:Nat} : ∀ (fs:List Field) (ts:List Ty) (i:Nat) (xs ys:Array Value) (x y:aq S.C ts),uO S fs ts i→
 bF S (fun t x cs=>aC S w s n t x cs) ts x (xs.toList.drop i)→bF S (fun t x cs=>aC S w s m t x cs) ts y (ys.toList.drop i)→ ∃ b,(Op.eqFields (d+1) xs ys fs).run P w= .ok b w∧(b=true↔jk S ts x y)
 | [],[],_,_,_,_,_,_,_,_=>⟨true,by simp [Op.eqFields],by simp [jk]⟩
 | [],_::_,_,_,_,_,_,h,_,_=>h.elim
 | _::_,[],_,_,_,_,_,h,_,_=>h.elim
 | fd::fs,T::ts,i,xs,ys,x,y,⟨h1,h2,h3,h4,h5⟩,⟨c,r,e1,e2,e3⟩,⟨c',r',f1,f2,f3⟩=>by
  have nx:xs.toList.drop (i+1)=r:=by rw [← List.drop_drop,e1]; rfl
  have ny:ys.toList.drop (i+1)=r':=by rw [← List.drop_drop,f1]; rfl
  obtain ⟨b,g1,g2⟩:=JK hP (d:=d) fs ts (i+1) xs ys (aq.tail x) (aq.tail y) h5 (by rw [nx]; exact e3) (by rw [ny]; exact f3)
  have hsz:Ty.sz S T=1∧bq T=false:=by cases T <;> first | exact ⟨rfl,rfl⟩ | exact h4.elim
  have yV:i<xs.size:=by
   have :=congrArg List.length e1
   simp at this; omega
  have P7:i<ys.size:=by
   have :=congrArg List.length f1
   simp at this; omega
  have hm: ∀ ds,eR T ds=ds.headD Go.undef:=by intro ds; cases T <;> first | rfl | exact h4.elim
  have px:=n8 hP h3 (cs:=xs) (off:=i) (by rw [hsz.1]; omega) w
  have py:=n8 hP h3 (cs:=ys) (off:=i) (by rw [hsz.1]; omega) w
  rw [hm,e1,hsz.1] at px
  rw [hm,f1,hsz.1] at py
  have px:(part fd.type xs i).run P w= .ok c w:=px
  have py:(part fd.type ys i).run P w= .ok c' w:=py
  have heq: ∃ b0,(Op.equalIn (d+1) fd.type c c').run P w= .ok b0 w∧(b0=true↔sP S T (aq.head x) (aq.head y)):=by
   have hty:=(hP.ty fd.type T h3).2
   cases n with
   | zero=>exact e2.elim
   | succ n=>
   cases m with
   | zero=>exact f2.elim
   | succ m=>
   cases T with
   | int k=>
    have e2: [c]= [Value.int k _]:=e2
    have f2: [c']= [Value.int k _]:=f2
    cases e2; cases f2
    exact ⟨_,run_equalIn_int w d fd.type k k _ _ hty,by show _↔ @Eq Int _ _; exact beq_iff_eq⟩
   | bool=>
    have e2: [c]= [Value.bool _]:=e2
    have f2: [c']= [Value.bool _]:=f2
    cases e2; cases f2
    exact ⟨_,run_equalIn_bool' w d fd.type _ _ hty,by show _↔ @Eq Bool _ _; exact beq_iff_eq⟩
   | str=>
    have e2: [c]= [Value.string ⟨List.toArray _⟩]:=e2
    have f2: [c']= [Value.string ⟨List.toArray _⟩]:=f2
    cases e2; cases f2
    exact ⟨_,run_equalIn_string w d fd.type _ _ hty,by show _↔ @Eq (List UInt8) _ _; rw [ByteArray.toList_eq,ByteArray.toList_eq]; exact beq_iff_eq⟩
   | st u=>exact h4.elim
   | sl e=>exact h4.elim
   | pt=>exact h4.elim
  obtain ⟨b0,k1,k2⟩:=heq
  rw [yl]
  simp only [Op.eqFields,h2,ne_eq,not_false_eq_true,if_true,h1,Sem.run_bind,px,py,k1,Result.andThen_ok]
  cases b0 with
  | true=>
   simp only [Bool.not_true,Bool.false_eq_true,if_false]
   exact ⟨b,g1,by rw [g2]; exact ⟨fun h=>⟨k2.1 rfl,h⟩,fun h=>h.2⟩⟩
  | false=>
   simp only [Bool.not_false,if_true,Sem.run_pure]
   exact ⟨false,rfl,fun h=>(by cases h),fun h=>(by have :=k2.2 h.1; cases this)⟩
def oh:(ts us:List Ty)→aq S.C (ts++us)→aq S.C ts
 | [],_,_=>()
 | _::ts,us,x=>aq.cons (aq.head x) (oh ts us (aq.tail x))
def xA:(ts us:List Ty)→aq S.C (ts++us)→aq S.C us
 | [],_,x=>x
 | _::ts,us,x=>xA ts us (aq.tail x)
theorem head_cons {t:Ty} {ts:List Ty} (x:t.den S.C) (r:aq S.C ts):aq.head (aq.cons x r)=x:=by cases ts <;> rfl
theorem tail_cons {t:Ty} {ts:List Ty} (x:t.den S.C) (r:aq S.C ts):aq.tail (aq.cons x r)=r:=by cases ts <;> rfl
theorem Ge: ∀ (ts us:List Ty) (x y:aq S.C (ts++us)),jk S (ts++us) x y↔jk S ts (oh ts us x) (oh ts us y)∧jk S us (xA ts us x) (xA ts us y)
 | [],us,x,y=>by
  show _↔True∧_
  rw [true_and]; rfl
 | t::ts,us,x,y=>by
  have h:=yl (S:=S) (t:=t) (ts:=ts++us) x y
  have h2:=yl (S:=S) (t:=t) (ts:=ts) (oh (t::ts) us x) (oh (t::ts) us y)
  show jk S (t::(ts++us)) x y↔_
  rw [h,h2,Ge ts us]
  simp only [oh,xA,head_cons,tail_cons]
  exact and_assoc.symm
theorem A2 {R:(t:Ty)→t.den S.C→List Value→Prop} : ∀ (ts us:List Ty) (x:aq S.C (ts++us)) (cs:List Value),bF S R (ts++us) x cs→bF S R ts (oh ts us x) (cs.take ts.length)∧bF S R us (xA ts us x) (cs.drop ts.length)∧ts.length≤cs.length
 | [],us,x,cs,h=>⟨rfl,h,Nat.zero_le _⟩
 | t::ts,us,x,cs,⟨c,r,hc,h1,h2⟩=>by
  subst hc
  obtain ⟨a,b,l⟩:=A2 ts us _ _ h2
  refine ⟨⟨c,r.take ts.length,rfl, ?_, ?_⟩,b,by simpa using l⟩
  · simp only [oh,head_cons]; exact h1
  · simp only [oh,tail_cons]; exact a
theorem Ee (hP:aV P S ak) {s:St} {d:Nat} {n m:Nat} : ∀ (fs:List Field) (ts:List Ty) (i:Nat) (xs ys:Array Value) (x y:aq S.C ts),uP P S fs ts i→
 bF S (fun t x cs=>aC S w s n t x cs) ts x (xs.toList.drop i)→bF S (fun t x cs=>aC S w s m t x cs) ts y (ys.toList.drop i)→ ∃ b,(Op.eqFields (d+3) xs ys fs).run P w= .ok b w∧(b=true↔jk S ts x y)
 | [],ts,_,_,_,_,_,h,_,_=>by
  have h:ts= []:=h
  subst h
  exact ⟨true,by simp [Op.eqFields],by simp [jk]⟩
 | fd::fs,ts,i,xs,ys,x,y,⟨h1,h2,h3⟩,hx,hy=>by
  have step: ∀ (b0 b:Bool) (c c':Value) (A B:Prop),(part fd.type xs i).run P w= .ok c w→(part fd.type ys i).run P w= .ok c' w→(Op.equalIn (d+3) fd.type c c').run P w= .ok b0 w→(b0=true↔A)→(Op.eqFields (d+3) xs ys fs).run P w= .ok b w→(b=true↔B)→
   ∃ b,(Op.eqFields (d+3) xs ys (fd::fs)).run P w= .ok b w∧(b=true↔A∧B):=by
   intro b0 b c c' A B px py k1 k2 g1 g2
   simp only [Op.eqFields,h2,ne_eq,not_false_eq_true,if_true,h1,Sem.run_bind,px,py,k1,Result.andThen_ok]
   cases b0 with
   | true=>
    simp only [Bool.not_true,Bool.false_eq_true,if_false]
    exact ⟨b,g1,by rw [g2]; exact ⟨fun h=>⟨k2.1 rfl,h⟩,fun h=>h.2⟩⟩
   | false=>
    simp only [Bool.not_false,if_true,Sem.run_pure]
    exact ⟨false,rfl,fun h=>(by cases h),fun h=>(by have :=k2.2 h.1; cases this)⟩
  rcases h3 with ⟨T,r,rfl,hty,hsc,h5⟩ | ⟨v,r,gs,rfl,hty,hu,hsi,hpos,hfl,h5⟩
  · obtain ⟨c,cr,e1,e2,e3⟩:=hx
    obtain ⟨c',NB,f1,f2,f3⟩:=hy
    have nx:xs.toList.drop (i+1)=cr:=by rw [← List.drop_drop,e1]; rfl
    have ny:ys.toList.drop (i+1)=NB:=by rw [← List.drop_drop,f1]; rfl
    obtain ⟨b,g1,g2⟩:=Ee hP (d:=d) fs r (i+1) xs ys (aq.tail x) (aq.tail y) h5 (by rw [nx]; exact e3) (by rw [ny]; exact f3)
    have WB:uO S [fd] [T] i:=⟨h1,h2,hty,hsc,trivial⟩
    have hsz:Ty.sz S T=1∧bq T=false:=by cases T <;> first | exact ⟨rfl,rfl⟩ | exact hsc.elim
    have yV:i<xs.size:=by
     have :=congrArg List.length e1
     simp at this; omega
    have P7:i<ys.size:=by
     have :=congrArg List.length f1
     simp at this; omega
    have hm: ∀ ds,eR T ds=ds.headD Go.undef:=by intro ds; cases T <;> first | rfl | exact hsc.elim
    have px:=n8 hP hty (cs:=xs) (off:=i) (by rw [hsz.1]; omega) w
    have py:=n8 hP hty (cs:=ys) (off:=i) (by rw [hsz.1]; omega) w
    rw [hm,e1,hsz.1] at px
    rw [hm,f1,hsz.1] at py
    have px:(part fd.type xs i).run P w= .ok c w:=px
    have py:(part fd.type ys i).run P w= .ok c' w:=py
    obtain ⟨b0,k1,k2⟩:=Uv (w:=w) hP hsc hty e2 f2 (d+2)
    rw [yl]
    exact step b0 b c c' _ _ px py k1 k2 g1 g2
  · obtain ⟨x1,x2,lx⟩:=A2 (S.F v) r x _ hx
    obtain ⟨y1,y2,ly⟩:=A2 (S.F v) r y _ hy
    rw [List.drop_drop] at x2 y2
    obtain ⟨b,g1,g2⟩:=Ee hP (d:=d) fs r (i+(S.F v).length) xs ys _ _ h5 x2 y2
    rw [List.length_drop] at lx ly
    have px:=n8 hP hty (cs:=xs) (off:=i) (by show i+(S.F v).length≤_; have :xs.toList.length=xs.size:=Array.length_toList; omega) w
    have py:=n8 hP hty (cs:=ys) (off:=i) (by show i+(S.F v).length≤_; have :ys.toList.length=ys.size:=Array.length_toList; omega) w
    have hfo:P.underlying fd.type=some (.struct (P.fieldsOf fd.type)):=by unfold Program.fieldsOf; rw [hu]
    have Cq:P.fieldsOf fd.type=gs:=by unfold Program.fieldsOf; rw [hu]
    obtain ⟨b0,k1,k2⟩:=JK hP (d:=d+1) gs.toList (S.F v) 0 ((xs.toList.drop i).take (S.F v).length).toArray ((ys.toList.drop i).take (S.F v).length).toArray _ _ hfl (by simpa using x1) (by simpa using y1)
    rw [Ge]
    refine step b0 b (.agg ((xs.toList.drop i).take (S.F v).length).toArray) (.agg ((ys.toList.drop i).take (S.F v).length).toArray) _ _ px py ?_ k2 g1 g2
    rw [run_equalIn_agg w (d+2) fd.type _ _ hfo hsi,Cq]
    exact k1
theorem Vh (hP:aV P S ak) (h:Inv P S w0 M0 s0 dq env a w μ) (hd: ∀ d,o.dst=some d→d<a.tmps.size) {op:BinOp} {t t':TypeId} {x y:Operand} (ho:o.op= .binOp op t x y t') (he:S.eq t=true)
 (hl:(match aO S env.tm x,aO S env.tm y with
  | some p,some q=>structEq S op t p q
  | _,_=> .fail).leaf (V,us)) (hK:Goal P S w0 M0 s0 dq env a o.dst V us K):o.wp P a w K Q:=by
 obtain ⟨u,ht,⟨fs,hu,hfl⟩,hsi,hgt⟩:=hP.eq t he
 have hfo:P.underlying t=some (.struct (P.fieldsOf t)):=by unfold Program.fieldsOf; rw [hu]
 have Cq:P.fieldsOf t=fs:=by unfold Program.fieldsOf; rw [hu]
 split at hl
 · rename_i p q hx hy
   obtain ⟨hv1,_⟩:=bB h hx
   obtain ⟨gp,_⟩:=bB h hy
   unfold structEq at hl
   rw [ht] at hl
   dsimp only at hl
   split at hl
   · rename_i c d hc hd'
     obtain ⟨xs,n,e1,r1⟩:=FV hP hv1 hc
     obtain ⟨ys,m,e2,r2⟩:=FV hP gp hd'
     obtain ⟨b,g1,g2⟩:=Ee hP (d:=9996) fs.toList (S.F u) 0 xs ys _ _ hfl (by simpa using r1) (by simpa using r2)
     have hrun:(Op.equalIn 10000 t (.agg xs) (.agg ys)).run P w= .ok b w:=by
      rw [run_equalIn_agg w 9999 t xs ys hfo hsi,Cq]
      exact g1
     have fin: ∀ (z:Bool),(binOp op t (.agg xs) (.agg ys)).run P w= .ok (.bool z) w→RV P S w (aG S w0 M0 s0 env.bx μ w) μ env.bx V (.bool z)→aA S V= []→us= []→o.wp P a w K Q:=by
      rintro z hz hr hi rfl
      refine wp_pure h (v:= .bool z) ?_ hd hr (by simp [hi]) hK
      unfold execOp
      simp only [ho,e1,e2]
      simp [run_eqGuard_agg w op t x y xs ys hgt,hz]
     split at hl
     · obtain ⟨rfl,rfl⟩:=bE hl
       refine fin b (by rw [run_eql_struct,hrun]; rfl) ?_ rfl rfl
       show Value.bool b=Value.bool (@decide _ (vj S _ _ _))
       congr 1
       cases hb:b with
       | true=>exact (@decide_eq_true _ (_) (g2.1 hb)).symm
       | false=>exact (@decide_eq_false _ (_) (fun hq=>by rw [g2.2 hq] at hb; cases hb)).symm
     · obtain ⟨rfl,rfl⟩:=bE hl
       refine fin (!b) (by rw [run_neq_struct,hrun]; rfl) ?_ rfl rfl
       show Value.bool (!b)=Value.bool (@decide _ (@instDecidableNot _ (vj S _ _ _)))
       congr 1
       cases hb:b with
       | true=>exact (@decide_eq_false _ (_) (fun hq=>hq (g2.1 hb))).symm
       | false=>exact (@decide_eq_true _ (_) (fun hq=>by rw [g2.2 hq] at hb; cases hb)).symm
     · exact hl.elim
   · exact hl.elim
 · exact hl.elim
theorem z_ {s:St} {bx:Bx S.C} {e:Ty} (he:bq e=false): ∀ {vs:List (Sy.V S.C)} {cs:List Value} {l:List (e.den S.C)},aH P S w s μ bx vs cs→rowOf S e vs=some l→l.length=vs.length∧
 ∀ (j:Nat) (x:e.den S.C),l[j]? =some x→ ∃ c n,cs[j]? =some c∧aC S w s n e x [c]
 | [],_,_,_,hl=>by
  cases hl
  exact ⟨rfl,fun j x h=>by simp at h⟩
 | v::vs,_,l,⟨c,r,rfl,h1,h2⟩,hl=>by
  simp only [rowOf] at hl
  obtain ⟨x,hx,hl⟩:=Option.bind_eq_some_iff.1 hl
  obtain ⟨l',hl',hl⟩:=Option.bind_eq_some_iff.1 hl
  cases hl
  obtain ⟨h3,h4⟩:=z_ he h2 hl'
  refine ⟨by simp [h3],fun j y hj=> ?_⟩
  cases j with
  | zero=>
   simp at hj
   subst hj
   obtain ⟨n,hn⟩:=Fu he h1 hx
   exact ⟨c,n,rfl,hn⟩
  | succ j=>
   obtain ⟨c',n,h5,h6⟩:=h4 j y (by simpa using hj)
   exact ⟨c',n,by simpa using h5,h6⟩
theorem Bk (hP:aV P S ak) {t n u:Nat} {e:Ty} (h:oG S t=some (n,e,u)): ∃ te,S.ty t=some (.st u)∧P.underlying t=some (.array n te)∧S.ty te=some e∧Ty.sz S e=1∧bq e=false∧S.F u=List.replicate n e:=by
 unfold oG at h
 cases ha:S.ar t with
 | none=>rw [ha] at h; cases h
 | some p=>
  obtain ⟨n',e'⟩:=p
  rw [ha] at h
  dsimp only at h
  split at h
  · cases h
  · rename_i u' Qd hu
    cases h
    obtain ⟨_,_,h3⟩:=hP.ty t _ hu
    rw [ha] at h3
    obtain ⟨te,h4,h5,h6,_⟩:=h3
    rcases h6 with ⟨h6,h7,h8⟩ | ⟨w,rfl,_⟩
    · exact ⟨te,hu,h4,h5,h6,h7,h8⟩
    · exact absurd rfl (Qd w)
  · cases h
theorem MH (hP:aV P S ak) {t n m u:Nat} (h:xY S t=some (n,m,u)): ∃ te,S.ty t=some (.st u)∧P.underlying t=some (.array n te)∧S.ty te=some (.st m):=by
 unfold xY at h
 cases ha:S.ar t with
 | none=>rw [ha] at h; cases h
 | some p=>
  obtain ⟨n',e'⟩:=p
  rw [ha] at h
  dsimp only at h
  split at h
  · rename_i w u' hu
    cases h
    obtain ⟨_,_,h3⟩:=hP.ty t _ hu
    rw [ha] at h3
    obtain ⟨te,h4,h5,_⟩:=h3
    exact ⟨te,hu,h4,h5⟩
  · cases h
theorem Uz (hP:aV P S ak) {t n te:Nat} {e:Ty} (hu:P.underlying t=some (.array n te)) (he:S.ty te=some e) (h1:Ty.sz S e=1) {b o':Nat} {k:IntKind} {i:Int} (h0:0≤i) (hi:i<(n:Int)) (w:World):
 (Instr.indexAt t (.pointer (some ⟨b,o',none⟩)) (.int k i)).run P w= .ok (.pointer (some ⟨b,o'+i.toNat,none⟩)) w:=by
 simp [Instr.indexAt,asIntOf,run_underlying hu,h0,hi,hP.size he w,Addr.add_mid,h1,Instr.sureAddr]
theorem Ux (hP:aV P S ak) {t n te:Nat} {e:Ty} (hu:P.underlying t=some (.array n te)) (he:S.ty te=some e) (h1:Ty.sz S e=1) (hst:bq e=false) {cs:Array Value} {c:Value} {k:IntKind} {i:Int} (h0:0≤i) (hi:i<(n:Int)) (hc:cs.toList[i.toNat]? =some c) (w:World):
 (Instr.index t (.agg cs) (.int k i)).run P w= .ok c w:=by
 have hlt:i.toNat<cs.size:=by
  have :=(List.getElem?_eq_some_iff.1 hc).1
  simpa using this
 have :=n8 hP he (cs:=cs) (off:=i.toNat) (by rw [h1]; omega) w
 rw [h1] at this
 simp only [Instr.index,asIntOf,Sem.run_bind,Sem.run_pure,Result.andThen_ok,run_underlying hu]
 simp only [h0,hi,and_self,if_true,Sem.run_bind,hP.size he w,Result.andThen_ok,h1,Nat.mul_one,this]
 congr 1
 have hm: ∀ ds,eR e ds=ds.headD Go.undef:=by intro ds; cases e <;> first | rfl | simp [bq] at hst
 have qO:cs.toList[i.toNat]=c:=by
  have :=(List.getElem?_eq_some_iff.1 hc).2
  exact this
 rw [hm,List.drop_eq_getElem_cons (by simpa using hlt),qO]
 rfl
theorem Wq (h:Inv P S w0 M0 s0 dq env a w μ) {o:Oper} {K:Act→World→Prop} {Q:Exit→Act→World→Prop} {V:Sy.V S.C} {v:Value} {us:aI S.C}
 (hrun:(execOp a.eval o).run P w= .ok (.value v) w) (hd: ∀ d,o.dst=some d→d<a.tmps.size) (hk: ∀ i,av env.bx us i=env.bx i∨ ∃ ws,env.bx i=some (.cells ws)∧av env.bx us i=some (.bW ws))
 (hv:Inv P S w0 M0 s0 dq { env with bx:=av env.bx us } a w μ→RV P S w (aG S w0 M0 s0 (av env.bx us) μ w) μ (av env.bx us) V v) (hr: ∀ i ∈ aA S V,av env.bx us i≠none)
 (hK: ∀ a' w' μ',Inv P S w0 M0 s0 dq (env.apply o.dst V us) a' w' μ'→a'.tmps.size=a.tmps.size→K a' w'):o.wp P a w K Q:=by
 unfold Oper.wp
 rw [hrun]
 have hI:=h.yC hk
 refine hK _ w μ (hI.put hd (hv hI) hr) ?_
 cases o.dst <;> simp [Act.put]
theorem ME (hP:aV P S ak) (h:Inv P S w0 M0 s0 dq env a w μ) (hd: ∀ d,o.dst=some d→d<a.tmps.size) {t:TypeId} {x i:Operand} {ids:List Nat} {n u:Nat} {e:Ty} (ho:o.op= .indexAddr t x i) (hte:oG S t=some (n,e,u))
 (hl:(match aO S env.tm x,aO S env.tm i with
  | some v,some w=>match w.int? with
   | some (_,j)=>Bm S n e u (restrict S env.bx ids) j v
   | none=> .fail
  | _,_=> .fail).leaf (V,us)) (hK:Goal P S w0 M0 s0 dq env a o.dst V us K):o.wp P a w K Q:=by
 obtain ⟨te,ht,hu,he,h1,hst,hF⟩:=Bk hP hte
 split at hl
 · rename_i v wv hx hi
   obtain ⟨hv,dx⟩:=bB h hx
   obtain ⟨nM,_⟩:=bB h hi
   split at hl
   · rename_i k j hn
     have hin:=jr nM hn
     have run: ∀ (b off:Nat),a.eval x= .pointer (some ⟨b,off,none⟩)→0≤j→j<(n:Int)→(execOp a.eval o).run P w= .ok (.value (.pointer (some ⟨b,off+j.toNat,none⟩))) w:=by
      intro b off he' h0 hj
      unfold execOp
      simp only [ho,he',hin]
      simp [Uz hP hu he h1 h0 hj]
     unfold Bm at hl
     split at hl
     · rename_i b off
       have main: ∀ (vs:List (Sy.V S.C)),(env.bx b=some (.cells vs)∨env.bx b=some (.bW vs))→(match rowOf S e ((vs.drop off).take n) with
        | some l=> .gd (ey j l.length) (aB S (.dw e (gE S e l j)) [(b, .bW vs)])
        | none=> .fail:Rt S).leaf (V,us)→o.wp P a w K Q:=by
        intro vs hb cx
        clear hl
        split at cx
        · rename_i l hrow
          obtain ⟨hg,rfl,rfl⟩:=fN cx
          have g0:0≤j:=hg ⟨0≤j,inferInstance⟩ (by simp [ey,gd])
          have g1:j<(l.length:Int):=hg ⟨j<(l.length:Int),inferInstance⟩ (by simp [ey,gd])
          have hk: ∀ i,av env.bx [(b,dP.bW vs)] i=env.bx i∨ ∃ ws,env.bx i=some (.cells ws)∧av env.bx [(b,dP.bW vs)] i=some (.bW ws):=by
           intro i
           by_cases e':i=b
           · subst e'
             rcases hb with hb | hb
             · exact .inr ⟨vs,hb,aR ..⟩
             · exact .inl ((aR ..).trans hb.symm)
           · exact .inl (bg _ _ e')
          have hlen:l.length≤n∧l.length≤vs.length - off:=by
           have : ∀ (e:Ty) (vs:List (Sy.V S.C)) (l:List (e.den S.C)),rowOf S e vs=some l→l.length=vs.length:=by
            intro e vs
            induction vs with
            | nil=>intro l hl; cases hl; rfl
            | cons v vs ih=>
             intro l hl
             simp only [rowOf] at hl
             obtain ⟨x,hx,hl⟩:=Option.bind_eq_some_iff.1 hl
             obtain ⟨l',hl',hl⟩:=Option.bind_eq_some_iff.1 hl
             cases hl
             simp [ih l' hl']
           have :=this e _ l hrow
           rw [List.length_take,List.length_drop] at this
           omega
          have CP:a.eval x= .pointer (some ⟨(μ b).b,(μ b).o+off,none⟩):=hv
          refine Wq (V:= .dw e (gE S e l j)) h (run _ _ CP g0 (by omega)) hd hk (fun hI=> ?_) (by simp [aA,az]) hK
          have lU:av env.bx [(b,dP.bW vs)] b=some (.bW vs):=aR ..
          obtain ⟨_,cs,cG,cV⟩:=hI.cg b _ lU
          obtain ⟨_,eO⟩:=z_ hst (aH.take P S n (aH.drop P S off cV)) hrow
          obtain ⟨c,m,hc,hr⟩:=eO j.toNat _ (sZ g0 g1)
          refine ⟨(μ b).b,(μ b).o+off+j.toNat,[c],rfl,fun q u hq=> ?_,by rw [h1]; rfl,m,hr⟩
          cases q with
          | zero=>
           simp at hq
           subst hq
           rw [List.getElem?_take] at hc
           split at hc
           · rw [List.getElem?_drop] at hc
             have :=cG (off+j.toNat) c hc
             rw [Nat.add_zero,Nat.add_assoc]
             exact this
           · cases hc
          | succ q=>simp at hq
        · exact cx.elim
       split at hl
       · rename_i vs hb; exact main vs (.inl (eU hb)) hl
       · rename_i vs hb; exact main vs (.inr (eU hb)) hl
       · exact hl.elim
     · rename_i t' y
       split at hl
       · rename_i y' hc
         obtain ⟨rfl,rfl⟩:=ew hc
         split at hl
         · rename_i l hrow
           obtain ⟨hg,rfl,rfl⟩:=fN hl
           have g0:0≤j:=hg ⟨0≤j,inferInstance⟩ (by simp [ey,gd])
           have g1:j<(l.length:Int):=hg ⟨j<(l.length:Int),inferInstance⟩ (by simp [ey,gd])
           obtain ⟨b,o',ds,CP,cG,hlen,m,hr⟩:=hv
           obtain ⟨cV,_⟩:=mI (P:=P) hP.tocT μ env.bx hr
           obtain ⟨oS,eO⟩:=z_ hst (aH.take P S n cV) hrow
           rw [List.length_take] at oS
           obtain ⟨c,m',hc,hr'⟩:=eO j.toNat _ (sZ g0 g1)
           refine wp_pure (V:= .dw e (gE S e l j)) h (run _ _ CP g0 (by omega)) hd ⟨b,o'+j.toNat,[c],rfl,fun q u hq=> ?_,by rw [h1]; rfl,m',hr'⟩ (by simp [aA,az]) hK
           cases q with
           | zero=>
            simp at hq
            subst hq
            rw [List.getElem?_take] at hc
            split at hc
            · have :=cG j.toNat c hc
              rw [Nat.add_zero]
              exact this
            · cases hc
           | succ q=>simp at hq
         · exact hl.elim
       · exact hl.elim
     · exact hl.elim
   · exact hl.elim
 · exact hl.elim
theorem Ve (hP:aV P S ak) (h:Inv P S w0 M0 s0 dq env a w μ) (hd: ∀ d,o.dst=some d→d<a.tmps.size) {t:TypeId} {x y:Operand} {ids:List Nat} {n u:Nat} {e:Ty} (ho:o.op= .store t x y) (hte:oG S t=some (n,e,u))
 (fQ: ∀ V,aO S env.tm y=some V→ ∀ i ∈ aA S V,restrict S env.bx ids i=env.bx i)
 (hl:(match aO S env.tm x,aO S env.tm y with
  | some p,some v=>Ey S u (restrict S env.bx ids) v p
  | _,_=> .fail).leaf (V,us)) (hK:Goal P S w0 M0 s0 dq env a o.dst V us K):o.wp P a w K Q:=by
 obtain ⟨te,ht,_⟩:=Bk hP hte
 split at hl
 · rename_i p v hx hy
   unfold Ey at hl
   split at hl
   · rename_i b off
     split at hl
     · rename_i vs hb
       cases hf:fits S (cellsOf S v) (Ty.sz S (.st u))&&Nat.ble (off+Ty.sz S (.st u)) vs.length with
       | false=>rw [hf] at hl; exact hl.elim
       | true=>
        rw [hf] at hl
        obtain ⟨rfl,rfl⟩:=bE hl
        refine Kg hP h hd (V:= .skip) (us:= [(b, .cells (setCells S vs off (cellsOf S v)))]) ho fQ ?_ fun a' w' μ' hI hsz=> ?_
        · rw [ht,hx,hy]
          simp only [xq]
          rw [hb]
          dsimp only
          rw [hf]
          rfl
        · have hfr:=hI.yC (ai:=av env.bx [(b, .bW (setCells S vs off (cellsOf S v)))]) fun i=>by
           by_cases e':i=b
           · subst e'
             exact .inr ⟨_,aR ..,aR ..⟩
           · exact .inl ((bg _ _ e').trans (bg _ _ e').symm)
          exact hK a' w' μ' hfr hsz
     · exact hl.elim
   · exact hl.elim
 · exact hl.elim
theorem MG (hP:aV P S ak) (h:Inv P S w0 M0 s0 dq env a w μ) (hd: ∀ d,o.dst=some d→d<a.tmps.size) {t:TypeId} {x i:Operand} {n u:Nat} {e:Ty} (ho:o.op= .index t x i) (hte:oG S t=some (n,e,u))
 (hl:(match aO S env.tm x,aO S env.tm i with
  | some v,some w=>match w.int? with
   | some (_,j)=>Bn S n e u j v
   | none=> .fail
  | _,_=> .fail).leaf (V,us)) (hK:Goal P S w0 M0 s0 dq env a o.dst V us K):o.wp P a w K Q:=by
 obtain ⟨te,ht,hu,he,h1,hst,hF⟩:=Bk hP hte
 split at hl
 · rename_i v wv hx hi
   obtain ⟨hv,dx⟩:=bB h hx
   obtain ⟨nM,_⟩:=bB h hi
   split at hl
   · rename_i k j hn
     have hin:=jr nM hn
     unfold Bn at hl
     split at hl
     · rename_i vs hcells
       split at hl
       · rename_i l hrow
         obtain ⟨hg,rfl,rfl⟩:=fN hl
         have g0:0≤j:=hg ⟨0≤j,inferInstance⟩ (by simp [ey,gd])
         have g1:j<(l.length:Int):=hg ⟨j<(l.length:Int),inferInstance⟩ (by simp [ey,gd])
         have CG: ∃ cs,a.eval x= .agg cs∧aH P S w (aG S w0 M0 s0 env.bx μ w) μ env.bx vs cs.toList:=by
          unfold u7 at hcells
          split at hcells
          · rename_i u' vs'
            cases hb:Nat.beq u u' with
            | false=>rw [hb] at hcells; cases hcells
            | true=>
             rw [hb] at hcells
             cases hcells
             obtain ⟨cs,g1,g2,g3,g4⟩:=hv
             exact ⟨cs,g1,g4⟩
          · rename_i t' y
            obtain ⟨y',hc,hcells⟩:=Option.bind_eq_some_iff.1 hcells
            cases hcells
            obtain ⟨rfl,rfl⟩:=ew hc
            obtain ⟨ha,m,hr⟩:=hv
            have : ∃ cs,a.eval x= .agg cs:=by
             cases e':a.eval x <;> rw [e'] at ha <;> first | exact ⟨_,rfl⟩ | (simp [Go.Sy.isAgg,bq] at ha)
            obtain ⟨cs,hcs⟩:=this
            rw [hcs] at hr
            exact ⟨cs,hcs,(mI (P:=P) hP.tocT μ env.bx hr).1⟩
          · cases hcells
         obtain ⟨cs,hcs,cV⟩:=CG
         obtain ⟨oS,eO⟩:=z_ hst (aH.take P S n cV) hrow
         rw [List.length_take] at oS
         obtain ⟨c,m',hc,hr'⟩:=eO j.toNat _ (sZ g0 g1)
         have gH:cs.toList[j.toNat]? =some c:=by
          rw [List.getElem?_take] at hc
          split at hc
          · exact hc
          · cases hc
         refine wp_pure (V:= .d e (gE S e l j)) h (v:=c) ?_ hd ?_ (by simp [aA,az]) hK
         · unfold execOp
           simp only [ho,hcs,hin]
           simp [Ux hP hu he h1 hst g0 (by omega:j<(n:Int)) gH]
         · have :=zp hr'
           have hm: ∀ ds,eR e ds=ds.headD Go.undef:=by intro ds; cases e <;> first | rfl | simp [bq] at hst
           rw [hm] at this
           exact this
       · exact hl.elim
     · exact hl.elim
   · exact hl.elim
 · exact hl.elim
theorem Fs {w k:Nat} {j:Int} {vs:List (Sy.V S.C)} : ∀ {i m:Nat},(xX S w k j vs i m).leaf (V,us)→ ∃ q,i≤q∧q<i+m∧j=(q:Int)∧V= .agg w ((vs.drop (q*k)).take k)∧us= []
 | _,0,h=>h.elim
 | i,m+1,h=>by
  rcases h with ⟨hj,h⟩ | ⟨_,h⟩
  · obtain ⟨rfl,rfl⟩:=bE h
    exact ⟨i,Nat.le_refl _,by omega,hj,rfl,rfl⟩
  · obtain ⟨q,h1,h2,h3⟩:=Fs h
    exact ⟨q,by omega,by omega,h3⟩
theorem Uy (hP:aV P S ak) {t n te m:Nat} (hu:P.underlying t=some (.array n te)) (he:S.ty te=some (.st m)) {cs:Array Value} {k:IntKind} {q:Nat} (hi:q<n) (hle:q*(S.F m).length+(S.F m).length≤cs.size) (w:World):
 (Instr.index t (.agg cs) (.int k (q:Int))).run P w= .ok (eR (.st m) ((cs.toList.drop (q*(S.F m).length)).take (S.F m).length)) w:=by
 have :=n8 hP he (cs:=cs) (off:=q*(S.F m).length) hle w
 have h0:(0:Int)≤(q:Int):=by omega
 have hi':(q:Int)<(n:Int):=by omega
 have hsz:Ty.sz S (.st m)=(S.F m).length:=rfl
 rw [hsz] at this
 simp only [Instr.index,asIntOf,Sem.run_bind,Sem.run_pure,Result.andThen_ok,run_underlying hu]
 simp only [h0,hi',and_self,if_true,Sem.run_bind,hP.size he w,Result.andThen_ok,hsz,Int.toNat_natCast,this]
theorem MF (hP:aV P S ak) (h:Inv P S w0 M0 s0 dq env a w μ) (hd: ∀ d,o.dst=some d→d<a.tmps.size) {t:TypeId} {x i:Operand} {n m u:Nat} (ho:o.op= .index t x i) (hte:xY S t=some (n,m,u))
 (hl:(match aO S env.tm x,aO S env.tm i with
  | some v,some w=>match u7 S u v,w.int? with
   | some vs,some (_,j)=>cond (Nat.beq vs.length (n*(S.F m).length)) (xX S m (S.F m).length j vs 0 n) .fail
   | _,_=> .fail
  | _,_=> .fail).leaf (V,us)) (hK:Goal P S w0 M0 s0 dq env a o.dst V us K):o.wp P a w K Q:=by
 obtain ⟨te,ht,hu,he⟩:=MH hP hte
 split at hl
 · rename_i v wv hx hi
   obtain ⟨hv,dx⟩:=bB h hx
   obtain ⟨nM,_⟩:=bB h hi
   split at hl
   · rename_i vs k j hcells hn
     have hin:=jr nM hn
     cases hb:Nat.beq vs.length (n*(S.F m).length) with
     | false=>rw [hb] at hl; exact hl.elim
     | true=>
      rw [hb,cond_true] at hl
      have hlen:=Nat.eq_of_beq_eq_true hb
      obtain ⟨q,_,hq,rfl,rfl,rfl⟩:=Fs hl
      have CG: ∃ cs:Array Value,a.eval x= .agg cs∧vs.all (bU S)=true∧aH P S w (aG S w0 M0 s0 env.bx μ w) μ env.bx vs cs.toList∧ ∀ V ∈ vs, ∀ i ∈ az S V,env.bx i≠none:=by
       unfold u7 at hcells
       split at hcells
       · rename_i u' vs'
         cases hb:Nat.beq u u' with
         | false=>rw [hb] at hcells; cases hcells
         | true=>
          rw [hb] at hcells
          cases hcells
          obtain ⟨cs,g1,g2,g3,g4⟩:=hv
          exact ⟨cs,g1,g3,g4,fun V hV i hi=>dx i (by simp only [aA,List.mem_flatMap]; exact ⟨V,hV,hi⟩)⟩
       · rename_i t' y
         obtain ⟨y',hc,hcells⟩:=Option.bind_eq_some_iff.1 hcells
         cases hcells
         obtain ⟨rfl,rfl⟩:=ew hc
         obtain ⟨ha,r,hr⟩:=hv
         have : ∃ cs,a.eval x= .agg cs:=by
          cases e':a.eval x <;> rw [e'] at ha <;> first | exact ⟨_,rfl⟩ | (simp [Go.Sy.isAgg,bq] at ha)
         obtain ⟨cs,hcs⟩:=this
         rw [hcs] at hr
         obtain ⟨x1,x2,x3⟩:=mI (P:=P) hP.tocT μ env.bx hr
         exact ⟨cs,hcs,x2,x1,fun V hV i hi=>by rw [x3 V hV] at hi; simp at hi⟩
       · cases hcells
      obtain ⟨cs,hcs,oV,cV,fQ⟩:=CG
      have hcl:cs.size=n*(S.F m).length:=by
       have :=aH.length P S cV
       rw [hlen] at this
       simpa using this
      have hle:q*(S.F m).length+(S.F m).length≤n*(S.F m).length:=by
       have :(q+1)*(S.F m).length≤n*(S.F m).length:=Nat.mul_le_mul_right _ (by omega)
       rw [Nat.add_mul,Nat.one_mul] at this
       exact this
      have hvl:((vs.drop (q*(S.F m).length)).take (S.F m).length).length=(S.F m).length:=by
       rw [List.length_take,List.length_drop]; omega
      refine wp_pure (V:= .agg m ((vs.drop (q*(S.F m).length)).take (S.F m).length)) h (v:= .agg ((cs.toList.drop (q*(S.F m).length)).take (S.F m).length).toArray) ?_ hd
       ⟨_,rfl,hvl, ?_,by rw [List.toList_toArray]; exact aH.take P S _ (aH.drop P S _ cV)⟩ (fun i hi=> ?_) hK
      · unfold execOp
        simp only [ho,hcs,hin]
        simp [Uy hP hu he (cs:=cs) (k:=k) (by omega:q<n) (by omega),eR]
      · rw [List.all_eq_true] at oV ⊢
        exact fun V hV=>oV V (List.mem_of_mem_drop (List.mem_of_mem_take hV))
      · simp only [aA,List.mem_flatMap] at hi
        obtain ⟨V,hV,hi⟩:=hi
        exact fQ V (List.mem_of_mem_drop (List.mem_of_mem_take hV)) i hi
   · exact hl.elim
 · exact hl.elim
end
end Go.Sy
namespace Go.Sy
section
variable {P:Program} {S:aS} {ak:Nat→Nat}
variable {w0:World} {M0 s0:St} {dq:List Deferred} {env:Env S.C} {a:Act} {w:World} {μ:Nat→Loc} {K:Act→World→Prop} {Q:Exit→Act→World→Prop} {o:Oper} {V:V S.C} {us:aI S.C}
theorem RA {x y:Operand} {n:Nat} (h:zm x y=some n):x= .const (.int .i64 (n:Int))∧y= .const (.int .i64 (n:Int))∧n≤8:=by
 unfold zm at h
 split at h
 · rename_i p q
   cases hc:Nat.beq p q&&Nat.ble p 8 with
   | false=>rw [hc] at h; cases h
   | true=>
    rw [hc,cond_true] at h
    cases h
    rw [Bool.and_eq_true] at hc
    have e1:=Nat.eq_of_beq_eq_true hc.1
    subst e1
    exact ⟨rfl,rfl,Nat.le_of_ble_eq_true hc.2⟩
 · cases h
theorem EZ {s:St} {bx:Bx S.C} : ∀ (n:Nat) (cs:List Value),cs=List.replicate n (Value.slice none 0 0)→aH P S w s μ bx (List.replicate n (.cI:Sy.V S.C)) cs
 | 0,_,h=>h
 | n+1,_,h=>⟨.slice none 0 0,List.replicate n (.slice none 0 0),h,rfl,EZ n _ rfl⟩
theorem RJ (hP:aV P S ak) (h:Inv P S w0 M0 s0 dq env a w μ) (hd: ∀ d,o.dst=some d→d<a.tmps.size) {vw:Bool} {B:Nat} {t:TypeId} {x y:Operand} (ho:o.op= .makeSlice t x y)
 (hnew: ∀ u ∈ us,B≤u.1→u.1<B+16→env.bx u.1=none)
 (hl:(match eM S t,aO S env.tm x,aO S env.tm y with
  | some e,some v,some w=>match cond (vw&&C2 e&&Nat.ble (ak t) 64) (zm x y) none with
   | some n=>aB S (.cF B n) [(B, .cells (List.replicate n .cI))]
   | none=>match v.int?,w.int? with
    | some (.i64,n),some (.i64,m)=>Tr.gd [gd (0≤n),gd (n≤m),gd (m*ak t≤limit)] (aB S (.aQ (B)) [(B, .arr e (List.replicate n.toNat (Ty.zero S e)))])
    | _,_=>Tr.fail
  | _,_,_=>Tr.fail).leaf (V,us)) (hK:Goal P S w0 M0 s0 dq env a o.dst V us K):o.wp P a w K Q:=by
 split at hl
 · rename_i e v u ht hx hy
   split at hl
   · rename_i n hn
     cases hc:(vw&&C2 e&&Nat.ble (ak t) 64) with
     | false=>rw [hc] at hn; cases hn
     | true=>
     rw [hc,cond_true] at hn
     simp only [Bool.and_eq_true] at hc
     obtain ⟨⟨_,gk⟩,dK⟩:=hc
     have dK:=Nat.le_of_ble_eq_true dK
     obtain ⟨hex,PD,WQ⟩:=RA hn
     obtain ⟨rfl,rfl⟩:=bE hl
     obtain ⟨e1,rfl⟩: ∃ e1,e= .sl e1:=by
      cases e with
      | sl e1=>exact ⟨e1,rfl⟩
      | _=>cases gk
     have ht':=nG ht
     obtain ⟨te,ie,z,hu,hte,hie,hby,fP,_⟩:=hP.sl ht'
     obtain ⟨⟨i,z,h1,h2,h3,h4,h5⟩,_⟩:=hP.ty te _ hte
     rw [hie] at h1
     cases h1
     have hz:z.cells.toList= [.slice none 0 0]:=h5
     have hsz:ie.size=1:=h2
     have hbig:(n:Int)*ak t≤512:=by
      have q1:(ak t:Int)≤64:=by omega
      have q2:(n:Int)≤8:=by omega
      exact Int.le_trans (Int.mul_le_mul q2 q1 (by omega) (by omega)) (by decide)
     have hrun:=run_make (P:=P) w t te ie z hu hie h3 .i64 .i64 n n (by omega) (Int.le_refl _) (by rw [hby,Int.mul_comm]; omega) (by omega)
     have hB:=hnew _ (List.mem_singleton.2 rfl) (Nat.le_refl _) (by show B<B+16; omega)
     have hcells:(madeCells z.cells (n*1)).toList=List.replicate n (Value.slice none 0 0):=by
      have hzs:z.cells= #[.slice none 0 0]:=by
       have :z.cells=z.cells.toList.toArray:=by simp
       rw [this,hz]
      rw [hzs,Nat.mul_one]
      unfold madeCells
      apply List.ext_getElem
      · simp
      · intro j yS hj2
        simp [Nat.mod_one]
     have nt:=o9 (w:=w) (cs:=madeCells z.cells (n*1)) (t:=te)
     rw [size_madeCells,Nat.mul_one] at nt
     refine pV (i:=B) (B:= .cells (List.replicate n .cI)) (V:= .cF B n) (v:= .slice (some ⟨w.heap.size,0,none⟩) n n) (L:=⟨w.heap.size,0,n,0,false⟩) (w':=w.alloc (.cells (madeCells z.cells (n*1)) te)) h ?_ hd (aY.alloc w _ _) hB (fun b o' hf=>Nat.le_of_eq hf.1.symm)
      (fun hl _ h3=>⟨⟨?_, ?_, ?_,_, ?_,EZ n _ hcells⟩, ?_⟩) (fun vs hvs v hv j hj=> ?_) (fun j hj=> .inl (by simpa [aA,az] using hj)) hK
     · unfold execOp
       simp only [ho,hex,PD]
       have :(Instr.makeSlice t (.int .i64 (n:Int)) (.int .i64 (n:Int))).run P w= .ok (.slice (some ⟨w.heap.size,0,none⟩) n n) (w.alloc (.cells (madeCells z.cells (n*1)) te)):=by
        rw [hrun,hsz]; rfl
       simp [this,Act.eval]
     · rw [List.all_eq_true]
       intro v hv
       rw [List.eq_of_mem_replicate hv]; rfl
     · simp
     · simpa using nt.1
     · simpa using nt.2
     · show Value.slice _ n n= .slice (some ⟨(au μ B _ B).b,(au μ B _ B).o,none⟩) n n
       rw [aR]
     · have :v= .cI:=by
        rcases hvs with hvs | hvs
        · cases hvs; exact List.eq_of_mem_replicate hv
        · cases hvs
       rw [this] at hj
       simp [az] at hj
   · exact RM hP h hd ho hnew (by rw [ht,hx,hy]; exact hl) hK
 · exact hl.elim
theorem KA {e:Ty} : ∀ {vs:List (Sy.V S.C)} {l:List (List (e.den S.C))},uE S e vs=some l→l.length=vs.length
 | [],l,h=>by cases h; rfl
 | v::vs,l,h=>by
  cases v with
  | aZ b e' x=>
   simp only [uE] at h
   obtain ⟨y,hy,h⟩:=Option.bind_eq_some_iff.1 h
   obtain ⟨r,hr,h⟩:=Option.bind_eq_some_iff.1 h
   cases h
   show (y::r).length=_
   simp only [List.length_cons]
   exact congrArg (· +1) (KA hr)
  | _=>cases h
theorem Kz {s:St} {bx:Bx S.C} {e:Ty} : ∀ {vs:List (Sy.V S.C)} {l:List (List (e.den S.C))} {cs:List Value},uE S e vs=some l→aH P S w s μ bx vs cs→ ∀ (i:Nat) (x:List (e.den S.C)),l[i]? =some x→ ∃ c,cs[i]? =some c∧cA S w s (.sl e) x c
 | [],l,cs,h,_,i,x,hx=>by cases h; simp at hx
 | v::vs,l,cs,h,⟨c,r,hc,h1,h2⟩,i,x,hx=>by
  cases v with
  | aZ b e' y=>
   simp only [uE] at h
   obtain ⟨z,hz,h⟩:=Option.bind_eq_some_iff.1 h
   obtain ⟨q,hq,h⟩:=Option.bind_eq_some_iff.1 h
   cases h
   subst hc
   cases i with
   | zero=>
    have hx:some z=some x:=hx
    cases hx
    refine ⟨c,rfl, ?_⟩
    obtain ⟨he,hz⟩:=ew hz
    cases he
    cases hz
    exact h1.1
   | succ i=>
    have hx:q[i]? =some x:=hx
    exact Kz hq h2 i x hx
  | _=>cases h
theorem MK {nl:Bool} (h:Inv P S w0 M0 s0 dq env a w μ) (hd: ∀ d,o.dst=some d→d<a.tmps.size) {x:Operand} {B:Nat} {ids:List Nat} (ho:execOp a.eval o=pure (.value (a.eval x)))
 (hnew: ∀ u ∈ us,B≤u.1→u.1<B+16→env.bx u.1=none)
 (hl:(match aO S env.tm x with
  | some .cI=>cond nl (aB S .cI []) (match eM S o.type with
   | some e=>aB S (.aZ B e []) [(B, .tail)]
   | none=> .fail)
  | some (.cF b n)=>settle S (eM S o.type) (restrict S env.bx ids) b n
  | some v=>aB S v []
  | none=> .fail).leaf (V,us)) (hK:Goal P S w0 M0 s0 dq env a o.dst V us K):o.wp P a w K Q:=by
 have hrun:(execOp a.eval o).run P w= .ok (.value (a.eval x)) w:=by rw [ho]; rfl
 split at hl
 · rename_i hx
   exact Dl (nl:=nl) h hd (x:=x) (B:=B) ho hnew (by rw [hx]; exact hl) hK
 · rename_i b n hx
   obtain ⟨hv,hr⟩:=bB h hx
   unfold settle at hl
   split at hl
   · rename_i vs hb
     have hb:=eU hb
     split at hl
     · obtain ⟨rfl,rfl⟩:=bE hl
       exact wp_pure h hrun hd hv hr hK
     · split at hl
       · rename_i e he
         split at hl
         · rename_i l hlr
           cases hn:Nat.beq n vs.length with
           | false=>rw [hn] at hl; exact hl.elim
           | true=>
            rw [hn,cond_true] at hl
            have hn:=Nat.eq_of_beq_eq_true hn
            obtain ⟨rfl,rfl⟩:=bE hl
            have hall: ∀ i,av env.bx [(b,dP.bW vs)] i=env.bx i∨ ∃ ws,env.bx i=some (.cells ws)∧av env.bx [(b,dP.bW vs)] i=some (.bW ws):=fun i=>by
             by_cases e:i=b
             · subst e; exact .inr ⟨vs,hb,aR _ _ _⟩
             · exact .inl (bg _ _ e)
            have hI:=h.yC hall
            obtain ⟨_,cs,cG,cV⟩:=hI.cg b (.bW vs) (aR _ _ _)
            have oS:=KA hlr
            have hv:a.eval x= .slice (some ⟨(μ b).b,(μ b).o,none⟩) n n:=hv
            unfold Oper.wp
            rw [hrun]
            refine hK _ w μ (hI.put hd (V:= .d (.sl (.sl e)) l) ?_ (by simp [aA,az])) ?_
            · rw [hv,hn, ← oS]
              refine Es (Nat.le_refl _) fun i y hy=> ?_
              obtain ⟨c,hc,ha,m,hm⟩:=Kz hlr cV i y hy
              refine ⟨[c],rfl,fun j u hj=> ?_,m, ?_⟩
              · cases j with
                | zero=>
                 simp at hj
                 subst hj
                 have :=cG i c hc
                 rw [show i*Ty.sz S (.sl e)=i from Nat.mul_one i]
                 exact this
                | succ j=>simp at hj
              · rwa [aC.lK ha rfl] at hm
            · cases o.dst <;> simp [Act.put]
         · exact hl.elim
       · exact hl.elim
   · exact hl.elim
 · rename_i v Qc WR hx
   refine Dl (nl:=nl) h hd (x:=x) (B:=B) ho hnew ?_ hK
   rw [hx]
   cases v with
   | cI=>exact absurd rfl Qc
   | _=>exact hl
 · exact hl.elim
theorem NX (hP:aV P S ak) (h:Inv P S w0 M0 s0 dq env a w μ) (hd: ∀ d,o.dst=some d→d<a.tmps.size) {op:BinOp} {t t':TypeId} {x:Operand} (ho:o.op= .binOp op t x (.const .nilIface) t')
 (hl:(match aO S env.tm x with
  | some (.err b)=>cond (S.oX t) (match op with
   | .eql=>aB S (.d .bool b) []
   | .neq=>aB S (.d .bool (Bool.not b)) []
   | _=> .fail) .fail
  | _=> .fail).leaf (V,us)) (hK:Goal P S w0 M0 s0 dq env a o.dst V us K):o.wp P a w K Q:=by
 split at hl
 · rename_i b hx
   obtain ⟨hv,_⟩:=bB h hx
   have hv:uQ b (a.eval x):=hv
   cases hi:S.oX t with
   | false=>rw [hi] at hl; exact hl.elim
   | true=>
    rw [hi,cond_true] at hl
    obtain ⟨ms,hu⟩:=hP.oX t hi
    have hif:P.isIface t=true:=by unfold Program.isIface; rw [hu]
    have hg:(eqGuard op t x (.const .nilIface) (a.eval x) .nilIface).run P w= .ok () w:=by
     cases b with
     | true=>
      have hv:a.eval x= .nilIface:=hv
      rw [hv,eqGuard_nil_constR]; rfl
     | false=>
      obtain ⟨u,p,hv⟩:=hv
      rw [hv]
      exact BM rfl w
    have fin: ∀ r:Bool,V= .d .bool r→us= []→(binOp op t (a.eval x) .nilIface).run P w= .ok (.bool r) w→o.wp P a w K Q:=by
     rintro r rfl rfl hr
     refine wp_pure h (V:= .d .bool r) (v:= .bool r) ?_ hd (nF ..) (by simp [aA,az]) hK
     unfold execOp
     simp only [ho]
     have e:a.eval (.const .nilIface)= .nilIface:=rfl
     rw [e]
     simp [hg,hr]
    split at hl
    · obtain ⟨h1,h2⟩:=bE hl
      refine fin b h1 h2 ?_
      cases b with
      | true=>
       have hv:a.eval x= .nilIface:=hv
       rw [hv]; exact run_eql_nil_nil_at w t hif
      | false=>
       obtain ⟨u,p,hv⟩:=hv
       rw [hv]; exact run_eql_iface_nil w t hif u p
    · obtain ⟨h1,h2⟩:=bE hl
      refine fin (Bool.not b) h1 h2 ?_
      cases b with
      | true=>
       have hv:a.eval x= .nilIface:=hv
       rw [hv]; exact run_neq_nil_nil_at w t hif
      | false=>
       obtain ⟨u,p,hv⟩:=hv
       rw [hv]; exact run_neq_iface_nil w t hif u p
    · exact hl.elim
 · exact hl.elim
theorem Dv {T:gC S} {B:Nat} {op:BinOp} {t t' ty:TypeId} {x y:Operand} {tm:Nat→Sy.V S.C} {bx:Bx S.C} (hy:y≠ .const .nilIface):
 cP S T ak B (.binOp op t x y t') ty tm bx=cond (S.eq t) (match aO S tm x,aO S tm y with
 | some a,some b=>structEq S op t a b
 | _,_=> .fail) (match aO S tm x,aO S tm y with
 | some a,some b=>match xZ S op t a b with
  | some (gs,v)=> .gd gs (aB S v [])
  | none=> .fail
 | _,_=> .fail):=by
 cases y with
 | const v=>cases v <;> first | rfl | exact absurd rfl hy
 | _=>rfl
end
end Go.Sy
namespace Go.Sy
section
variable {P:Program} {S:aS} {ak:Nat→Nat}
variable {w0:World} {M0 s0:St} {dq:List Deferred} {env:Env S.C} {a:Act} {w:World} {μ:Nat→Loc} {K:Act→World→Prop} {Q:Exit→Act→World→Prop} {o:Oper} {V:V S.C} {us:aI S.C}
theorem Rj {B:Nat} {fp:List Nat} {bx:Bx S.C} (h:mP S bx B fp us=true): ∀ u ∈ us,B≤u.1→u.1<B+16→bx u.1=none:=by
 intro u hu h1 h2
 have :=List.all_eq_true.1 h u hu
 rw [Bool.and_eq_true,show Nat.ble B u.1=true from Nat.ble_eq_true_of_le h1,show Nat.blt u.1 (B+16)=true from Nat.ble_eq_true_of_le h2] at this
 exact Option.isNone_iff_eq_none.1 (by simpa using this.2)
theorem sY {o:Op} {tm:Nat→Sy.V S.C} {x:Operand} (hx:x ∈ o.operands.toList) {V:Sy.V S.C} (hV:aO S tm x=some V) {i:Nat} (hi:i ∈ aA S V):
 i ∈ o.operands.toList.flatMap (tF S tm):=
 List.mem_flatMap.2 ⟨x,hx,by unfold tF; rw [hV]; exact hi⟩
theorem rQ {bx:Bx S.C} {ids:List Nat} {i:Nat} (h:i ∈ ids):restrict S bx ids i=bx i:=by
 unfold restrict
 rw [List.contains_iff_mem.2 h]; rfl
theorem FY {bx:Bx S.C} {ids more:List Nat} {V:Sy.V S.C} (h: ∀ i ∈ aA S V,i ∈ ids):jd S bx (restrict S bx (deep S bx ids++more)) V:=fun i hi=>
 ⟨rQ (List.mem_append.2 (.inl (List.mem_append.2 (.inl (h i hi))))),fun vs hvs v hv j hj=>rQ (List.mem_append.2 (.inl (List.mem_append.2 (.inr (List.mem_flatMap.2 ⟨i,h i hi,by
  rcases hvs with hvs | hvs <;> · rw [hvs]; exact List.mem_flatMap.2 ⟨v,hv,hj⟩⟩))))),
  fun j hj=>rQ (List.mem_append.2 (.inl (List.mem_append.2 (.inr (List.mem_flatMap.2 ⟨i,h i hi,by rw [hj]; simp⟩)))))⟩
theorem R9 (hP:aV P S ak) {T:gC S} (hT: ∀ e ∈ T.es,oz P S w0 M0 e) (hF: ∀ e ∈ T.fs,fq P S e) (h:Inv P S w0 M0 s0 dq env a w μ) (hd: ∀ d,o.dst=some d→d<a.tmps.size) {B:Nat}
 (hl:(cP S T ak B o.op o.type env.tm (restrict S env.bx (aF S T.vw B o.op env.tm env.bx).1)).leaf (V,us)) (y4:mP S env.bx B (aF S T.vw B o.op env.tm env.bx).2 us=true)
 (hK:Goal P S w0 M0 s0 dq env a o.dst V us K):o.wp P a w K Q:=by
 have hnew:=Rj y4
 clear y4
 cases ho:o.op with
 | move x=>rw [ho] at hl; exact Dl h hd (x:=x) (by unfold execOp; simp only [ho]) hnew hl hK
 | assign x=>rw [ho] at hl; exact MK h hd (x:=x) (by unfold execOp; simp only [ho]) hnew hl hK
 | pick c x y=>rw [ho] at hl; exact Sp h hd ho hl hK
 | alloc t=>rw [ho] at hl; exact Mt hP h hd ho hnew hl hK
 | box t x=>rw [ho] at hl; exact Nb hP h hd ho hnew hl hK
 | build t ps=>rw [ho] at hl; exact Nf hP h hd ho hl hK
 | buildSlice t len ps=>
  rw [ho] at hl
  unfold cP at hl
  dsimp only at hl
  split at hl
  rotate_left
  · exact hl.elim
  rename_i e het
  cases hv:(T.vw&&Nat.beq len 0) with
  | true=>
   rw [hv,cond_true] at hl
   have h0:=Nat.eq_of_beq_eq_true (Bool.and_eq_true_iff.1 hv).2
   subst h0
   exact NS hP h hd ho het hnew hl hK
  | false=>
  rw [hv,cond_false] at hl
  refine Nd hP h hd ho (fun i x hm V hV j hj=> ?_) hnew (by rw [het]; exact hl) hK
  exact rQ (List.mem_append.2 (.inl (sY (x:=x) (by simp only [Op.operands]; exact List.mem_map.2 ⟨(i,x),hm,rfl⟩) hV hj)))
 | load t x=>rw [ho] at hl; exact RE hP h hd ho hl hK
 | store t x y=>
  rw [ho] at hl
  unfold cP at hl
  dsimp only at hl
  split at hl
  · rename_i n e u hte
    refine Ve hP h hd ho hte (fun V hV j hj=> ?_) hl hK
    exact rQ (List.mem_append.2 (.inl (sY (x:=y) (by simp [Op.operands]) hV hj)))
  · refine Kg hP h hd ho (fun V hV j hj=> ?_) hl hK
    exact rQ (List.mem_append.2 (.inl (sY (x:=y) (by simp [Op.operands]) hV hj)))
 | nilCheck x=>rw [ho] at hl; exact RW h hd ho hl hK
 | binOp op t x y t'=>
  rw [ho] at hl
  by_cases hy:y= .const .nilIface
  · subst hy
    exact NX hP h hd ho hl hK
  rw [Dv hy] at hl
  cases he:S.eq t with
  | true=>rw [he,cond_true] at hl; exact Vh hP h hd ho he hl hK
  | false=>rw [he,cond_false] at hl; exact MR hP h hd ho hl hK
 | unOp op t x=>rw [ho] at hl; exact We h hd ho hl hK
 | convert s t x=>rw [ho] at hl; exact NA hP h hd ho hl hK
 | makeFunc fn first cs=>
  rw [ho] at hl
  cases fn with
  | func f=>
   obtain ⟨l⟩:=first
   cases l with
   | nil=>exact RL h hd ho hl hK
   | cons x r=>exact hl.elim
  | _=>exact hl.elim
 | makeSlice t x y=>rw [ho] at hl; exact RJ hP h hd ho hnew hl hK
 | slice t x lo hi m=>
  rw [ho] at hl
  cases m with
  | none=>exact U0 hP h hd ho hl hK
  | some m=>
   cases lo with
   | none=>exact hl.elim
   | some lo=>
    cases hi with
    | none=>exact hl.elim
    | some hi=>exact UZ hP h hd ho hl hK
 | fieldAddr t x f=>rw [ho] at hl; exact Ow hP h hd ho hl hK
 | field t x f=>rw [ho] at hl; exact Ox hP h hd ho hl hK
 | indexAddr t x i=>
  rw [ho] at hl
  unfold cP at hl
  dsimp only at hl
  split at hl
  · rename_i n e u hte; exact ME hP h hd ho hte hl hK
  · exact QH hP h hd ho hl hK
 | index t x i=>
  rw [ho] at hl
  unfold cP at hl
  dsimp only at hl
  split at hl
  · rename_i n e u hte; exact MG hP h hd ho hte hl hK
  · split at hl
    · rename_i n m u hte; exact MF hP h hd ho hte hl hK
    · exact QJ hP h hd ho hl hK
 | extract x i=>rw [ho] at hl; exact Ot h hd ho hl hK
 | call c=>
  rw [ho] at hl
  unfold cP at hl
  dsimp only at hl
  split at hl
  · exact hl.elim
  · rename_i args hargs
    obtain ⟨callee,ve,FR⟩:=c
    have hmem: ∀ V ∈ args, ∃ x ∈ ve.toList,aO S env.tm x=some V:=(xW h hargs).2
    cases callee with
    | builtin b=>
     cases b with
     | len=>exact Rh hP h hd ho rfl hargs hl hK
     | append=>
      refine Mz hP h hd ho rfl hargs (fun V hV j hj=> ?_) hnew hl hK
      obtain ⟨x,hx,he⟩:=hmem V hV
      exact rQ (List.mem_append.2 (.inl (sY (x:=x) (by simp only [Op.operands,Call.operands]; simpa using hx) he hj)))
     | clear=>exact Nu hP h hd ho rfl hargs hl hK
     | _=>exact RO h hd ho rfl hargs hl hK
    | value f=>
     dsimp only at hl
     split at hl
     · rename_i Vf hf
       refine No hP hT hF h hd ho rfl hargs hf (fun V hV=> ?_) ?_ hnew hl hK
       · obtain ⟨x,hx,he⟩:=hmem V hV
         exact FY fun i hi=>sY (x:=x) (by simp only [Op.operands,Call.operands]; simp; right; simpa using hx) he hi
       · exact FY fun i hi=>sY (x:=f) (by simp only [Op.operands,Call.operands]; simp) hf hi
     · exact hl.elim
    | invoke r n=>exact hl.elim
 | _=>rw [ho] at hl; exact hl.elim
end
end Go.Sy
namespace Go.Sy
section
variable {P:Program} {S:aS} {ak:Nat→Nat} {T:gC S}
variable {w0:World} {M0 s0:St} {dq:List Deferred} {env:Env S.C} {a:Act} {w:World} {μ:Nat→Loc}
theorem Kf {R:Type} {B:Nat} {dst:Option Nat} {o:Op} {ty:Nat} {k:Env S.C→Option R} {r:R} (h:Ew S T ak B dst o ty env k=some r):
 ∃ V us,(cP S T ak B o ty env.tm (restrict S env.bx (aF S T.vw B o env.tm env.bx).1)).leaf (V,us)∧mP S env.bx B (aF S T.vw B o env.tm env.bx).2 us=true∧k (env.apply dst V us)=some r:=by
 unfold Ew at h
 obtain ⟨⟨V,us⟩,h1,h2⟩:=Tr.rT _ h
 dsimp only at h2
 cases hl:mP S env.bx B (aF S T.vw B o env.tm env.bx).2 us with
 | false=>rw [hl] at h2; cases h2
 | true=>rw [hl] at h2; exact ⟨V,us,h1,hl,h2⟩
def p5 (V:Sy.V S.C) (x:Bool):Prop:=(V= .d .bool x)∨ ∃ p i,V= .pr p i∧ @decide p i=x
theorem p5.val {s:St} {bx:Bx S.C} {V:Sy.V S.C} {x:Bool} (h:p5 V x) {v:Value} (hv:RV P S w s μ bx V v):v= .bool x:=by
 rcases h with rfl | ⟨p,i,rfl,rfl⟩
 · exact p8 hv
 · exact hv
theorem Eu {R:Type} {g:Bool} {dst:Option Nat} {k:Env S.C→Option R} {r:R} (h:splitK S g dst env k=some r):
 (g=false∧k env=some r)∨ ∃ t x,g=true∧dst=some t∧p5 (env.tm t) x∧k { env with tm:=au env.tm t (.d .bool x) } =some r:=by
 cases g with
 | false=>exact .inl ⟨rfl,h⟩
 | true=>
  right
  cases dst with
  | none=>cases h
  | some t=>
   simp only [splitK] at h
   split at h
   · rename_i x ht
     cases x with
     | true=>exact ⟨t,true,rfl,rfl, .inl ht,h⟩
     | false=>exact ⟨t,false,rfl,rfl, .inl ht,h⟩
   · rename_i p i ht
     by_cases hp:p
     · rw [if_pos hp] at h
       exact ⟨t,true,rfl,rfl, .inr ⟨p,i,ht,decide_eq_true hp⟩,h⟩
     · rw [if_neg hp] at h
       exact ⟨t,false,rfl,rfl, .inr ⟨p,i,ht,decide_eq_false hp⟩,h⟩
   · cases h
theorem Inv.D6 (h:Inv P S w0 M0 s0 dq env a w μ) {t:Nat} {x:Bool} (hk:p5 (env.tm t) x):Inv P S w0 M0 s0 dq { env with tm:=au env.tm t (.d .bool x) } a w μ:=by
 have hv:=hk.val (h.jE t)
 refine ⟨fun u=> ?_,h.cg,h.dr,h.own,fun u i hi=> ?_,h.kL,h.gY,h.sO,h.qv⟩
 · by_cases e:u=t
   · subst e
     show RV P S w _ μ env.bx (au env.tm u (.d .bool x) u) _
     rw [aR,hv]
     exact nF ..
   · show RV P S w _ μ env.bx (au env.tm t (.d .bool x) u) _
     rw [bg _ _ e]
     exact h.jE u
 · have hi':i ∈ aA S (au env.tm t (.d .bool x) u):=hi
   by_cases e:u=t
   · subst e
     rw [aR] at hi'
     simp [aA,az] at hi'
   · rw [bg _ _ e] at hi'
     exact h.ref u i hi'
theorem OK {a:Act} {t:Nat} {x:Bool} (h:a.tmps.getD t Go.undef= .bool x):a.tmps[t]? =some (.bool x):=by
 rw [Array.getD_eq_getD_getElem?] at h
 cases e:a.tmps[t]? with
 | none=>rw [e] at h; cases h
 | some v=>rw [e] at h; exact congrArg some h
theorem EK {ops:Array Oper} {o:Oper} {b:Bool} (h:Inv P S w0 M0 s0 dq env a w μ) (hw:nk S ops o env.tm=some b):Region.wanted o (yielded ops a.tmps)=b:=by
 unfold nk at hw
 unfold Region.wanted
 split at hw
 · rename_i hg
   rw [hg]
   exact Option.some.inj hw
 · rename_i j want hg
   rw [hg]
   dsimp only
   split at hw
   · cases hw
   · rename_i t ht
     unfold yielded
     rw [ht]
     simp only [Option.bind_some]
     split at hw
     · rename_i x hx
       have hv:=h.jE t
       rw [hx] at hv
       rw [OK (p8 hv)]
       cases hw
       cases x <;> cases want <;> rfl
     · rename_i hx
       have hv:=h.jE t
       rw [hx] at hv
       have hv:a.tmps.getD t Go.undef=Go.undef:=hv
       cases hw
       rw [Array.getD_eq_getD_getElem?] at hv
       cases e:a.tmps[t]? with
       | none=>rfl
       | some v=>
        rw [e] at hv
        have hv:v=Go.undef:=hv
        rw [hv]
        rfl
     · cases hw
theorem SF (a:Act) (dst:Option Nat) (v:Value):(a.put dst v).tmps.size=a.tmps.size:=by cases dst <;> simp [Act.put]
theorem Inv.skip (h:Inv P S w0 M0 s0 dq env a w μ) {dst:Option Nat} (hd: ∀ d,dst=some d→d<a.tmps.size):Inv P S w0 M0 s0 dq (env.apply dst .skip []) (a.put dst undef) w μ:=
 h.put hd (V:= .skip) (v:=undef) rfl (by simp [aA,az])
theorem KZ {o:Oper} {K:Act→World→Prop} {Q:Exit→Act→World→Prop} (h:o.wp P a w K Q):o.wp P a w (fun a' w'=>K a' w'∧ ∃ v d,a'=({ a with defers:=d } :Act).put o.dst v) Q:=by
 unfold Oper.wp at *
 generalize (execOp a.eval o).run P w=r at *
 cases r with
 | ok n w'=>
  cases n <;> simp only [Oper.upon] at h ⊢ <;>
   first
    | exact ⟨h,_,_,rfl⟩
    | exact Calls.mono h (fun e w'' he=>by cases e <;> first | exact ⟨he,_,a.defers,rfl⟩ | exact he)
    | exact Rows.mono h (fun _ _ he=>⟨he,_,a.defers,rfl⟩)
 | halt x w'=>cases x <;> simp only [Oper.upon] at h ⊢ <;> exact h
theorem IF (hP:aV P S ak) (hT: ∀ e ∈ T.es,oz P S w0 M0 e) (hF: ∀ e ∈ T.fs,fq P S e) (h:Inv P S w0 M0 s0 dq env a w μ) {o:Oper} (hd: ∀ d,o.dst=some d→d<a.tmps.size) {B:Nat} {V:Sy.V S.C} {us:aI S.C} {K:Act→World→Prop} {Q:Exit→Act→World→Prop}
 (hl:(cP S T ak B o.op o.type env.tm (restrict S env.bx (aF S T.vw B o.op env.tm env.bx).1)).leaf (V,us)) (y4:mP S env.bx B (aF S T.vw B o.op env.tm env.bx).2 us=true)
 (hK: ∀ a' w' μ',Inv P S w0 M0 s0 dq (env.apply o.dst V us) a' w' μ'→(∃ v d,a'=({ a with defers:=d } :Act).put o.dst v)→K a' w'):o.wp P a w K Q:=
 Oper.wp_mono (fun a' w' ⟨⟨μ',hI⟩,hv⟩=>hK a' w' μ' hI hv) (KZ (R9 hP hT hF h hd hl y4 (K:=fun a' w'=> ∃ μ',Inv P S w0 M0 s0 dq (env.apply o.dst V us) a' w' μ') fun a' w' μ' hI _=>⟨μ',hI⟩))
structure xL (ops:Array Oper) (Z:Act→Prop):Prop where
 dst: ∀ a,Z a→ ∀ o ∈ ops.toList, ∀ d,o.dst=some d→d<a.tmps.size
 put: ∀ a,Z a→ ∀ o ∈ ops.toList, ∀ v d,Z (({ a with defers:=d } :Act).put o.dst v)
theorem Mo {R:Type} {a b:Option R} {r:R} (h:agree a b=some r):a=some r∧b=some r:=by
 unfold agree at h
 split at h
 · rename_i e; exact ⟨h,e▸h⟩
 · cases h
theorem Uu (d:Nat) {t te:TypeId} (hu:P.underlying t=some (.slice te)) (a:Option Addr) (n c:Nat) (w:World):(Op.equalIn (d+1) t (.slice a n c) (.slice none 0 0)).run P w= .ok a.isNone w:=by
 unfold Op.equalIn
 cases a <;> simp [run_underlying hu]
theorem JO {t te:TypeId} (hu:P.underlying t=some (.slice te)) (a:Option Addr) (n c:Nat) (w:World):(Op.equal t (.slice a n c) (.slice none 0 0)).run P w= .ok a.isNone w:=Uu 9999 hu a n c w
theorem RX (hP:aV P S ak) (h:Inv P S w0 M0 s0 dq env a w μ) {o:Oper} (hd: ∀ d,o.dst=some d→d<a.tmps.size) {m:Nat} {v:Bool} (hn:wC S o.op env.tm=some (m,v)) {Q:Exit→Act→World→Prop} :
 ∃ x:Bool,(x=v∨m=0)∧ ∀ K:Act→World→Prop,(∀ a' w' μ',Inv P S w0 M0 s0 dq (env.apply o.dst (.d .bool x) []) a' w' μ'→(∃ v d,a'=({ a with defers:=d } :Act).put o.dst v)→K a' w')→o.wp P a w K Q:=by
 unfold wC at hn
 split at hn
 · rename_i op t x ty ho
   split at hn
   · rename_i e het
     obtain ⟨te,_,_,hu,_⟩:=hP.sl (nG het)
     split at hn
     · rename_i e' l hx
       obtain ⟨hv,_⟩:=bB h hx
       obtain ⟨ad,cap,e1,e2,e3⟩:=lE hv
       have go: ∀ (y:Bool),(binOp op t (.slice ad l.length cap) (.slice none 0 0)).run P w= .ok (.bool y) w→ ∀ K:Act→World→Prop,(∀ a' w' μ',Inv P S w0 M0 s0 dq (env.apply o.dst (.d .bool y) []) a' w' μ'→(∃ v d,a'=({ a with defers:=d } :Act).put o.dst v)→K a' w')→o.wp P a w K Q:=by
        intro y hrun K hK
        refine Oper.wp_mono (fun a' w' ⟨⟨μ',hI⟩,hv⟩=>hK a' w' μ' hI hv) (KZ (wp_pure (K:=fun a' w'=> ∃ μ',Inv P S w0 M0 s0 dq (env.apply o.dst (.d .bool y) []) a' w' μ') (V:= .d .bool y) (v:= .bool y) h ?_ hd (nF ..) (by simp [aA,az]) fun a' w' μ' hI _=>⟨μ',hI⟩))
        unfold execOp
        simp only [ho,e1]
        have hg:(eqGuard op t x (.const (.slice none 0 0)) (.slice ad l.length cap) (.slice none 0 0)).run P w= .ok () w:=BM rfl w
        have hev:a.eval (.const (.slice none 0 0))= .slice none 0 0:=rfl
        simp [hg,hrun,hev]
       have hlen:ad=none→List.length l=0:=by
        intro h0
        rcases e3 with e3 | ⟨b,o',n',e3,_⟩
        · exact e3
        · rw [h0] at e3; cases e3
       split at hn <;> cases hn
       · refine ⟨ad.isNone, ?_,go _ (by simp [binOp,JO hu])⟩
         cases ad with
         | none=>exact .inr (hlen rfl)
         | some _=>exact .inl rfl
       · refine ⟨!ad.isNone, ?_,go _ (by simp [binOp,JO hu])⟩
         cases ad with
         | none=>exact .inr (hlen rfl)
         | some _=>exact .inl rfl
     · cases hn
   · cases hn
 · cases hn
def xK (T:gC S) (dq:List Deferred) (Z:Act→Prop):Prop:=
 ∀ f ops,T.dc=some (f,ops)→ ∀ a,Z a→dq= [⟨.fn (.func f) #[],(ops.map a.eval).toArray⟩]
theorem UG (h:Inv P S w0 M0 s0 dq env a w μ) {x y:Operand} (hs:Ek S env.tm x y=true):a.eval x=a.eval y:=by
 unfold Ek at hs
 split at hs
 · rw [Bool.and_eq_true,decide_eq_true_eq,decide_eq_true_eq] at hs
   rw [hs.1,hs.2]
 · rename_i t u
   split at hs
   · rename_i b o b' o' h1 h2
     rw [Bool.and_eq_true] at hs
     have e1:=Nat.eq_of_beq_eq_true hs.1
     have e2:=Nat.eq_of_beq_eq_true hs.2
     have r1:=h.jE t
     have r2:=h.jE u
     rw [h1] at r1
     rw [h2] at r2
     have r1:a.tmps.getD t undef=_:=r1
     have r2:a.tmps.getD u undef=_:=r2
     show a.tmps.getD t undef=a.tmps.getD u undef
     rw [r1,r2,e1,e2]
   · cases hs
 · cases hs
theorem JU (h:Inv P S w0 M0 s0 dq env a w μ): ∀ {xs ys:List Operand},AG S env.tm xs ys=true→xs.map a.eval=ys.map a.eval
 | [],[],_=>rfl
 | x::xs,y::ys,hs=>by
  simp only [AG,Bool.and_eq_true] at hs
  rw [List.map_cons,List.map_cons,UG h hs.1,JU h hs.2]
 | [],_::_,h=>by cases h
 | _::_,[],h=>by cases h
theorem NG (h:Inv P S w0 M0 s0 dq env a w μ) {Z:Act→Prop} (hD:xK T dq Z) (hN:Z a) {o:Oper} (hd: ∀ d,o.dst=some d→d<a.tmps.size) (hi:y7 o.op=true) (hdf:env.df=false) (hk:yf S env.tm T.dc o.op=true)
 {K:Act→World→Prop} {Q:Exit→Act→World→Prop} (hK: ∀ ds,Inv P S w0 M0 s0 dq { env.apply o.dst .skip [] with df:=true } (({ a with defers:=ds } :Act).put o.dst undef) w μ→K (({ a with defers:=ds } :Act).put o.dst undef) w):o.wp P a w K Q:=by
 cases ho:o.op <;> rw [ho] at hi <;> try (cases hi; done)
 rename_i c
 rw [ho] at hk
 obtain ⟨callee,args,tys⟩:=c
 cases callee with
 | builtin b=>cases hk
 | invoke r n=>cases hk
 | value fo=>
  cases fo with
  | func f=>
   unfold yf at hk
   cases hdc:T.dc with
   | none=>rw [hdc] at hk; cases hk
   | some p=>
    obtain ⟨g,ops⟩:=p
    rw [hdc] at hk
    dsimp only at hk
    rw [Bool.and_eq_true] at hk
    have hfg:=Nat.eq_of_beq_eq_true hk.1
    subst hfg
    have hq:=hD f ops hdc a hN
    have hargs:(ops.map a.eval).toArray=args.map a.eval:=by
     rw [← JU h hk.2]
     apply Array.ext'
     simp
    have h0:a.defers= []:=by rw [h.sO,hdf]; rfl
    unfold Oper.wp
    have hrun:(execOp a.eval o).run P w= .ok (.defer ⟨.fn (.func f) #[],args.map a.eval⟩) w:=by
     unfold execOp
     simp only [ho]
     simp [resolve,Deferred.ofValue,Act.eval]
    rw [hrun]
    show K _ _
    refine hK _ ?_
    have hs:=h.skip hd
    refine ⟨?_,hs.cg,hs.dr,hs.own,hs.ref,hs.kL,hs.gY, ?_,hs.qv⟩
    · intro t
      have :=hs.jE t
      cases Hf:o.dst <;> rw [Hf] at this <;> exact this
    · rw [hargs] at hq
      cases Hf:o.dst <;> (show (_::a.defers)=dq; rw [h0,hq])
  | _=>cases hk
theorem rO (hP:aV P S ak) (hT: ∀ e ∈ T.es,oz P S w0 M0 e) (hF: ∀ e ∈ T.fs,fq P S e) {R:Type} {cR:Nat} {ops:Array Oper} {ep:Array Nat} {draw:Bool} {k:Env S.C→Option R} {r:R} {Z:Act→Prop} {Q:Exit→Act→World→Prop}
 (hZ:xL ops Z) (hD:xK T dq Z) (hQ: ∀ env' a' w' μ',k env'=some r→Inv P S w0 M0 s0 dq env' a' w' μ'→Z a'→Q .normal a' w'):
 ∀ (l:List Oper) (n:Nat) (cZ:List (Nat×Option (List Nat×List Nat))) (env:Env S.C) (a:Act) (w:World) (μ:Nat→Loc),l=ops.toList.drop n→jA S T ak cR ops draw ep k l n cZ env=some r→
 Inv P S w0 M0 s0 dq env a w μ→Z a→wpOps P ops Q (List.range' n l.length) a w
 | [],n,cZ,env,a,w,μ,hl,hr,h,hN=>by
  simp only [jA] at hr
  cases hc:(!draw||(nD ops ep cZ&&xD ops)) with
  | false=>rw [hc] at hr; cases hr
  | true=>rw [hc] at hr; exact hQ env a w μ hr h hN
 | o::l,n,cZ,env,a,w,μ,hl,hr,h,hN=>by
  have eO:ops[n]? =some o:=by
   have :=congrArg (·[0]?) hl
   simp at this
   simpa using this.symm
  have hmem:o ∈ ops.toList:=by
   have :o ∈ ops.toList.drop n:=by rw [← hl]; simp
   exact List.mem_of_mem_drop this
  have hd: ∀ d,o.dst=some d→d<a.tmps.size:=hZ.dst a hN o hmem
  have hl':l=ops.toList.drop (n+1):=by
   rw [← List.drop_drop, ← hl]; rfl
  rw [List.length_cons,List.range'_succ,wpOps_cons]
  unfold wpOp
  rw [eO]
  dsimp only
  simp only [jA] at hr
  cases hw:nk S ops o env.tm with
  | none=>rw [hw] at hr; cases hr
  | some b=>
   rw [hw] at hr
   rw [EK h hw]
   cases b with
   | false=>
    rw [if_neg (by simp)]
    exact rO hP hT hF hZ hD hQ l (n+1) _ _ _ w μ hl' hr (h.skip hd) (hZ.put a hN o hmem undef a.defers)
   | true=>
    rw [if_pos rfl]
    left
    dsimp only at hr
    cases hdf:y7 o.op with
    | true=>
     rw [hdf] at hr
     dsimp only at hr
     cases hc:(draw||env.df|| !yf S env.tm T.dc o.op) with
     | true=>rw [hc] at hr; cases hr
     | false=>
      rw [hc,cond_false] at hr
      simp only [Bool.or_eq_false_iff,Bool.not_eq_false'] at hc
      exact NG h hD hN hd hdf hc.1.2 hc.2 fun ds hI=>rO hP hT hF hZ hD hQ l (n+1) _ _ _ w μ hl' hr hI (hZ.put a hN o hmem undef ds)
    | false=>
    rw [hdf] at hr
    dsimp only at hr
    cases hn:wC S o.op env.tm with
    | some p=>
     obtain ⟨m,v⟩:=p
     rw [hn] at hr
     cases lV:draw with
     | true=>rw [lV] at hr; cases hr
     | false=>
     rw [lV] at hr
     simp only [cond_false] at hr
     obtain ⟨x,Qy,PL⟩:=RX (Q:=Q) hP h hd hn
     have Pv:splitK S (v7 ops n) o.dst (env.apply o.dst (.d .bool x) []) (fun e=>jA S T ak cR ops false ep k l (n+1) ((n,some ([],[]))::cZ) e)=some r:=by
      by_cases hm:m=0
      · rw [if_pos hm] at hr
        obtain ⟨r1,r2⟩:=Mo hr
        cases x <;> cases v <;> first | exact r1 | exact r2
      · rw [if_neg hm] at hr
        rcases Qy with rfl | h0
        · exact hr
        · exact absurd h0 hm
     refine PL _ fun a' w' μ' hI ⟨v,d,hs⟩=> ?_
     rcases Eu Pv with ⟨_,h4⟩ | ⟨t,y,_,_,hk,h4⟩
     · exact rO hP hT hF hZ hD hQ l (n+1) _ _ a' w' μ' hl' h4 hI (hs▸hZ.put a hN o hmem v d)
     · exact rO hP hT hF hZ hD hQ l (n+1) _ _ a' w' μ' hl' h4 (hI.D6 hk) (hs▸hZ.put a hN o hmem v d)
    | none=>
    rw [hn] at hr
    obtain ⟨V,us,h1,h2,h3⟩:=Kf hr
    refine IF hP hT hF h hd h1 h2 fun a' w' μ' hI ⟨v,d,hs⟩=> ?_
    rcases Eu h3 with ⟨_,h4⟩ | ⟨t,x,_,_,hk,h4⟩
    · exact rO hP hT hF hZ hD hQ l (n+1) _ _ a' w' μ' hl' h4 hI (hs▸hZ.put a hN o hmem v d)
    · exact rO hP hT hF hZ hD hQ l (n+1) _ _ a' w' μ' hl' h4 (hI.D6 hk) (hs▸hZ.put a hN o hmem v d)
end
end Go.Sy
namespace Go.Sy
theorem MN (ops:List Oper): ∀ (acc:Array Nat), ∃ b:Array Nat,(ops.foldl (init:=acc) fun acc o=>acc.push (o.after.foldl (fun s e=>if Region.binds .any e then s ||| 2 ^ e.on ||| acc.getD e.on 0 else s) 0))=b∧
 (∀ j,j<acc.size→b.getD j 0=acc.getD j 0)∧b.size=acc.size+ops.length∧
 ∀ j o,ops[j]? =some o→ ∀ i,(b.getD (acc.size+j) 0).testBit i=true→ ∃ e ∈ o.after.toList,Region.binds .any e=true∧(e.on=i∨(e.on<acc.size+j∧(b.getD e.on 0).testBit i=true)):=by
 induction ops with
 | nil=>intro acc; exact ⟨acc,rfl,fun _ _=>rfl,rfl,fun j o h=>by simp at h⟩
 | cons o ops ih=>
  intro acc
  obtain ⟨b,h1,h2,h3,h4⟩:=ih (acc.push (o.after.foldl (fun s e=>if Region.binds .any e then s ||| 2 ^ e.on ||| acc.getD e.on 0 else s) 0))
  refine ⟨b,h1,fun j hj=> ?_,by rw [h3]; simp; omega,fun j o' hj i hi=> ?_⟩
  · rw [h2 j (by simp; omega)]
    simp only [Array.getD_eq_getD_getElem?]
    rw [Array.getElem?_push_lt hj]
    simp [hj]
  · cases j with
    | zero=>
     simp at hj
     subst hj
     rw [Nat.add_zero] at hi ⊢
     rw [h2 acc.size (by simp)] at hi
     simp only [Array.getD_eq_getD_getElem?,Array.getElem?_push_size,Option.getD_some] at hi
     rw [← Array.foldl_toList] at hi
     have : ∀ (l:List Edge) (s:Nat),(l.foldl (fun s e=>if Region.binds .any e then s ||| 2 ^ e.on ||| (acc[e.on]?.getD 0) else s) s).testBit i=true→s.testBit i=true∨ ∃ e ∈ l,Region.binds .any e=true∧(e.on=i∨(acc[e.on]?.getD 0).testBit i=true):=by
      intro l
      induction l with
      | nil=>intro s h; exact .inl h
      | cons e l ih2=>
       intro s h
       rcases ih2 _ h with h | ⟨e',he',h⟩
       · dsimp only at h
         by_cases hb:Region.binds .any e=true
         · rw [if_pos hb,Nat.testBit_or,Nat.testBit_or,Bool.or_eq_true,Bool.or_eq_true,Nat.testBit_two_pow] at h
           rcases h with (h | h) | h
           · exact .inl h
           · exact .inr ⟨e,by simp,hb, .inl (by simpa using h)⟩
           · exact .inr ⟨e,by simp,hb, .inr h⟩
         · rw [if_neg hb] at h; exact .inl h
       · exact .inr ⟨e',by simp [he'],h⟩
     rcases this _ _ hi with h | ⟨e,he,hb,h⟩
     · simp at h
     · refine ⟨e,he,hb,h.imp id fun h=> ?_⟩
       have hlt:e.on<acc.size:=by
        rcases Nat.lt_or_ge e.on acc.size with hlt | hge
        · exact hlt
        · rw [Array.getElem?_eq_none hge] at h; simp at h
       refine ⟨hlt, ?_⟩
       rw [h2 e.on (by simp; omega)]
       simp only [Array.getD_eq_getD_getElem?]
       rw [Array.getElem?_push_lt hlt]
       simpa [hlt] using h
    | succ j=>
     have hs:(acc.push (o.after.foldl (fun s e=>if Region.binds .any e then s ||| 2 ^ e.on ||| acc.getD e.on 0 else s) 0)).size+j=acc.size+(j+1):=by simp; omega
     have :=h4 j o' (by simpa using hj) i (by rw [hs]; exact hi)
     rw [hs] at this
     exact this
theorem Fz {ops:Array Oper} {j:Nat} {o:Oper} (hj:ops[j]? =some o) {i:Nat} (hi:((Region.before ops).getD j 0).testBit i=true):
 ∃ e ∈ o.after.toList,Region.binds .any e=true∧(e.on=i∨(e.on<j∧((Region.before ops).getD e.on 0).testBit i=true)):=by
 obtain ⟨b,h1,h2,h3,h4⟩:=MN ops.toList #[]
 have hb:Region.before ops=b:=by
  rw [← h1]
  unfold Region.before
  rw [← Array.foldl_toList]
 rw [hb] at hi ⊢
 have :=h4 j o (by simpa using hj) i (by simpa using hi)
 simpa using this
def uM (ops:Array Oper) (D:Nat→Bool):Prop:= ∀ j o,D j=true→ops[j]? =some o→ ∀ e ∈ o.after.toList,Region.binds .any e=true→D e.on=true
theorem uM.before {ops:Array Oper} {D:Nat→Bool} (h:uM ops D) (hn: ∀ j,D j=true→j<ops.size): ∀ (j i:Nat),D j=true→((Region.before ops).getD j 0).testBit i=true→D i=true:=by
 intro j
 induction j using Nat.strongRecOn with
 | _ j ih=>
  intro i hj hi
  have hlt:=hn j hj
  obtain ⟨e,he,hb,h1⟩:=Fz (ops:=ops) (j:=j) (o:=ops[j]) (by simp [hlt]) hi
  have :=h j ops[j] hj (by simp [hlt]) e he hb
  rcases h1 with rfl | ⟨h1,h2⟩
  · exact this
  · exact ih e.on h1 i this h2
theorem To {ops:Array Oper} {D:Nat→Bool} (h:uM ops D) (hn: ∀ j,D j=true→j<ops.size) {j:Nat} {o:Oper} (hj:ops[j]? =some o) (hr: ∀ e ∈ o.after.toList,Region.binds .any e=true→D e.on=true) {i:Nat}
 (hi:((Region.before ops).getD j 0).testBit i=true):D i=true:=by
 obtain ⟨e,he,hb,h1⟩:=Fz hj hi
 rcases h1 with rfl | ⟨h1,h2⟩
 · exact hr e he hb
 · exact h.before hn e.on i (hr e he hb) h2
def cnt (D:Nat→Bool):Nat→Nat
 | 0=>0
 | n+1=>cnt D n+cond (D n) 0 1
theorem FN {D:Nat→Bool} {i:Nat} : ∀ {n:Nat},n≤i→cnt (au D i true) n=cnt D n
 | 0,_=>rfl
 | n+1,h=>by
  simp only [cnt]
  rw [FN (by omega),bg _ _ (by omega)]
theorem FO {D:Nat→Bool} {i:Nat} (hi:D i=false): ∀ {n:Nat},i<n→cnt (au D i true) n+1=cnt D n
 | 0,h=>by omega
 | n+1,h=>by
  simp only [cnt]
  by_cases e:i=n
  · subst e
    rw [FN (Nat.le_refl _),aR,hi]
    rfl
  · rw [bg _ _ (Ne.symm e)]
    have :=FO hi (n:=n) (by omega)
    omega
theorem FP {D:Nat→Bool} : ∀ {n:Nat},cnt D n=0→ ∀ i,i<n→D i=true
 | 0,_,i,h=>by omega
 | n+1,hc,i,h=>by
  simp only [cnt] at hc
  by_cases e:i=n
  · subst e
    cases hd:D i with
    | true=>rfl
    | false=>rw [hd] at hc; simp at hc
  · exact FP (D:=D) (n:=n) (by omega) i (by omega)
end Go.Sy
namespace Go.Sy
section
variable {P:Program} {S:aS} {ak:Nat→Nat} {T:gC S}
theorem mapM_congr {α β:Type} {f g:α→Option β} : ∀ {l:List α},(∀ x ∈ l,f x=g x)→l.mapM f=l.mapM g
 | [],_=>rfl
 | x::l,h=>by
  rw [List.mapM_cons,List.mapM_cons,h x (by simp),mapM_congr fun y hy=>h y (by simp [hy])]
theorem R8 {B:Nat} {o:Op} {ty:Nat} {tm mw:Nat→V S.C} {bx:Bx S.C} (h: ∀ x ∈ o.operands.toList,aO S tm x=aO S mw x):cP S T ak B o ty tm bx=cP S T ak B o ty mw bx:=by
 have h1: ∀ x,o.operands.toList= [x]→aO S tm x=aO S mw x:=fun x e=>h x (by rw [e]; simp)
 cases o with
 | move x=>simp only [cP,h1 x (by simp [Op.operands])]
 | assign x=>simp only [cP,h1 x (by simp [Op.operands])]
 | pick c x y=>simp only [cP,h c (by simp [Op.operands]),h x (by simp [Op.operands]),h y (by simp [Op.operands])]
 | alloc t=>rfl
 | box t x=>simp only [cP,h1 x (by simp [Op.operands])]
 | build t ps=>
  simp only [cP]
  rw [mapM_congr (l:=ps.toList) fun p hp=>by rw [h p.2 (by simp only [Op.operands]; exact List.mem_map.2 ⟨p,hp,rfl⟩)]]
 | buildSlice t len ps=>
  simp only [cP]
  rw [mapM_congr (l:=ps.toList) fun p hp=>by rw [h p.2 (by simp only [Op.operands]; exact List.mem_map.2 ⟨p,hp,rfl⟩)]]
 | load t x=>simp only [cP,h1 x (by simp [Op.operands])]
 | store t x y=>simp only [cP,h x (by simp [Op.operands]),h y (by simp [Op.operands])]
 | nilCheck x=>simp only [cP,h1 x (by simp [Op.operands])]
 | binOp op t x y t'=>
  have hx:=h x (by simp [Op.operands])
  have hy:=h y (by simp [Op.operands])
  by_cases e:y= .const .nilIface
  · subst e
    simp only [cP,hx]
  · rw [Dv e,Dv e,hx,hy]
 | unOp op t x=>simp only [cP,h1 x (by simp [Op.operands])]
 | convert s t x=>simp only [cP,h1 x (by simp [Op.operands])]
 | makeFunc fn first cs=>
  cases fn with
  | func f=>
   obtain ⟨l⟩:=first
   cases l with
   | nil=>
    simp only [cP]
    rw [mapM_congr (l:=cs.toList) fun x hx=>h x (by simpa [Op.operands] using hx)]
   | cons x r=>rfl
  | _=>rfl
 | makeSlice t x y=>simp only [cP,h x (by simp [Op.operands]),h y (by simp [Op.operands])]
 | slice t x lo hi m=>
  cases m with
  | some m=>
   cases lo with
   | none=>rfl
   | some lo=>
    cases hi with
    | none=>rfl
    | some hi=>simp only [cP,h x (by simp [Op.operands]),h lo (by simp [Op.operands]),h hi (by simp [Op.operands]),h m (by simp [Op.operands])]
  | none=>
   have e1:ju S tm lo=ju S mw lo:=by
    cases lo with
    | none=>rfl
    | some y=>simp only [ju]; rw [h y (by simp [Op.operands])]
   have e2:ju S tm hi=ju S mw hi:=by
    cases hi with
    | none=>rfl
    | some y=>simp only [ju]; rw [h y (by simp [Op.operands])]
   simp only [cP,h x (by simp [Op.operands]),e1,e2]
 | fieldAddr t x f=>simp only [cP,h1 x (by simp [Op.operands])]
 | field t x f=>simp only [cP,h1 x (by simp [Op.operands])]
 | indexAddr t x i=>simp only [cP,h x (by simp [Op.operands]),h i (by simp [Op.operands])]
 | index t x i=>simp only [cP,h x (by simp [Op.operands]),h i (by simp [Op.operands])]
 | extract x i=>simp only [cP,h1 x (by simp [Op.operands])]
 | call c=>
  obtain ⟨callee,ve,FR⟩:=c
  have ha:ve.toList.mapM (aO S tm)=ve.toList.mapM (aO S mw):=mapM_congr fun x hx=>h x (by simp only [Op.operands,Call.operands]; simp; right; simpa using hx)
  unfold cP
  dsimp only
  rw [ha]
  cases callee with
  | builtin b=>cases b <;> rfl
  | value f=>
   dsimp only
   rw [h f (by simp [Op.operands,Call.operands])]
  | invoke r n=>rfl
 | _=>rfl
theorem B5 {α β:Type} {f g:α→List β} : ∀ {l:List α},(∀ x ∈ l,f x=g x)→l.flatMap f=l.flatMap g
 | [],_=>rfl
 | x::l,h=>by rw [List.flatMap_cons,List.flatMap_cons,h x (by simp),B5 fun y hy=>h y (by simp [hy])]
theorem NF {bx ai:Bx S.C} {ids:List Nat} (h: ∀ i ∈ ids,ai i=bx i):deep S ai ids=deep S bx ids:=by
 unfold deep
 congr 1
 exact B5 fun i hi=>by rw [h i hi]
theorem OE {B:Nat} {o:Op} {tm mw:Nat→V S.C} {bx ai:Bx S.C} (h: ∀ x ∈ o.operands.toList,aO S mw x=aO S tm x) (hb: ∀ i ∈ (aF S T.vw B o tm bx).1,ai i=bx i):aF S T.vw B o mw ai=aF S T.vw B o tm bx:=by
 have hi:o.operands.toList.flatMap (tF S mw)=o.operands.toList.flatMap (tF S tm):=
  B5 fun x hx=>by unfold tF; rw [h x hx]
 have h1: ∀ x,o.operands.toList= [x]→aO S mw x=aO S tm x:=fun x e=>h x (by rw [e]; simp)
 cases o with
 | move x=>simp only [aF,h1 x (by simp [Op.operands])]
 | assign x=>simp only [aF,h1 x (by simp [Op.operands])]
 | call c=>
  obtain ⟨callee,ve,FR⟩:=c
  cases callee with
  | builtin b=>
   cases b with
   | len=>simp only [aF]; rw [hi]
   | _=>simp only [aF]; rw [hi]
  | value f=>
   simp only [aF]
   rw [hi,NF fun i hm=>hb i (by simp only [aF]; exact List.mem_append.2 (.inl (List.mem_append.2 (.inl hm))))]
  | invoke r n=>simp only [aF]; rw [hi]
 | _=>simp only [aF] <;> rw [hi]
structure dH (S:aS) where
 dst:Option Nat
 W:V S.C
 us:aI S.C
 fp:Option (List Nat×List Nat)
def dH.put (e:dH S) (env:Env S.C):Env S.C:=env.apply e.dst e.W e.us
def bX (D:Nat→Bool):List (dH S)→Nat→Env S.C→Env S.C
 | [],_,env=>env
 | e::es,n,env=>bX D es (n+1) (cond (D n) (e.put env) env)
def Spec (T:gC S) (ak:Nat→Nat) (cR:Nat) (ops:Array Oper) (env:Env S.C) (n:Nat) (o:Oper) (e:dH S):Prop:=
 e.dst=o.dst∧((nk S ops o env.tm=some false∧e.W= .skip∧e.us= []∧e.fp=none)∨
  (nk S ops o env.tm=some true∧e.fp=some (aF S T.vw (lI cR n o.dst) o.op env.tm env.bx)∧mP S env.bx (lI cR n o.dst) (aF S T.vw (lI cR n o.dst) o.op env.tm env.bx).2 e.us=true∧
   ∃ V,(cP S T ak (lI cR n o.dst) o.op o.type env.tm (restrict S env.bx (aF S T.vw (lI cR n o.dst) o.op env.tm env.bx).1)).leaf (V,e.us)∧
    (e.W=V∨ ∃ t x,o.dst=some t∧p5 V x∧e.W= .d .bool x)))
def sx (T:gC S) (ak:Nat→Nat) (cR:Nat) (ops:Array Oper):List Oper→Nat→Env S.C→List (dH S)→Prop
 | [],_,_,es=>es= []
 | o::l,n,env,es=> ∃ e r,es=e::r∧Spec T ak cR ops env n o e∧sx T ak cR ops l (n+1) (e.put env) r
def vv:List (dH S)→Nat→List (Nat×Option (List Nat×List Nat))→List (Nat×Option (List Nat×List Nat))
 | [],_,cZ=>cZ
 | e::es,n,cZ=>vv es (n+1) ((n,e.fp)::cZ)
theorem NU (es:List (dH S)) (n:Nat) (env:Env S.C): ∀ {D:Nat→Bool},(∀ i,n≤i→i<n+es.length→D i=true)→bX D es n env=es.foldl (fun env e=>e.put env) env:=by
 induction es generalizing n env with
 | nil=>intro D _; rfl
 | cons e es ih=>
  intro D h
  simp only [bX,List.foldl_cons]
  rw [h n (Nat.le_refl _) (by simp),cond_true]
  exact ih (n+1) _ fun i h1 h2=>h i (by omega) (by simp; omega)
theorem F_ (es:List (dH S)) (n:Nat) (env:Env S.C) {D:Nat→Bool} (h: ∀ i,n≤i→D i=false):bX D es n env=env:=by
 induction es generalizing n env with
 | nil=>rfl
 | cons e es ih=>
  simp only [bX]
  rw [h n (Nat.le_refl _),cond_false]
  exact ih (n+1) _ fun i hi=>h i (by omega)
theorem KR {α:Type} (f:Nat→α) (k:Nat) (v u:α):au (au f k v) k u=au f k u:=by
 funext i
 by_cases e:i=k
 · subst e; rw [aR,aR]
 · rw [bg _ _ e,bg _ _ e,bg _ _ e]
theorem z7 {R:Type} {cR:Nat} {ops:Array Oper} {ep:Array Nat} {draw:Bool} {k:Env S.C→Option R} {r:R} :
 ∀ (l:List Oper) (n:Nat) (cZ:List (Nat×Option (List Nat×List Nat))) (env:Env S.C),jA S T ak cR ops draw ep k l n cZ env=some r→
 draw=true→ ∃ es,sx T ak cR ops l n env es∧k (es.foldl (fun env e=>e.put env) env)=some r∧(draw=true→nD ops ep (vv es n cZ)=true∧xD ops=true)
 | [],n,cZ,env,hr,lV=>by
  simp only [jA] at hr
  cases hc:(!draw||(nD ops ep cZ&&xD ops)) with
  | false=>rw [hc] at hr; cases hr
  | true=>
   rw [hc] at hr
   refine ⟨[],rfl,hr,fun hd=> ?_⟩
   rw [hd] at hc
   simpa [vv] using hc
 | o::l,n,cZ,env,hr,lV=>by
  simp only [jA] at hr
  cases hw:nk S ops o env.tm with
  | none=>rw [hw] at hr; cases hr
  | some b=>
   rw [hw] at hr
   cases b with
   | false=>
    obtain ⟨es,h1,h2,h3⟩:=z7 l (n+1) _ _ hr lV
    exact ⟨⟨o.dst, .skip,[],none⟩::es,⟨_,_,rfl,⟨rfl, .inl ⟨hw,rfl,rfl,rfl⟩⟩,h1⟩,h2,h3⟩
   | true=>
    dsimp only at hr
    cases hdf:y7 o.op with
    | true=>rw [hdf,lV] at hr; cases hr
    | false=>
    rw [hdf] at hr
    dsimp only at hr
    cases hn:wC S o.op env.tm with
    | some p=>rw [hn,lV] at hr; cases hr
    | none=>
    rw [hn] at hr
    obtain ⟨V,us,h1,h2,h3⟩:=Kf hr
    rcases Eu h3 with ⟨_,h4⟩ | ⟨t,x,_,ht,hk,h4⟩
    · obtain ⟨es,g1,g2,g3⟩:=z7 l (n+1) _ _ h4 lV
      exact ⟨⟨o.dst,V,us,_⟩::es,⟨_,_,rfl,⟨rfl, .inr ⟨hw,rfl,h2,V,h1, .inl rfl⟩⟩,g1⟩,g2,g3⟩
    · have PT:p5 V x:=by
       have e:(env.apply o.dst V us).tm t=V:=by
        rw [ht]
        exact aR _ _ _
       rw [e] at hk
       exact hk
      have he:({ env.apply o.dst V us with tm:=au (env.apply o.dst V us).tm t (.d .bool x) } :Env S.C)=dH.put ⟨o.dst, .d .bool x,us,some (aF S T.vw (lI cR n o.dst) o.op env.tm env.bx)⟩ env:=by
       simp only [dH.put,Env.apply,ht,ux]
       rw [KR]
      rw [he] at h4
      obtain ⟨es,g1,g2,g3⟩:=z7 l (n+1) _ _ h4 lV
      exact ⟨_::es,⟨_,_,rfl,⟨rfl, .inr ⟨hw,rfl,h2,V,h1, .inr ⟨t,x,ht,PT,rfl⟩⟩⟩,g1⟩,g2,g3⟩
theorem sx.at {cR:Nat} {ops:Array Oper} : ∀ {l:List Oper} {n:Nat} {env:Env S.C} {es:List (dH S)},sx T ak cR ops l n env es→es.length=l.length∧ ∀ j o,l[j]? =some o→
 ∃ e,es[j]? =some e∧Spec T ak cR ops (bX (fun i=>Nat.blt i (n+j)) es n env) (n+j) o e
 | [],n,env,es,h=>by cases h; exact ⟨rfl,fun j o hj=>by simp at hj⟩
 | o::l,n,env,es,⟨e,r,he,h1,h2⟩=>by
  subst he
  obtain ⟨h3,h4⟩:=sx.at h2
  refine ⟨by simp [h3],fun j o' hj=> ?_⟩
  cases j with
  | zero=>
   simp at hj
   subst hj
   refine ⟨e,rfl, ?_⟩
   rw [F_ _ _ _ fun i hi=> ?_]
   · exact h1
   · cases hb:Nat.blt i (n+0) with
     | false=>rfl
     | true=>have :=Nat.le_of_ble_eq_true hb; omega
  | succ j=>
   obtain ⟨e',h5,h6⟩:=h4 j o' (by simpa using hj)
   refine ⟨e',by simpa using h5, ?_⟩
   simp only [bX]
   rw [show Nat.blt n (n+(j+1))=true from Nat.ble_eq_true_of_le (by omega),cond_true,show n+(j+1)=n+1+j from by omega]
   exact h6
def AY (ops:Array Oper) (ep:Array Nat) (i j:Nat) (fi fj:Option (List Nat×List Nat)):Prop:=
 (ep.getD j 0).testBit i=true∨(Oper.apart ops (ops.getD i default) (ops.getD j default)=true∧ ∀ a b,fi=some a→fj=some b→meets a b=false)
theorem Fm {ops:Array Oper} {ep:Array Nat} : ∀ (es:List (dH S)) (n:Nat) (cZ:List (Nat×Option (List Nat×List Nat))),nD ops ep (vv es n cZ)=true→
 (∀ i j ei ej,i<j→es[i]? =some ei→es[j]? =some ej→AY ops ep (n+i) (n+j) ei.fp ej.fp)∧(∀ p ∈ cZ, ∀ j ej,es[j]? =some ej→AY ops ep p.1 (n+j) p.2 ej.fp)∧nD ops ep cZ=true
 | [],n,cZ,h=>⟨fun i j ei ej _ h1=>by simp at h1,fun p _ j ej h1=>by simp at h1,h⟩
 | e::es,n,cZ,h=>by
  obtain ⟨h1,h2,h3⟩:=Fm es (n+1) ((n,e.fp)::cZ) h
  simp only [nD,Bool.and_eq_true] at h3
  have h4: ∀ p ∈ cZ,AY ops ep p.1 n p.2 e.fp:=fun p hp=>by
   have :=List.all_eq_true.1 h3.2 p hp
   rw [Bool.or_eq_true,Bool.and_eq_true] at this
   refine this.imp id fun h=>⟨h.1,fun a b ha hb=> ?_⟩
   have h2:=h.2
   rw [ha,hb] at h2
   simpa using h2
  refine ⟨fun i j ei ej hij hi hj=> ?_,fun p hp j ej hj=> ?_,h3.1⟩
  · cases j with
    | zero=>omega
    | succ j=>
     rw [show n+(j+1)=n+1+j from by omega]
     cases i with
     | zero=>
      simp at hi
      subst hi
      exact h2 (n,e.fp) (by simp) j ej (by simpa using hj)
     | succ i=>
      rw [show n+(i+1)=n+1+i from by omega]
      exact h1 i j ei ej (by omega) (by simpa using hi) (by simpa using hj)
  · cases j with
    | zero=>
     simp at hj
     subst hj
     exact h4 p hp
    | succ j=>
     rw [show n+(j+1)=n+1+j from by omega]
     exact h2 p (by simp [hp]) j ej (by simpa using hj)
theorem tK {e:dH S} {env:Env S.C} {t:Nat} (h:e.dst≠some t):(e.put env).tm t=env.tm t:=by
 unfold dH.put Env.apply ux
 cases hd:e.dst with
 | none=>rfl
 | some d=>exact bg _ _ fun he=>h (by rw [hd,he])
theorem tL {e:dH S} {env:Env S.C} {t:Nat} (h:e.dst=some t):(e.put env).tm t=e.W:=by
 unfold dH.put Env.apply ux
 rw [h]
 exact aR _ _ _
theorem wI {e:dH S} {env:Env S.C} {b:Nat} (h: ∀ u ∈ e.us,u.1≠b):(e.put env).bx b=env.bx b:=uH _ _ h
theorem Ga {D D':Nat→Bool} {t:Nat} : ∀ {es:List (dH S)} {n:Nat} {env env':Env S.C},env.tm t=env'.tm t→(∀ i e,es[i]? =some e→e.dst=some t→D (n+i)=D' (n+i))→(bX D es n env).tm t=(bX D' es n env').tm t
 | [],_,_,_,h,_=>h
 | e::es,n,env,env',h,hd=>by
  refine Ga (es:=es) (n:=n+1) ?_ fun i e' hi he=>by
   have :=hd (i+1) e' (by simpa using hi) he
   rw [show n+1+i=n+(i+1) from by omega]; exact this
  by_cases he:e.dst=some t
  · have :=hd 0 e rfl he
    rw [Nat.add_zero] at this
    rw [this]
    cases D' n with
    | true=>rw [cond_true,cond_true,tL he,tL he]
    | false=>exact h
  · cases D n <;> cases D' n <;> simp only [cond_true,cond_false,tK he] <;> exact h
theorem F9 {D D':Nat→Bool} {b:Nat} : ∀ {es:List (dH S)} {n:Nat} {env env':Env S.C},env.bx b=env'.bx b→(∀ i e,es[i]? =some e→(∃ u ∈ e.us,u.1=b)→D (n+i)=D' (n+i))→(bX D es n env).bx b=(bX D' es n env').bx b
 | [],_,_,_,h,_=>h
 | e::es,n,env,env',h,hd=>by
  refine F9 (es:=es) (n:=n+1) ?_ fun i e' hi he=>by
   have :=hd (i+1) e' (by simpa using hi) he
   rw [show n+1+i=n+(i+1) from by omega]; exact this
  by_cases he: ∃ u ∈ e.us,u.1=b
  · have :=hd 0 e rfl he
    rw [Nat.add_zero] at this
    rw [this]
    cases D' n with
    | true=>exact (pU e.us h.symm).symm
    | false=>exact h
  · have he: ∀ u ∈ e.us,u.1≠b:=fun u hu e'=>he ⟨u,hu,e'⟩
    cases D n <;> cases D' n <;> simp only [cond_true,cond_false,wI he] <;> exact h
theorem Env.ext' {e e':Env S.C} (h1: ∀ t,e.tm t=e'.tm t) (h2: ∀ b,e.bx b=e'.bx b) (h3:e.df=e'.df):e=e':=by
 cases e; cases e'
 congr
 · funext t; exact h1 t
 · funext b; exact h2 b
theorem NV {D:Nat→Bool} {es:List (dH S)} {j:Nat} {ej:dH S} {env:Env S.C} (hj:es[j]? =some ej) (hD:D j=false)
 (vM: ∀ i e,j<i→es[i]? =some e→D i=true→(∀ t,ej.dst=some t→e.dst≠some t)∧ ∀ u ∈ ej.us, ∀ u' ∈ e.us,u'.1≠u.1):
 bX (au D j true) es 0 env=ej.put (bX D es 0 env):=by
 have PZ: ∀ (es:List (dH S)) (n:Nat) (env:Env S.C),(∀ i e,es[i]? =some e→D (n+i)=true→(∀ t,ej.dst=some t→e.dst≠some t)∧ ∀ u ∈ ej.us, ∀ u' ∈ e.us,u'.1≠u.1)→bX D es n (ej.put env)=ej.put (bX D es n env):=by
  intro es
  induction es with
  | nil=>intro n env _; rfl
  | cons e es ih=>
   intro n env h
   simp only [bX]
   rw [← ih (n+1) _ fun i e' hi hd=>by
    have :=h (i+1) e' (by simpa using hi)
    rw [show n+(i+1)=n+1+i from by omega] at this
    exact this hd]
   congr 1
   cases hn:D n with
   | false=>rfl
   | true=>
    simp only [cond_true]
    obtain ⟨c1,c2⟩:=h 0 e rfl (by rw [Nat.add_zero]; exact hn)
    refine Env.ext' (fun t=> ?_) (fun b=> ?_) rfl
    · by_cases h1:ej.dst=some t
      · rw [tK (c1 t h1),tL h1,tL h1]
      · rw [tK h1]
        by_cases h2:e.dst=some t
        · rw [tL h2,tL h2]
        · rw [tK h2,tK h2,tK h1]
    · by_cases h1: ∃ u ∈ ej.us,u.1=b
      · obtain ⟨u,hu,rfl⟩:=h1
        have h2: ∀ u' ∈ e.us,u'.1≠u.1:=c2 u hu
        rw [wI h2]
        exact pU ej.us (wI h2).symm
      · have h1: ∀ u ∈ ej.us,u.1≠b:=fun u hu e'=>h1 ⟨u,hu,e'⟩
        rw [wI h1]
        exact pU e.us (wI h1)
 have key: ∀ (es:List (dH S)) (n:Nat) (env:Env S.C),n≤j→es[j - n]? =some ej→(∀ i e,j<n+i→es[i]? =some e→D (n+i)=true→(∀ t,ej.dst=some t→e.dst≠some t)∧ ∀ u ∈ ej.us, ∀ u' ∈ e.us,u'.1≠u.1)→
  bX (au D j true) es n env=ej.put (bX D es n env):=by
  intro es
  induction es with
  | nil=>intro n env _ h; simp at h
  | cons e es ih=>
   intro n env hn h hl
   simp only [bX]
   by_cases e':n=j
   · subst e'
     rw [Nat.sub_self] at h
     simp at h
     subst h
     rw [aR,hD,cond_true,cond_false]
     rw [← PZ es (n+1) env fun i e hi hd=>hl (i+1) e (by omega) (by simpa using hi) (by rw [show n+(i+1)=n+1+i from by omega]; exact hd)]
     have : ∀ (es:List (dH S)) (m:Nat) (env:Env S.C),n<m→bX (au D n true) es m env=bX D es m env:=by
      intro es
      induction es with
      | nil=>intro m env _; rfl
      | cons e es ih=>
       intro m env hm
       simp only [bX]
       rw [bg _ _ (by omega)]
       exact ih (m+1) _ (by omega)
     exact this es (n+1) _ (by omega)
   · rw [bg _ _ e']
     refine ih (n+1) _ (by omega) ?_ fun i e hi he hd=>hl (i+1) e (by omega) (by simpa using he) (by rw [show n+(i+1)=n+1+i from by omega]; exact hd)
     rw [show j - n=(j - (n+1))+1 from by omega] at h
     simpa using h
 exact key es 0 env (Nat.zero_le _) (by simpa using hj) fun i e hi he hd=>vM i e (by omega) he (by simpa using hd)
end
end Go.Sy
namespace Go.Sy
section
variable {P:Program} {S:aS} {ak:Nat→Nat} {T:gC S}
variable {w0:World} {M0 s0:St} {dq:List Deferred}
theorem we {a b:List Nat} (h:v_ a b=false) {x:Nat} (h1:x ∈ a) (h2:x ∈ b):False:=by
 have :v_ a b=true:=List.any_eq_true.2 ⟨x,h1,List.contains_iff_mem.2 h2⟩
 rw [h] at this; cases this
theorem Ig {B:Nat} {fp:List Nat} {bx:Bx S.C} {us:aI S.C} (h:mP S bx B fp us=true): ∀ u ∈ us,u.1 ∈ fp:=fun u hu=>by
 have :=List.all_eq_true.1 h u hu
 rw [Bool.and_eq_true] at this
 exact List.contains_iff_mem.1 this.1
theorem Ri {B:Nat} {fp:List Nat} {bx ai:Bx S.C} {us:aI S.C} (h:mP S bx B fp us=true) (hb: ∀ i ∈ fp,ai i=bx i):mP S ai B fp us=true:=by
 refine List.all_eq_true.2 fun u hu=> ?_
 have h1:=List.all_eq_true.1 h u hu
 rw [hb u.1 (Ig h u hu)]
 exact h1
theorem Ua {bx ai:Bx S.C} {ids:List Nat} (hb: ∀ i ∈ ids,ai i=bx i):restrict S ai ids=restrict S bx ids:=by
 funext i
 unfold restrict
 cases e:ids.contains i with
 | true=>exact hb i (List.contains_iff_mem.1 e)
 | false=>rfl
theorem T7 (hP:aV P S ak) (hT: ∀ e ∈ T.es,oz P S w0 M0 e) (hF: ∀ e ∈ T.fs,fq P S e) {R:Type} {cR:Nat} {ops:Array Oper} {k:Env S.C→Option R} {r:R} {Z:Act→Prop} {Q:Exit→Act→World→Prop}
 (hZ:xL ops Z) (hQ: ∀ env' a' w' μ',k env'=some r→Inv P S w0 M0 s0 dq env' a' w' μ'→Z a'→Q .normal a' w')
 {dJ:Env S.C} {es:List (dH S)} (Qj:sx T ak cR ops ops.toList 0 dJ es) (hk:k (es.foldl (fun env e=>e.put env) dJ)=some r) (hap:nD ops (Region.before ops) (vv es 0 [])=true) (CS:xD ops=true):
 ∀ (fuel:Nat) (listed:Array Bool) (a:Act) (w:World) (μ:Nat→Loc),listed.size=ops.size→uM ops (fun i=>listed.getD i false)→Inv P S w0 M0 s0 dq (bX (fun i=>listed.getD i false) es 0 dJ) a w μ→Z a→
  cnt (fun i=>listed.getD i false) ops.size≤fuel→wpAny P .any ops Q fuel listed a w:=by
 obtain ⟨hlen,cG⟩:=Qj.at
 have hlen:es.length=ops.size:=by rw [hlen]; simp
 have HG:=(Fm es 0 [] hap).1
 have eO: ∀ (j:Nat) (o:Oper),ops[j]? =some o→ops.getD j default=o:=fun j o h=>by
  rw [Array.getD_eq_getD_getElem?,h]; rfl
 have hspec: ∀ (j:Nat) (o:Oper),ops[j]? =some o→ ∃ e,es[j]? =some e∧Spec T ak cR ops (bX (fun i=>Nat.blt i j) es 0 dJ) j o e:=fun j o h=>by
  have :=cG j o (by simpa using h)
  simpa using this
 have nJ: ∀ (j:Nat) (e:dH S),es[j]? =some e→ ∃ o,ops[j]? =some o∧e.dst=o.dst∧ ∀ u ∈ e.us, ∃ f,e.fp=some f∧u.1 ∈ f.2:=fun j e h=>by
  have hj:j<ops.size:=by rw [← hlen]; exact (List.getElem?_eq_some_iff.1 h).1
  obtain ⟨e',h1,h2,h3⟩:=hspec j ops[j] (by simp [hj])
  rw [h] at h1
  cases h1
  refine ⟨ops[j],by simp [hj],h2,fun u hu=> ?_⟩
  rcases h3 with ⟨_,_,h3,_⟩ | ⟨_,h3,h4,_⟩
  · rw [h3] at hu; simp at hu
  · exact ⟨_,h3,Ig h4 u hu⟩
 have CS: ∀ (j:Nat) (o:Oper),ops[j]? =some o→ ∀ e ∈ o.after.toList,Region.binds .any e=true→e.on<j:=fun j o h e he hb=>by
  have h1:=List.all_eq_true.1 CS (o,j) (List.mem_zipIdx_iff_getElem?.2 (by simpa using h))
  have h2:=List.all_eq_true.1 h1 e he
  rw [hb] at h2
  exact Nat.le_of_ble_eq_true h2
 have Pg: ∀ (listed:Array Bool),listed.size=ops.size→Region.ready .any ops listed= []→ ∀ i,i<ops.size→listed.getD i false=true:=by
  intro listed hsz hr i
  induction i using Nat.strongRecOn with
  | _ i ih=>
   intro hi
   cases hd:listed.getD i false with
   | true=>rfl
   | false=>
    exfalso
    have :i ∈ Region.ready .any ops listed:=by
     unfold Region.ready
     refine List.mem_filter.2 ⟨List.mem_range.2 hi, ?_⟩
     have h1:listed.getD i true=false:=by
      rw [Array.getD_eq_getD_getElem?] at hd ⊢
      have hi':i<listed.size:=by omega
      simp [hi'] at hd ⊢
      exact hd
     rw [h1]
     simp only [Bool.not_false,Bool.true_and]
     rw [show ops[i]? =some ops[i] from by simp [hi]]
     simp only [Option.map_some,Option.getD_some]
     rw [← Array.all_toList]
     refine List.all_eq_true.2 fun e he=> ?_
     cases hb:Region.binds .any e with
     | false=>rfl
     | true=>
      have hlt:=CS i ops[i] (by simp [hi]) e he hb
      rw [ih e.on hlt (by omega)]
      rfl
    rw [hr] at this
    simp at this
 have G_: ∀ (listed:Array Bool) (a:Act) (w:World) (μ:Nat→Loc),Inv P S w0 M0 s0 dq (bX (fun i=>listed.getD i false) es 0 dJ) a w μ→Z a→(∀ i,i<ops.size→listed.getD i false=true)→Q .normal a w:=by
  intro listed a w μ hI hN hall
  rw [NU es 0 dJ fun i _ h2=>hall i (by omega)] at hI
  exact hQ _ a w μ hk hI hN
 intro fuel
 induction fuel with
 | zero=>
  intro listed a w μ hsz hcl hI hN hc
  have hall:=FP (Nat.le_zero.1 hc)
  refine ⟨?_,G_ listed a w μ hI hN hall⟩
  cases hr:Region.ready .any ops listed with
  | nil=>rfl
  | cons i r=>
   have hm:i ∈ Region.ready .any ops listed:=by rw [hr]; simp
   unfold Region.ready at hm
   obtain ⟨h1,h2⟩:=List.mem_filter.1 hm
   have hi:=List.mem_range.1 h1
   have :=hall i hi
   rw [Bool.and_eq_true] at h2
   rw [Array.getD_eq_getD_getElem?] at this h2
   have hi':i<listed.size:=by omega
   simp [hi'] at this h2
   rw [this] at h2
   simp at h2
 | succ fuel ih=>
  intro listed a w μ hsz hcl hI hN hc
  refine ⟨fun hr=>G_ listed a w μ hI hN (Pg listed hsz hr),fun i hi=> ?_⟩
  unfold Region.ready at hi
  obtain ⟨h1,h2⟩:=List.mem_filter.1 hi
  have hi:=List.mem_range.1 h1
  have hi':i<listed.size:=by omega
  rw [Bool.and_eq_true] at h2
  obtain ⟨h2,h3⟩:=h2
  have hD:listed.getD i false=false:=by
   rw [Array.getD_eq_getD_getElem?] at h2 ⊢
   simp [hi'] at h2 ⊢
   exact h2
  have ho:ops[i]? =some ops[i]:=by simp [hi]
  generalize ops[i]=o at ho
  rw [ho] at h3
  simp only [Option.map_some,Option.getD_some] at h3
  rw [← Array.all_toList] at h3
  have G0: ∀ e ∈ o.after.toList,Region.binds .any e=true→listed.getD e.on false=true:=fun e he hb=>by
   have :=List.all_eq_true.1 h3 e he
   rw [hb] at this
   exact this
  have hlt: ∀ j,listed.getD j false=true→j<ops.size:=fun j hj=>by
   rcases Nat.lt_or_ge j ops.size with h | h
   · exact h
   · rw [Array.getD_eq_getD_getElem?,Array.getElem?_eq_none (by omega)] at hj; cases hj
  have hmem:o ∈ ops.toList:=by
   have :=Array.mem_of_getElem? ho
   simpa using this
  obtain ⟨ei,yQ,yP,hsi⟩:=hspec i o ho
  have Hh: ∀ q eq,q<i→es[q]? =some eq→((∃ t,eq.dst=some t∧t ∈ o.looksAt ops)∨ ∃ f fi,ei.fp=some fi∧eq.fp=some f∧ ∃ b,b ∈ f.2∧(b ∈ fi.1∨b ∈ fi.2))→listed.getD q false=true:=by
   intro q eq hq heq hh
   obtain ⟨oq,g1,g2,_⟩:=nJ q eq heq
   have hp:=HG q i eq ei hq heq yQ
   rw [Nat.zero_add,Nat.zero_add] at hp
   rcases hp with hp | ⟨qT,jL⟩
   · exact To hcl hlt ho G0 hp
   · exfalso
     rw [eO q oq g1,eO i o ho] at qT
     rcases hh with ⟨t,t1,t2⟩ | ⟨f,fi,f1,f2,b,b1,b2⟩
     · exact (Oper.apart_spec qT).1 t (g2▸t1) t2
     · have hm:=jL f fi f2 f1
       unfold meets at hm
       simp only [Bool.or_eq_false_iff] at hm
       rcases b2 with b2 | b2
       · exact we hm.1.1 b1 b2
       · exact we hm.1.2 b1 b2
  have vM: ∀ q eq,i<q→es[q]? =some eq→listed.getD q false=true→Oper.apart ops o (ops.getD q default)=true∧ops.getD q default ∈ ops.toList∧eq.dst=(ops.getD q default).dst∧ ∀ f fi,ei.fp=some fi→eq.fp=some f→meets fi f=false:=by
   intro q eq hq heq hl
   obtain ⟨oq,g1,g2,_⟩:=nJ q eq heq
   have hp:=HG i q ei eq hq yQ heq
   rw [Nat.zero_add,Nat.zero_add] at hp
   rcases hp with hp | ⟨qT,jL⟩
   · have :=hcl.before hlt q i hl hp
     rw [hD] at this
     cases this
   · rw [eO i o ho] at qT
     refine ⟨qT, ?_,by rw [eO q oq g1]; exact g2,fun f fi h1 h2=>jL fi f h1 h2⟩
     rw [eO q oq g1]
     have :=Array.mem_of_getElem? g1
     simpa using this
  have oW: ∀ t,t ∈ o.looksAt ops→(bX (fun i=>listed.getD i false) es 0 dJ).tm t=(bX (fun q=>Nat.blt q i) es 0 dJ).tm t:=by
   intro t ht
   refine Ga rfl fun q eq heq hd=> ?_
   rw [Nat.zero_add]
   rcases Nat.lt_trichotomy q i with h | h | h
   · rw [Hh q eq h heq (.inl ⟨t,hd,ht⟩)]
     exact (Nat.ble_eq_true_of_le h).symm
   · subst h
     rw [hD]
     cases hb:Nat.blt q q with
     | false=>rfl
     | true=>exact absurd (Nat.le_of_ble_eq_true hb) (by omega)
   · have hf:Nat.blt q i=false:=by
      cases hb:Nat.blt q i with
      | false=>rfl
      | true=>exact absurd (Nat.le_of_ble_eq_true hb) (by omega)
     rw [hf]
     cases hl:listed.getD q false with
     | false=>rfl
     | true=>
      obtain ⟨a1,_,a2,_⟩:=vM q eq h heq hl
      exact absurd ht ((Oper.apart_spec a1).2.2 t (a2▸hd))
  have lU: ∀ fi,ei.fp=some fi→ ∀ b,(b ∈ fi.1∨b ∈ fi.2)→(bX (fun i=>listed.getD i false) es 0 dJ).bx b=(bX (fun q=>Nat.blt q i) es 0 dJ).bx b:=by
   intro fi Hl b hb
   refine F9 rfl fun q eq heq hd=> ?_
   rw [Nat.zero_add]
   obtain ⟨u,hu,rfl⟩:=hd
   obtain ⟨_,_,_,Cs⟩:=nJ q eq heq
   obtain ⟨f,tc,qP⟩:=Cs u hu
   rcases Nat.lt_trichotomy q i with h | h | h
   · rw [Hh q eq h heq (.inr ⟨f,fi,Hl,tc,u.1,qP,hb⟩)]
     exact (Nat.ble_eq_true_of_le h).symm
   · subst h
     rw [hD]
     cases hb:Nat.blt q q with
     | false=>rfl
     | true=>exact absurd (Nat.le_of_ble_eq_true hb) (by omega)
   · have hf:Nat.blt q i=false:=by
      cases hb:Nat.blt q i with
      | false=>rfl
      | true=>exact absurd (Nat.le_of_ble_eq_true hb) (by omega)
     rw [hf]
     cases hl:listed.getD q false with
     | false=>rfl
     | true=>
      exfalso
      obtain ⟨_,_,_,a3⟩:=vM q eq h heq hl
      have hm:=a3 f fi Hl tc
      unfold meets at hm
      simp only [Bool.or_eq_false_iff] at hm
      rcases hb with hb | hb
      · exact we hm.2 qP hb
      · exact we hm.1.2 hb qP
  have hev: ∀ x ∈ o.op.operands.toList,aO S (bX (fun i=>listed.getD i false) es 0 dJ).tm x=aO S (bX (fun q=>Nat.blt q i) es 0 dJ).tm x:=by
   intro x hx
   cases x with
   | tmp t=>exact congrArg some (oW t (List.mem_append.2 (.inl (List.mem_filterMap.2 ⟨.tmp t,hx,rfl⟩))))
   | _=>rfl
  have HO:nk S ops o (bX (fun i=>listed.getD i false) es 0 dJ).tm=nk S ops o (bX (fun q=>Nat.blt q i) es 0 dJ).tm:=by
   unfold nk
   split
   · rfl
   · rename_i j want hg
     split
     · rfl
     · rename_i t ht
       rw [oW t (List.mem_append.2 (.inr (by rw [hg]; simp [ht])))]
  have B9:(fun q=>(listed.setIfInBounds i true).getD q false)=au (fun q=>listed.getD q false) i true:=by
   funext q
   by_cases e:q=i
   · subst e
     rw [aR]
     simp [Array.getD_eq_getD_getElem?,hi']
   · rw [bg _ _ e]
     simp [Array.getD_eq_getD_getElem?,Array.getElem?_setIfInBounds_ne (Ne.symm e)]
  have yW:bX (fun q=>(listed.setIfInBounds i true).getD q false) es 0 dJ=ei.put (bX (fun i=>listed.getD i false) es 0 dJ):=by
   rw [B9]
   refine NV yQ hD fun q eq hq heq hl=> ?_
   obtain ⟨a1,_,a2,a3⟩:=vM q eq hq heq hl
   refine ⟨fun t ht=> ?_,fun u hu u' aN e=> ?_⟩
   · rw [a2]
     exact (Oper.apart_spec a1).2.1 t (yP▸ht)
   · obtain ⟨_,_,_,Cs⟩:=nJ q eq heq
     obtain ⟨_,_,_,PJ⟩:=nJ i ei yQ
     obtain ⟨f,tc,qP⟩:=Cs u' aN
     obtain ⟨fi,hi1,hi2⟩:=PJ u hu
     have hm:=a3 f fi hi1 tc
     unfold meets at hm
     simp only [Bool.or_eq_false_iff] at hm
     exact we hm.1.2 hi2 (e▸qP)
  have G6:uM ops (fun q=>(listed.setIfInBounds i true).getD q false):=by
   rw [B9]
   intro j oj hj CC e he hb
   by_cases e1:e.on=i
   · rw [e1,aR]
   · rw [bg _ _ e1]
     by_cases e2:j=i
     · subst e2
       rw [ho] at CC
       cases CC
       exact G0 e he hb
     · rw [bg _ _ e2] at hj
       exact hcl j oj hj CC e he hb
  have gH:cnt (fun q=>(listed.setIfInBounds i true).getD q false) ops.size≤fuel:=by
   rw [B9]
   have :=FO (D:=fun q=>listed.getD q false) hD (n:=ops.size) hi
   omega
  have hd: ∀ d,o.dst=some d→d<a.tmps.size:=hZ.dst a hN o hmem
  unfold wpOp
  rw [ho]
  dsimp only
  rcases hsi with ⟨s1,s2,s3,s4⟩ | ⟨s1,s2,s3,V,s4,s5⟩
  · rw [EK hI (HO.trans s1),if_neg (by simp)]
    refine ih _ _ w μ (by simp [hsz]) G6 ?_ (hZ.put a hN o hmem undef a.defers) gH
    rw [yW]
    have :ei.put (bX (fun i=>listed.getD i false) es 0 dJ)=(bX (fun i=>listed.getD i false) es 0 dJ).apply o.dst .skip []:=by
     unfold dH.put
     rw [s2,s3,yP]
    rw [this]
    exact hI.skip hd
  · rw [EK hI (HO.trans s1),if_pos rfl]
    left
    have hft:=OE (B:=lI cR i o.dst) hev fun b hb=>lU _ s2 b (.inl hb)
    have hlf:(cP S T ak (lI cR i o.dst) o.op o.type (bX (fun i=>listed.getD i false) es 0 dJ).tm (restrict S (bX (fun i=>listed.getD i false) es 0 dJ).bx (aF S T.vw (lI cR i o.dst) o.op (bX (fun i=>listed.getD i false) es 0 dJ).tm (bX (fun i=>listed.getD i false) es 0 dJ).bx).1)).leaf (V,ei.us):=by
     rw [hft,Ua fun b hb=>lU _ s2 b (.inl hb),R8 hev]
     exact s4
    refine IF hP hT hF hI hd hlf (by rw [hft]; exact Ri s3 fun b hb=>lU _ s2 b (.inr hb)) fun a' w' μ' yH ⟨v,d,hs⟩=> ?_
    refine ih _ a' w' μ' (by simp [hsz]) G6 ?_ (hs▸hZ.put a hN o hmem v d) gH
    rw [yW]
    rcases s5 with s5 | ⟨t,x,t1,t2,t3⟩
    · have :ei.put (bX (fun i=>listed.getD i false) es 0 dJ)=(bX (fun i=>listed.getD i false) es 0 dJ).apply o.dst V ei.us:=by
       unfold dH.put
       rw [s5,yP]
      rw [this]
      exact yH
    · have hkn:p5 (((bX (fun i=>listed.getD i false) es 0 dJ).apply o.dst V ei.us).tm t) x:=by
       have e:((bX (fun i=>listed.getD i false) es 0 dJ).apply o.dst V ei.us).tm t=V:=by
        rw [t1]; exact aR _ _ _
       rw [e]; exact t2
      have h4:=yH.D6 hkn
      have he:({ (bX (fun i=>listed.getD i false) es 0 dJ).apply o.dst V ei.us with tm:=au ((bX (fun i=>listed.getD i false) es 0 dJ).apply o.dst V ei.us).tm t (.d .bool x) } :Env S.C)=ei.put (bX (fun i=>listed.getD i false) es 0 dJ):=by
       unfold dH.put
       rw [yP,t1,t3]
       simp only [Env.apply,ux]
       rw [KR]
      rw [← he]
      exact h4
end
end Go.Sy
