import Derived.Laws.MakeOwn
import Derived.Great.BuildSlice
import Derived.Deep.Upon
import Derived.Laws.StructEq
import Derived.Stop.IfaceNil
import Derived.Laws.Entries
import Derived.Orders
import Derived.Test.YtabknfplmamfmaaGreatDoorSa
set_option linter.unusedVariables false
set_option linter.unusedSimpArgs false
namespace Go.Sy
section
variable {P:Program} {S:bf} {au:Nat→Nat}
variable {w0:World} {M0 s0:St} {dq:List Deferred} {env:Env S.C} {a:Act} {w:World} {μ:Nat→Loc} {K:Act→World→Prop} {Q:Exit→Act→World→Prop} {o:Oper} {V:V S.C} {us:aP S.C}
theorem oa {α β:Type} {f:α→Option β} {x:α} {r:List α} {ys:List β} (h:(x::r).mapM f=some ys): ∃ y zs,f x=some y∧r.mapM f=some zs∧ys=y::zs:=by
 rw [List.mapM_cons] at h
 cases hx:f x with
 | none=>rw [hx] at h; cases h
 | some y=>
  rw [hx] at h
  cases hr:r.mapM f with
  | none=>rw [hr] at h; cases h
  | some zs=>rw [hr] at h; cases h; exact ⟨y,zs,rfl,rfl,rfl⟩
def zq (P:Program) (S:bf) (w:World) (s:St) (μ:Nat→Loc) (bx:Bx S.C):List (Nat×Sy.V S.C)→List (Nat×Value)→Prop
 | [],qs=>qs= []
 | p::ps,qs=> ∃ v r,qs=(p.1,v)::r∧RV P S w s μ bx p.2 v∧zq P S w s μ bx ps r
theorem Gq (h:Inv P S w0 M0 s0 dq env a w μ): ∀ {parts:List (Nat×Operand)} {ps:List (Nat×Sy.V S.C)},parts.mapM (fun (p:Nat×Operand)=>(aX S env.tm p.2).map fun v=>(p.1,v))=some ps→
 zq P S w (aN S w0 M0 s0 env.bx μ w) μ env.bx ps (parts.map fun (i,x)=>(i,a.eval x))∧ ∀ p ∈ ps, ∃ x i,(i,x) ∈ parts∧aX S env.tm x=some p.2
 | [],ps,hp=>by cases hp; exact ⟨rfl,by simp⟩
 | (i,x)::r,ps,hp=>by
  obtain ⟨y,zs,h1,h2,rfl⟩:=oa hp
  obtain ⟨h3,h4⟩:=Gq h h2
  cases hx:aX S env.tm x with
  | none=>rw [hx] at h1; cases h1
  | some v=>
   rw [hx] at h1
   cases h1
   refine ⟨⟨a.eval x,_,rfl,(bI h hx).1,h3⟩,fun p hp=> ?_⟩
   rcases List.mem_cons.1 hp with rfl | hp
   · exact ⟨x,i,by simp,hx⟩
   · obtain ⟨x',i',h5,h6⟩:=h4 p hp
     exact ⟨x',i',by simp [h5],h6⟩
theorem zC (h:Inv P S w0 M0 s0 dq env a w μ): ∀ {xs:List Operand} {vs:List (Sy.V S.C)},xs.mapM (aX S env.tm)=some vs→
 fO P S w (aN S w0 M0 s0 env.bx μ w) μ env.bx vs (xs.map a.eval)∧ ∀ v ∈ vs, ∃ x ∈ xs,aX S env.tm x=some v
 | [],vs,hp=>by cases hp; exact ⟨rfl,by simp⟩
 | x::r,ps,hp=>by
  obtain ⟨y,zs,h1,h2,rfl⟩:=oa hp
  obtain ⟨h3,h4⟩:=zC h h2
  refine ⟨⟨a.eval x,_,rfl,(bI h h1).1,h3⟩,fun p hp=> ?_⟩
  rcases List.mem_cons.1 hp with rfl | hp
  · exact ⟨x,by simp,h1⟩
  · obtain ⟨x',h5,h6⟩:=h4 p hp
    exact ⟨x',by simp [h5],h6⟩
theorem Kl (off:Nat): ∀ (l:List Value) (k:Nat) (cells:Array Value),off+k+l.length≤cells.size→
 ((l.zipIdx k).foldl (fun cs p=>cs.setIfInBounds (off+p.2) p.1) cells).toList=cells.toList.take (off+k)++l++cells.toList.drop (off+k+l.length)
 | [],k,cells,h=>by simp
 | v::l,k,cells,h=>by
  simp only [List.zipIdx_cons,List.foldl_cons]
  simp only [List.length_cons] at h
  rw [Kl off l (k+1) _ (by simp; omega)]
  have hc:(cells.setIfInBounds (off+k) v).toList=cells.toList.set (off+k) v:=by simp
  have hlen:cells.toList.length=cells.size:=by simp
  rw [hc,show off+(k+1)=off+k+1 from rfl,List.drop_set_of_lt (by omega)]
  have ht:(cells.toList.set (off+k) v).take (off+k+1)=cells.toList.take (off+k)++ [v]:=by
   rw [List.take_add_one,List.take_set_of_le (Nat.le_refl _),List.getElem?_set_self (by omega)]
   rfl
  rw [ht,List.length_cons]
  simp [show off+k+1+l.length=off+k+(l.length+1) from by omega]
theorem Kh (place:Nat→Option (Nat×Nat)) {i off size:Nat} (hp:place i=some (off,size)) {v:Value} (hv:v.cells.size=size) {cells:Array Value} (hle:off+size≤cells.size) (rest:List (Nat×Value)):
 ∃ cells',cells'.toList=cells.toList.take off++v.cells.toList++cells.toList.drop (off+v.cells.toList.length)∧Instr.fill place cells ((i,v)::rest)=Instr.fill place cells' rest:=by
 refine ⟨v.cells.zipIdx.foldl (fun cs (c,j)=>cs.setIfInBounds (off+j) c) cells, ?_, ?_⟩
 · have :=Kl off v.cells.toList 0 cells (by simp; omega)
   simp only [Nat.add_zero] at this
   rw [← this]
   congr 1
   rw [← Array.foldl_toList]
   simp
 · simp only [Instr.fill,hp]
   rw [if_neg]
   simp only [hv]
   simp
   omega
theorem Kd (hS:cU S) {s:St} {bx:Bx S.C} {u:Nat} {place:Nat→Option (Nat×Nat)} (hp: ∀ f o T,S.eW u f=some (o,T)→place f=some (o,Ty.sz S T)):
 ∀ {ps:List (Nat×Sy.V S.C)} {qs:List (Nat×Value)} {vs vs':List (Sy.V S.C)} {cells:Array Value},zq P S w s μ bx ps qs→aO P S w s μ bx vs cells.toList→vs.all (bW S)=true→w_ S u vs ps=some vs'→
 ∃ cells',Instr.fill place cells qs=some cells'∧aO P S w s μ bx vs' cells'.toList∧vs'.all (bW S)=true∧vs'.length=vs.length∧ ∀ v ∈ vs',v ∈ vs∨ ∃ p ∈ ps, ∀ j ∈ aF S v,j ∈ aH S p.2
 | [],qs,vs,vs',cells,h1,h2,h3,h4=>by
  cases h1; cases h4
  exact ⟨cells,rfl,h2,h3,rfl,fun v hv=> .inl hv⟩
 | (i,W)::ps,qs,vs,vs',cells,⟨v,r,hq,hv,hr⟩,h2,h3,h4=>by
  subst hq
  simp only [w_] at h4
  split at h4
  · rename_i off T hf
    cases hc:fits S (cellsOf S W) (Ty.sz S T)&&Nat.ble (off+Ty.sz S T) vs.length with
    | false=>rw [hc] at h4; cases h4
    | true=>
     rw [hc,cond_true] at h4
     rw [Bool.and_eq_true] at hc
     obtain ⟨f1,f2⟩:=EC hc.1
     have f3:=Nat.le_of_ble_eq_true hc.2
     obtain ⟨c1,c2⟩:=Eb hS f2 hv
     have l1:=aO.length P S c1
     have l2:=aO.length P S h2
     obtain ⟨cells',e1,e2⟩:=Kh place (hp _ _ _ hf) (v:=v) (cells:=cells) (by rw [← f1, ← l1]; simp) (by rw [← l2] at f3; simpa using f3) r
     obtain ⟨Ea,g1,g2,g3,g4,g5⟩:=Kd hS hp (cells:=cells') hr (by rw [e1]; exact H9 h2 c1) (N_ h3 f2) h4
     refine ⟨Ea,by rw [e2]; exact g1,g2,g3,by rw [g4,Oa (by omega)],fun v hv=> ?_⟩
     rcases g5 v hv with hv | ⟨p,hp,hv⟩
     · rcases Ob hv with hv | hv
       · exact .inl hv
       · exact .inr ⟨(i,W),by simp,c2 v hv⟩
     · exact .inr ⟨p,by simp [hp],hv⟩
  · cases h4
theorem Q_ (hP:bh P S au) (h:Inv P S w0 M0 s0 dq env a w μ) (hd: ∀ d,o.dst=some d→d<a.tmps.size) {t:TypeId} {parts:Array (Nat×Operand)} (ho:o.op= .build t parts)
 (hl:(match S.ty t with
  | some (.st u)=>match parts.toList.mapM (fun (p:Nat×Operand)=>(aX S env.tm p.2).map fun v=>(p.1,v)) with
   | some ps=>match w_ S u (zeroCells S (.st u)) ps with
    | some vs=>aI S (.agg u vs) []
    | none=> .fail
   | none=> .fail
  | _=> .fail).leaf (V,us)) (hK:Goal P S w0 M0 s0 dq env a o.dst V us K):o.wp P a w K Q:=by
 split at hl
 · rename_i u ht
   split at hl
   · rename_i ps hps
     split at hl
     · rename_i vs hvs
       obtain ⟨rfl,rfl⟩:=bL hl
       obtain ⟨p1,p2⟩:=Gq h hps
       obtain ⟨⟨i,z,h1,h2,h3,h4,h5⟩,⟨hzz,Tf⟩,AE⟩:=hP.ty t _ ht
       obtain ⟨b0,hb0⟩:=Option.isSome_iff_exists.1 Tf
       obtain ⟨z1,z2,z3⟩:=O_ (P:=P) (w:=w) (μ:=μ) hP.tocU (s:=aN S w0 M0 s0 env.bx μ w) (bx:=env.bx) (.st u)
       have Tg: ∃ place:Nat→Option (Nat×Nat),(∀ qs,P.built t qs=Instr.fill place z.cells qs)∧ ∀ f o T,S.eW u f=some (o,T)→place f=some (o,Ty.sz S T):=by
        cases har:S.ar t with
        | some p=>
         rw [har] at AE
         obtain ⟨te,hu,hte,_,hfl⟩:=AE
         obtain ⟨⟨ie,ze,e1,e2,_⟩,_⟩:=hP.ty te _ hte
         refine ⟨fun i=>some (i*ie.size,ie.size),fun qs=> ?_,fun f o' T hf=> ?_⟩
         · unfold Program.built
           simp only [h1,hu,h3,e1]
         · obtain ⟨rfl,rfl,_⟩:=hfl f o' T hf
           simp [e2]
        | none=>
        rw [har] at AE
        obtain ⟨fs,hu,o7⟩:=AE
        unfold Program.built at hb0
        simp only [h1,hu,h3] at hb0
        cases hpl:fs.toList.mapM (fun f=>(P.info? f.type).map fun i=>(f.offset,i.size)) with
        | none=>rw [hpl] at hb0; cases hb0
        | some places=>
         refine ⟨(places.toArray[·]?),fun qs=> ?_,fun f o' T hf=> ?_⟩
         · unfold Program.built
           simp only [h1,hu,h3,hpl]
         · obtain ⟨fd,d1,d2,d3,d4,d5⟩:=o7 f o' T hf
           obtain ⟨⟨i',z',e1,e2,_⟩,_⟩:=hP.ty _ _ d3
           have fU: ∀ (l:List Field) (ys:List (Nat×Nat)) (k:Nat) (fd:Field),l.mapM (fun f=>(P.info? f.type).map fun i=>(f.offset,i.size))=some ys→l[k]? =some fd→ ∃ y,ys[k]? =some y∧(P.info? fd.type).map (fun i=>(fd.offset,i.size))=some y:=by
            intro l
            induction l with
            | nil=>intro ys k fd _ hk; simp at hk
            | cons x l ih=>
             intro ys k fd hys hk
             obtain ⟨y,zs,q1,q2,rfl⟩:=oa hys
             cases k with
             | zero=>simp at hk; subst hk; exact ⟨y,by simp,q1⟩
             | succ k=>
              obtain ⟨y',q3,q4⟩:=ih zs k fd q2 (by simpa using hk)
              exact ⟨y',by simpa using q3,q4⟩
           obtain ⟨y,q1,q2⟩:=fU fs.toList places f fd hpl (by simpa using d1)
           rw [e1] at q2
           simp at q2
           simp [q1, ← q2,d2,e2]
       obtain ⟨place,g1,g2⟩:=Tg
       obtain ⟨cells',k1,k2,k3,k4,k5⟩:=Kd hP.tocU g2 (cells:=z.cells) p1 (by rw [h5]; exact z1) z2 hvs
       refine wp_pure (V:= .agg u vs) h (v:= .agg cells') ?_ hd ⟨cells',rfl, ?_,k3,k2⟩ (fun j hj=> ?_) hK
       · unfold execOp
         simp only [ho]
         have :=run_build (P:=P) w t (parts.map fun (i,x)=>(i,a.eval x)) cells' (by rw [g1,Array.toList_map]; exact k1)
         simp [this]
       · rw [k4]; simp [zeroCells]
       · simp only [aH,List.mem_flatMap] at hj
         obtain ⟨v,hv,hj⟩:=hj
         rcases k5 v hv with hv | ⟨p,hp,hv⟩
         · rw [z3 v hv] at hj; simp at hj
         · obtain ⟨x,i',_,hx⟩:=p2 p hp
           exact (bI h hx).2 j (hv j hj)
     · exact hl.elim
   · exact hl.elim
 · exact hl.elim
end
end Go.Sy
namespace Go.Sy
section
variable {P:Program} {S:bf} {au:Nat→Nat}
variable {w0:World} {M0 s0:St} {dq:List Deferred} {env:Env S.C} {a:Act} {w:World} {μ:Nat→Loc} {K:Act→World→Prop} {Q:Exit→Act→World→Prop} {o:Oper} {V:V S.C} {us:aP S.C}
def cT (bx:Bx S.C) (us:aP S.C):Prop:= ∀ u ∈ us, ∃ e l,u.2= .bR e l∧bx u.1=some (.arr e l)
theorem cT.append {bx:Bx S.C} {us vs:aP S.C} (h1:cT bx us) (h2:cT bx vs):cT bx (us++vs):=fun u hu=>(List.mem_append.1 hu).elim (h1 u) (h2 u)
theorem cT.at {bx:Bx S.C} : ∀ {us:aP S.C} (aq:Bx S.C),cT bx us→ ∀ i,(aA aq us i=aq i∧ ∀ u ∈ us,u.1≠i)∨((∃ u ∈ us,u.1=i)∧ ∃ e l,bx i=some (.arr e l)∧aA aq us i=some (.bR e l))
 | [],aq,_,i=> .inl ⟨rfl,by simp⟩
 | u::us,aq,h,i=>by
  rcases cT.at (us:=us) (az aq u.1 (some u.2)) (fun v hv=>h v (by simp [hv])) i with ⟨h1,h2⟩ | ⟨⟨v,hv,h1⟩,h2⟩
  · by_cases e:u.1=i
    · right
      refine ⟨⟨u,by simp,e⟩, ?_⟩
      obtain ⟨e',l,h3,h4⟩:=h u (by simp)
      refine ⟨e',l,e▸h4, ?_⟩
      show aA (az aq u.1 (some u.2)) us i=_
      rw [h1, ← e,aZ,h3]
    · left
      refine ⟨?_,fun v hv=> ?_⟩
      · show aA (az aq u.1 (some u.2)) us i=_
        rw [h1,bA _ _ (Ne.symm e)]
      · rcases List.mem_cons.1 hv with rfl | hv
        · exact e
        · exact h2 v hv
  · exact .inr ⟨⟨v,by simp [hv],h1⟩,h2⟩
theorem cT.tk {bx:Bx S.C} {us US:aP S.C} (h:cT bx US) (hs: ∀ u ∈ us,u ∈ US):Tk S (aA bx us) (aA bx US):=by
 intro i
 have h0:cT bx us:=fun u hu=>h u (hs u hu)
 rcases cT.at bx h i with ⟨h1,h2⟩ | ⟨_,e,l,h1,h2⟩
 · rcases cT.at bx h0 i with ⟨h3,_⟩ | ⟨⟨u,hu,h3⟩,_⟩
   · exact .inl (h1.trans h3.symm)
   · exact absurd h3 (h2 u (hs u hu))
 · rcases cT.at bx h0 i with ⟨h3,_⟩ | ⟨_,e',l',h3,h4⟩
   · exact .inr (.inr ⟨e,l,h3.trans h1,h2⟩)
   · rw [h1] at h3; cases h3
     exact .inl (h2.trans h4.symm)
theorem cT.pV {bx:Bx S.C} {US:aP S.C} (h:cT bx US):Tk S bx (aA bx US):=cT.tk (us:= []) h (by simp)
theorem cT.cM (bx:Bx S.C) (V:Sy.V S.C):cT bx (cM S bx V):=by
 cases V with
 | aY b=>
  unfold Sy.cM
  dsimp only
  split
  · rename_i e l hb
    intro u hu
    simp at hu
    subst hu
    exact ⟨e,l,rfl,hb⟩
  · intro u hu; simp at hu
 | _=>intro u hu; simp [Sy.cM] at hu
theorem cT.dr (bx:Bx S.C) (V:Sy.V S.C):cT bx (dr S bx V):=by
 cases V with
 | agg u vs=>
  intro x hx
  simp only [Sy.dr,List.mem_flatMap] at hx
  obtain ⟨v,_,hx⟩:=hx
  exact cT.cM bx v x hx
 | aY b=>exact cT.cM bx (.aY b)
 | _=>intro u hu; simp [Sy.dr,Sy.cM] at hu
theorem Dh {aq:Bx S.C} (hk:Tk S env.bx aq):b7 w (cC S w0 M0 s0 env.bx aq μ w) w (aN S w0 M0 s0 aq μ w):=fun b o ⟨q1,q2,q3⟩=>
 ⟨⟨q1,q2,fun j hj=>by
  rcases q3 j ((eM S (hk.eg hj)).1 hj) with ⟨_,_,hq⟩ | hq
  · unfold live at hj; rw [hq] at hj; exact hj.elim
  · exact hq⟩,rfl⟩
def c_ (w:World) (s:St) (e:Ty) (l:List (e.den S.C)) (cs:List Value):Prop:=
 cs.length=l.length*Ty.sz S e∧ ∀ i x,l[i]? =some x→ ∃ n,aJ S w s n e x ((cs.drop (i*Ty.sz S e)).take (Ty.sz S e))
theorem c_.nil {s:St} {e:Ty} :c_ w s e ([]:List (e.den S.C)) []:=⟨by simp,fun i x h=>by simp at h⟩
theorem c_.later {w':World} {s s':St} (hl:b7 w s w' s') {e:Ty} {l:List (e.den S.C)} {cs:List Value} (h:c_ w s e l cs):c_ w' s' e l cs:=
 ⟨h.1,fun i x hi=>(h.2 i x hi).imp fun _ hr=>hr.mono S hl (Nat.le_refl _)⟩
theorem c_.append {s:St} {e:Ty} {l l':List (e.den S.C)} {cs cs':List Value} (h:c_ w s e l cs) (h':c_ w s e l' cs'):c_ w s e (l++l') (cs++cs'):=by
 refine ⟨by simp [h.1,h'.1,Nat.add_mul],fun i x hi=> ?_⟩
 by_cases hlt:i<l.length
 · rw [List.getElem?_append_left hlt] at hi
   obtain ⟨n,hn⟩:=h.2 i x hi
   refine ⟨n, ?_⟩
   have :(i+1)*Ty.sz S e≤l.length*Ty.sz S e:=Nat.mul_le_mul_right _ (by omega)
   rw [Nat.add_mul,Nat.one_mul, ← h.1] at this
   rw [List.drop_append_of_le_length (by omega),List.take_append_of_le_length (by simp; omega)]
   exact hn
 · rw [List.getElem?_append_right (by omega)] at hi
   obtain ⟨n,hn⟩:=h'.2 _ x hi
   refine ⟨n, ?_⟩
   have h1:i*Ty.sz S e=cs.length+(i - l.length)*Ty.sz S e:=by
    rw [h.1, ← Nat.add_mul]; congr 1; omega
   rw [h1,List.drop_append]
   simp only [List.drop_of_length_le (Nat.le_add_right cs.length _),List.nil_append,Nat.add_sub_cancel_left]
   exact hn
theorem c_.set {s:St} {e:Ty} {l:List (e.den S.C)} {cs:List Value} (h:c_ w s e l cs) {i:Nat} (hi:i<l.length) {x:e.den S.C} {n:Nat} {ds:List Value} (hx:aJ S w s n e x ds):
 c_ w s e (l.set i x) (cs.take (i*Ty.sz S e)++ds++cs.drop (i*Ty.sz S e+ds.length)):=by
 have hd:=hx.length S
 have hle:(i+1)*Ty.sz S e≤l.length*Ty.sz S e:=Nat.mul_le_mul_right _ (by omega)
 rw [Nat.add_mul,Nat.one_mul, ← h.1] at hle
 refine ⟨?_,fun k y hk=> ?_⟩
 · rw [List.length_append,List.length_append,List.length_take,List.length_drop,List.length_set, ← h.1]; omega
 · by_cases ek:i=k
   · subst ek
     rw [List.getElem?_set_self hi] at hk
     cases hk
     refine ⟨n, ?_⟩
     rw [List.append_assoc,List.drop_append_of_le_length (by simp; omega),List.drop_of_length_le (by simp; omega),List.nil_append, ← hd,List.take_left]
     exact hx
   · rw [List.getElem?_set_ne ek] at hk
     have hkl:=(List.getElem?_eq_some_iff.1 hk).1
     obtain ⟨m,hm⟩:=h.2 k y hk
     refine ⟨m, ?_⟩
     rcases Nat.lt_or_gt_of_ne ek with hlt | hlt
     · have hki:(i+1)*Ty.sz S e≤k*Ty.sz S e:=Nat.mul_le_mul_right _ (by omega)
       rw [Nat.add_mul,Nat.one_mul] at hki
       have hpre:(cs.take (i*Ty.sz S e)++ds).length=i*Ty.sz S e+ds.length:=by rw [List.length_append,List.length_take]; omega
       rw [show k*Ty.sz S e=(cs.take (i*Ty.sz S e)++ds).length+(k*Ty.sz S e - (i*Ty.sz S e+ds.length)) from by rw [hpre]; omega,List.drop_append]
       simp only [List.drop_of_length_le (Nat.le_add_right _ _),List.nil_append,Nat.add_sub_cancel_left,List.drop_drop]
       rw [show i*Ty.sz S e+ds.length+(k*Ty.sz S e - (i*Ty.sz S e+ds.length))=k*Ty.sz S e from by omega]
       exact hm
     · have hki:(k+1)*Ty.sz S e≤i*Ty.sz S e:=Nat.mul_le_mul_right _ (by omega)
       rw [Nat.add_mul,Nat.one_mul] at hki
       rw [List.append_assoc,List.drop_append_of_le_length (by simp; omega),List.take_append_of_le_length (by simp; omega),List.drop_take,List.take_take]
       rw [show min (Ty.sz S e) (i*Ty.sz S e - k*Ty.sz S e)=Ty.sz S e from by omega]
       exact hm
theorem c_.replicate {s:St} {e:Ty} {x:e.den S.C} {n:Nat} {z:Array Value} (hx:aJ S w s n e x z.toList) (k:Nat):c_ w s e (List.replicate k x) (madeCells z (k*Ty.sz S e)).toList:=by
 have hz:=hx.length S
 have hzs:z.size=Ty.sz S e:=by rw [← hz]; simp
 refine ⟨by simp [size_madeCells],fun i y hi=>⟨n, ?_⟩⟩
 have uD:=(List.getElem?_eq_some_iff.1 hi).1
 rw [List.length_replicate] at uD
 rw [List.getElem?_replicate,if_pos uD] at hi
 cases hi
 have :((madeCells z (k*Ty.sz S e)).toList.drop (i*Ty.sz S e)).take (Ty.sz S e)=z.toList:=by
  apply List.ext_getElem?
  intro j
  rw [List.getElem?_take]
  have hrow:(i+1)*Ty.sz S e≤k*Ty.sz S e:=Nat.mul_le_mul_right _ (by omega)
  rw [Nat.add_mul,Nat.one_mul] at hrow
  by_cases hj:j<Ty.sz S e
  · rw [if_pos hj,List.getElem?_drop]
    have hmod:(i*Ty.sz S e+j) % z.size=j:=by
     rw [hzs,Nat.mul_comm,Nat.mul_add_mod,Nat.mod_eq_of_lt hj]
    simp [madeCells]
    rw [List.getElem?_range (by omega)]
    rw [Option.map_some,hmod]
    simp [hzs,hj]
  · rw [if_neg hj,List.getElem?_eq_none (by omega)]
 rw [this]
 exact hx
theorem NL {s:St} {e:Ty} {b:Nat} : ∀ {l:List (e.den S.C)} {o':Nat},(∀ i x,l[i]? =some x→ ∃ ds,ds.length=Ty.sz S e∧w.rangeAt b (o'+i*Ty.sz S e) ds∧ ∃ n,aJ S w s n e x ds)→
 ∃ cs,w.rangeAt b o' cs∧c_ w s e l cs
 | [],_,_=>⟨[],fun j v h=>by simp at h,c_.nil⟩
 | x::l,o',h=>by
  obtain ⟨ds,d1,d2,n,d3⟩:=h 0 x rfl
  obtain ⟨cs,c1,c2⟩:=NL (s:=s) (l:=l) (o':=o'+Ty.sz S e) fun i y hi=>by
   obtain ⟨ds,d1,d2,d3⟩:=h (i+1) y (by simpa using hi)
   refine ⟨ds,d1, ?_,d3⟩
   rw [Nat.add_mul,Nat.one_mul] at d2
   rw [show o'+Ty.sz S e+i*Ty.sz S e=o'+(i*Ty.sz S e+Ty.sz S e) from by omega]
   exact d2
  simp only [Nat.zero_mul,Nat.add_zero] at d2
  refine ⟨ds++cs,fun j v hj=> ?_,c_.append (l:= [x]) (l':=l) ⟨by simp [d1],fun i y hi=> ?_⟩ c2⟩
  · by_cases hlt:j<ds.length
    · rw [List.getElem?_append_left hlt] at hj; exact d2 j v hj
    · rw [List.getElem?_append_right (by omega)] at hj
      have :=c1 _ v hj
      rw [show o'+Ty.sz S e+(j - ds.length)=o'+j from by omega] at this
      exact this
  · cases i with
    | zero=>simp at hi; subst hi; exact ⟨n,by simpa [← d1] using d3⟩
    | succ i=>simp at hi
theorem c_.row {s:St} {e:Ty} {l:List (e.den S.C)} {cs:List Value} (h:c_ w s e l cs) {w':World} {b o':Nat} (hr:w'.rangeAt b o' cs):
 ∀ i x,l[i]? =some x→ ∃ ds,ds.length=Ty.sz S e∧w'.rangeAt b (o'+i*Ty.sz S e) ds∧ ∃ n,aJ S w s n e x ds:=fun i x hi=>by
 obtain ⟨n,hn⟩:=h.2 i x hi
 exact ⟨_,hn.length S,Hi hr _ _,n,hn⟩
theorem IB (hP:bh P S au) {t:Nat} {T:Ty} (ht:S.ty t=some T) (s:St): ∃ n,aJ S w s n T (Ty.zero S T) (tO S T):=by
 have z1: ∀ (T:Ty),bG T=false→aJ S w s 1 T (Ty.zero S T) [wh T]:=by
  intro T hT
  cases T with
  | int k=>rfl
  | bool=>rfl
  | str=>rfl
  | pt=>rfl
  | sl e=>exact ⟨none,0,rfl,Nat.le_refl _, .inl rfl⟩
  | st u=>simp [bG] at hT
 cases T with
 | st u=>
  obtain ⟨_,⟨hz,_⟩,_⟩:=hP.ty t _ ht
  refine ⟨2, ?_⟩
  show bN S _ (S.F u) (S.ex u (S.z u)) ((S.F u).map wh)
  rw [hz]
  have : ∀ (ts:List Ty),ts.all (fun t=> !bG t)=true→bN S (fun t x cs=>aJ S w s 1 t x cs) ts (ru S ts) (ts.map wh):=by
   intro ts
   induction ts with
   | nil=>intro _; rfl
   | cons t ts ih=>
    intro h
    simp only [List.all_cons,Bool.and_eq_true,Bool.not_eq_true'] at h
    refine ⟨_,_,rfl, ?_, ?_⟩
    · rw [show av.head (ru S (t::ts))=Ty.zero S t from by cases ts <;> rfl]
      exact z1 t h.1
    · rw [show av.tail (ru S (t::ts))=ru S ts from by cases ts <;> rfl]
      exact ih h.2
  exact this _ (hP.flat u)
 | int k=>exact ⟨1,z1 _ rfl⟩
 | bool=>exact ⟨1,z1 _ rfl⟩
 | str=>exact ⟨1,z1 _ rfl⟩
 | pt=>exact ⟨1,z1 _ rfl⟩
 | sl e=>exact ⟨1,z1 _ rfl⟩
theorem Iu (h:Inv P S w0 M0 s0 dq env a w μ) (hd: ∀ d,o.dst=some d→d<a.tmps.size) {us:aP S.C} {B:Nat} {e:Ty} {l:List (e.den S.C)} {t:TypeId} {cap:Nat} {cells:Array Value} {cs:List Value}
 (hk:Tk S env.bx (aA env.bx us)) (hB:aA env.bx us B=none) {w1:World} (hw1:w1.heap=w.heap) (Fz:w1.os=w.os∧w1.tape=w.tape∧w1.output=w.output)
 (hrun:(execOp a.eval o).run P w= .ok (.value (.slice (some ⟨w.heap.size,0,none⟩) l.length cap)) (w1.alloc (.cells cells t)))
 (hle:l.length≤cap) (hcap:cells.size=cap*Ty.sz S e) (hcs:c_ w (aN S w0 M0 s0 (aA env.bx us) μ w) e l cs) (hpre:cs <+: cells.toList)
 (hK:Goal P S w0 M0 s0 dq env a o.dst (.aY B) (us++ [(B, .arr e l)]) K):o.wp P a w K Q:=by
 have h1:=h.tk hk
 have Tj:br w (w1.alloc (.cells cells t)) (fun _ _=>False):=by
  have c1:br w w1 (fun _ _=>False):=⟨Fz.1,Fz.2.1,Fz.2.2,by rw [hw1]; exact Nat.le_refl _,fun b _ _=>by rw [hw1],fun b o _ _=>cell_of_heap (by rw [hw1]),fun b o _ h=>by rw [cell_of_heap (by rw [hw1]:w1.heap[b]? =w.heap[b]?)]; exact h,fun b o _ _=>Ah (by rw [hw1])⟩
  exact c1.trans (br.alloc w1 _ (fun _ _=>False)) (fun _ _ h=>h) (fun _ _ _ h=>h)
 have nt:=qB (w:=w1) (cs:=cells) (t:=t)
 rw [hw1] at nt
 have T4:(w1.alloc (.cells cells t)).rangeAt w.heap.size 0 cs:=fun j v hj=>nt.2 j v (by
  obtain ⟨r,hr⟩:=hpre
  rw [← hr,List.getElem?_append_left (List.getElem?_eq_some_iff.1 hj).1]
  exact hj)
 refine rj (env:= { env with bx:=aA env.bx us }) (i:=B) (B:= .arr e l) (V:= .aY B) (L:=⟨w.heap.size,0,cap*Ty.sz S e,cap,false⟩) h1 hrun hd Tj hB (fun b o' hf=>Nat.le_of_eq hf.1.symm)
  (fun hl _ h3=>⟨⟨rfl,(fun h=>by cases h),hle,(by show World.there _ w.heap.size 0 (cap*Ty.sz S e); rw [← hcap]; exact nt.1),fun i x hi=> ?_⟩,⟨⟨_,_,_,rfl⟩,fun e' l' hb=> ?_⟩⟩) (fun vs hvs=>by rcases hvs with hvs | hvs <;> cases hvs) (fun j hj=> .inl (by simpa [aH,aF] using hj)) ?_
 · obtain ⟨ds,d1,d2,n,d3⟩:=hcs.row T4 i x hi
   exact ⟨ds,d1,d2,n,d3.mono S hl (Nat.le_refl _)⟩
 · dsimp only at hb
   rw [aZ] at hb
   rcases hb with hb | hb
   · cases hb
     rw [aZ]
     exact ⟨_,cap,rfl,rfl,rfl,rfl,(fun h=>by cases h),hle⟩
   · cases hb
 · intro a' w' μ' hI hs
   refine hK a' w' μ' ?_ hs
   have :(env.apply o.dst (.aY B) (us++ [(B, .arr e l)]))=(Env.apply { env with bx:=aA env.bx us } o.dst (.aY B) [(B, .arr e l)]):=by
    simp only [Env.apply,jX]
   rw [this]
   exact hI
theorem VJ (hP:bh P S au) (h:Inv P S w0 M0 s0 dq env a w μ) (hd: ∀ d,o.dst=some d→d<a.tmps.size) {B:Nat} {t:TypeId} {x y:Operand} (ho:o.op= .makeSlice t x y)
 (hnew: ∀ u ∈ us,B≤u.1→u.1<B+16→env.bx u.1=none)
 (hl:(match e9 S t,aX S env.tm x,aX S env.tm y with
  | some e,some v,some w=>match v.int?,w.int? with
   | some (.i64,n),some (.i64,m)=>Tr.gd [gd (0≤n),gd (n≤m),gd (m*au t≤limit)] (aI S (.aY (B)) [(B, .arr e (List.replicate n.toNat (Ty.zero S e)))])
   | _,_=>Tr.fail
  | _,_,_=>Tr.fail).leaf (V,us)) (hK:Goal P S w0 M0 s0 dq env a o.dst V us K):o.wp P a w K Q:=by
 split at hl
 · rename_i e v u ht hx hy
   split at hl
   · rename_i n m hn hm
     obtain ⟨hg,rfl,rfl⟩:=gq hl
     have g1:0≤n:=hg (gd (0≤n)) (by simp)
     have g2:n≤m:=hg (gd (n≤m)) (by simp)
     have g3:m*au t≤limit:=hg (gd (m*au t≤limit)) (by simp)
     have ht':=oV ht
     obtain ⟨te,ie,z,hu,hte,hie,hby,gr,_⟩:=hP.sl ht'
     obtain ⟨⟨i,z,h1,h2,h3,h4,h5⟩,_⟩:=hP.ty te _ hte
     rw [hie] at h1
     cases h1
     have e1:=ko (bI h hx).1 hn
     have e2:=ko (bI h hy).1 hm
     have hmn:(m.toNat:Int)=m:=by omega
     have hpos:(au t:Int)≥1:=by omega
     have hml:m≤140737488355328:=by
      have :m*1≤m*(au t:Int):=Int.mul_le_mul_of_nonneg_left hpos (by omega)
      have :limit=140737488355328:=rfl
      omega
     have hrun:=run_make (P:=P) w t te ie z hu hie h3 .i64 .i64 n m g1 g2 (by rw [hby,Int.mul_comm]; have :limit=140737488355328:=rfl; omega) (by omega)
     obtain ⟨q,hq⟩:=IB (w:=w) hP hte (aN S w0 M0 s0 (aA env.bx []) μ w)
     rw [← h5] at hq
     have hB:=hnew _ (List.mem_singleton.2 rfl) (Nat.le_refl _) (by show B<B+16; omega)
     refine Iu (t:=te) (us:= []) (e:=e) (l:=List.replicate n.toNat (Ty.zero S e)) (cap:=m.toNat) (cells:=madeCells z.cells (m.toNat*ie.size)) (cs:=(madeCells z.cells (n.toNat*Ty.sz S e)).toList) (w1:=w) h hd (Tk.refl S _) hB rfl ⟨rfl,rfl,rfl⟩ ?_ (by simp; omega)
      (by rw [size_madeCells,h2]) (c_.replicate hq _) ?_ hK
     · unfold execOp
       simp only [ho,e1,e2,List.length_replicate]
       simp [hrun]
     · rw [h2]
       simp only [madeCells,Array.toList_map,Array.toList_range]
       have :n.toNat*Ty.sz S e≤m.toNat*Ty.sz S e:=Nat.mul_le_mul_right _ (by omega)
       refine List.IsPrefix.map _ ?_
       exact ⟨(List.range (m.toNat*Ty.sz S e)).drop (n.toNat*Ty.sz S e),by
        conv=>rhs; rw [← List.take_append_drop (n.toNat*Ty.sz S e) (List.range (m.toNat*Ty.sz S e))]
        congr 1
        rw [List.take_range,Nat.min_eq_left this]⟩
   · exact hl.elim
 · exact hl.elim
end
end Go.Sy
namespace Go.Sy
section
variable {P:Program} {S:bf} {au:Nat→Nat}
variable {w0:World} {M0 s0:St} {dq:List Deferred} {env:Env S.C} {a:Act} {w:World} {μ:Nat→Loc} {K:Act→World→Prop} {Q:Exit→Act→World→Prop} {o:Oper} {V:V S.C} {us:aP S.C}
theorem Kg {bx aq:Bx S.C} {e:Ty} : ∀ {ps:List (Nat×Sy.V S.C)} {l:List (e.den S.C)},(∀ p ∈ ps, ∀ i ∈ aH S p.2,aq i=bx i)→nS S aq e l ps=nS S bx e l ps
 | [],_,_=>rfl
 | (i,v)::ps,l,h=>by
  obtain ⟨h1,h2⟩:=wU (t:=e) (h (i,v) (by simp))
  simp only [nS,h1,h2]
  congr 1
  cases datum S bx e v with
  | none=>rfl
  | some x=>simp only [Option.bind_some]; rw [Kg fun p hp=>h p (by simp [hp])]
theorem Ke {bx:Bx S.C} {e:Ty} : ∀ {ps:List (Nat×Sy.V S.C)} {l l':List (e.den S.C)} {us:aP S.C},nS S bx e l ps=some (l',us)→cT bx us∧l'.length=l.length
 | [],_,_,_,h=>by cases h; exact ⟨fun u hu=>by simp at hu,rfl⟩
 | (i,v)::ps,l,l',us,h=>by
  simp only [nS] at h
  cases hi:Nat.blt i (List.length l) with
  | false=>rw [hi] at h; cases h
  | true=>
   rw [hi,cond_true] at h
   obtain ⟨x,hx,h⟩:=Option.bind_eq_some_iff.1 h
   obtain ⟨⟨l2,u2⟩,h2,h⟩:=Option.bind_eq_some_iff.1 h
   cases h
   obtain ⟨g1,g2⟩:=Ke h2
   exact ⟨(cT.dr bx v).append g1,by rw [g2,List.length_set]⟩
theorem Kf (hS:cU S) (h:Inv P S w0 M0 s0 dq env a w μ) {e:Ty} {US:aP S.C} (hU:cT env.bx US): ∀ {ps:List (Nat×Sy.V S.C)} {qs:List (Nat×Value)} {l l':List (e.den S.C)} {us:aP S.C} {cells:Array Value},
 zq P S w (aN S w0 M0 s0 env.bx μ w) μ env.bx ps qs→c_ w (cC S w0 M0 s0 env.bx (aA env.bx US) μ w) e l cells.toList→nS S env.bx e l ps=some (l',us)→(∀ u ∈ us,u ∈ US)→
 ∃ cells',Instr.fill (fun i=>some (i*Ty.sz S e,Ty.sz S e)) cells qs=some cells'∧c_ w (cC S w0 M0 s0 env.bx (aA env.bx US) μ w) e l' cells'.toList
 | [],qs,l,l',us,cells,h1,h2,h3,_=>by
  cases h1; cases h3
  exact ⟨cells,rfl,h2⟩
 | (i,V)::ps,qs,l,l',us,cells,⟨v,r,hq,hv,hr⟩,h2,h3,hs=>by
  subst hq
  simp only [nS] at h3
  cases hi:Nat.blt i (List.length l) with
  | false=>rw [hi] at h3; cases h3
  | true=>
   rw [hi,cond_true] at h3
   have hlt:i<l.length:=by
    have :Nat.ble (i+1) l.length=true:=hi
    exact Nat.le_of_ble_eq_true this
   obtain ⟨x,hx,h3⟩:=Option.bind_eq_some_iff.1 h3
   obtain ⟨⟨l2,u2⟩,h4,h3⟩:=Option.bind_eq_some_iff.1 h3
   cases h3
   obtain ⟨_,d2⟩:=zS hS h (Tk.refl S env.bx) hv hx
   have d3:=d2.mono S (vV S (hU.tk (us:=dr S env.bx V) fun u hu=>hs u (by simp [hu])))
   obtain ⟨n,d4⟩:=d3.2
   have d5:=d4.length S
   have hc:=h2.1
   have hle:(i+1)*Ty.sz S e≤l.length*Ty.sz S e:=Nat.mul_le_mul_right _ (by omega)
   rw [Nat.add_mul,Nat.one_mul, ← hc] at hle
   obtain ⟨cells',e1,e2⟩:=Kh (fun i=>some (i*Ty.sz S e,Ty.sz S e)) (i:=i) rfl (v:=v) (cells:=cells) (by rw [← d5]; simp) (by simpa using hle) r
   obtain ⟨Ea,g1,g2⟩:=Kf hS h hU (cells:=cells') hr (by rw [e1]; exact h2.set hlt d4) h4 fun u hu=>hs u (by simp [hu])
   exact ⟨Ea,by rw [e2]; exact g1,g2⟩
theorem RM (hP:bh P S au) (h:Inv P S w0 M0 s0 dq env a w μ) (hd: ∀ d,o.dst=some d→d<a.tmps.size) {B:Nat} {t:TypeId} {parts:Array (Nat×Operand)} {e:Ty} (ho:o.op= .buildSlice t 0 parts) (ht:e9 S t=some e)
 (hnew: ∀ u ∈ us,B≤u.1→u.1<B+16→env.bx u.1=none)
 (hl:(match parts.toList with
  | []=>aI S (.bu B e []) [(B, .tail)]
  | _=> .fail:Rt S).leaf (V,us)) (hK:Goal P S w0 M0 s0 dq env a o.dst V us K):o.wp P a w K Q:=by
 split at hl
 · rename_i hps
   obtain ⟨rfl,rfl⟩:=bL hl
   have hp:parts= #[]:=by
    have :parts=parts.toList.toArray:=by simp
    rw [this,hps]
   subst hp
   have hB:=hnew (B, .tail) (by simp) (Nat.le_refl _) (by show B<B+16; omega)
   have ht':=oV ht
   obtain ⟨te,ie,z,hu,hte,hie,hby,gr,_⟩:=hP.sl ht'
   have hrun:(execOp a.eval o).run P w= .ok (.value (.slice (some ⟨w.heap.size,0,none⟩) 0 0)) (w.alloc (.cells #[] te)):=by
    unfold execOp
    simp only [ho]
    simp [Instr.buildSlice,run_underlying hu,sizeOf,typeInfo,hie,Array.range_zero',Instr.fill,newRow]
   refine rj (i:=B) (B:= .tail) (V:= .bu B e []) (L:=⟨0,0,0,0,true⟩) h hrun hd (br.alloc w _ _) hB (fun b o hf=> ?_) (fun _ _ _=>⟨fun j hj=>absurd hj (Nat.not_lt_zero j), ?_⟩) (by simp) (fun j hj=> .inl (by simpa [aH,aF] using hj)) hK
   · have h1:=hf.2.1; have h2:=hf.2.2; simp at h2
   · refine ⟨⟨rfl,1,_,0,rfl,Nat.le_refl _, .inl rfl⟩,fun _=>⟨_,0,rfl, ?_⟩⟩
     rw [aZ]
     exact .inr ⟨_,_,rfl,by simp,fun h=>absurd h (Nat.lt_irrefl 0)⟩
 · exact hl.elim
theorem Q9 (hP:bh P S au) (h:Inv P S w0 M0 s0 dq env a w μ) (hd: ∀ d,o.dst=some d→d<a.tmps.size) {B:Nat} {t:TypeId} {len:Nat} {parts:Array (Nat×Operand)} {ids:List Nat} (ho:o.op= .buildSlice t len parts)
 (gu: ∀ i x,(i,x) ∈ parts.toList→ ∀ V,aX S env.tm x=some V→ ∀ i ∈ aH S V,restrict S env.bx ids i=env.bx i)
 (hnew: ∀ u ∈ us,B≤u.1→u.1<B+16→env.bx u.1=none)
 (hl:(match e9 S t with
  | some e=>match parts.toList.mapM (fun (p:Nat×Operand)=>(aX S env.tm p.2).map fun v=>(p.1,v)) with
   | some ps=>cond (Nat.ble (len*Ty.sz S e) 16777216) (match nS S (restrict S env.bx ids) e (List.replicate len (Ty.zero S e)) ps with
    | some (l,us)=>aI S (.aY (B)) (us++ [(B,dX.arr e l)])
    | none=>Tr.fail) Tr.fail
   | none=>Tr.fail
  | none=>Tr.fail).leaf (V,us)) (hK:Goal P S w0 M0 s0 dq env a o.dst V us K):o.wp P a w K Q:=by
 split at hl
 · rename_i e ht
   split at hl
   · rename_i ps hps
     cases hlim:Nat.ble (len*Ty.sz S e) 16777216 with
     | false=>rw [hlim] at hl; exact hl.elim
     | true=>
      rw [hlim,cond_true] at hl
      obtain ⟨p1,p2⟩:=Gq h hps
      rw [Kg (bx:=env.bx) fun p hp i hi=>by
       obtain ⟨x,k,hm,hx⟩:=p2 p hp
       exact gu k x hm p.2 hx i hi] at hl
      split at hl
      · rename_i l fz K1
        obtain ⟨rfl,rfl⟩:=bL hl
        obtain ⟨f1,f2⟩:=Ke K1
        rw [List.length_replicate] at f2
        have ht':=oV ht
        obtain ⟨te,ie,z,hu,hte,hie,hby,gr,_⟩:=hP.sl ht'
        obtain ⟨⟨i,z,h1,h2,h3,h4,h5⟩,_⟩:=hP.ty te _ hte
        rw [hie] at h1
        cases h1
        obtain ⟨q,hq⟩:=IB (w:=w) hP hte (cC S w0 M0 s0 env.bx (aA env.bx fz) μ w)
        rw [← h5] at hq
        obtain ⟨cells,c1,c2⟩:=Kf hP.tocU h f1 (cells:=madeCells z.cells (len*Ty.sz S e)) p1 (c_.replicate hq len) K1 fun u hu=>hu
        have bV:=hnew (B,dX.arr e l) (by simp) (Nat.le_refl _) (by show B<B+16; omega)
        have hB:aA env.bx fz B=none:=by
         rcases cT.at env.bx f1 B with ⟨e1,_⟩ | ⟨_,e',l',e2,_⟩
         · rw [e1]; exact bV
         · rw [show env.bx B=none from bV] at e2; cases e2
        refine Iu (t:=te) (us:=fz) (e:=e) (l:=l) (cap:=len) (cells:=cells) (cs:=cells.toList) (w1:=w) h hd f1.pV hB rfl ⟨rfl,rfl,rfl⟩ ?_ (by omega) (by have :=c2.1; rw [f2] at this; simpa using this)
         (c2.later (Dh f1.pV)) (List.prefix_refl _) hK
        unfold execOp
        simp only [ho,f2]
        have hrun:(Instr.buildSlice t len (parts.map fun (i,x)=>(i,a.eval x))).run P w= .ok (.slice (some ⟨w.heap.size,0,none⟩) len len) (w.alloc (.cells cells te)):=by
         have hlim:=Nat.le_of_ble_eq_true hlim
         rw [← h2] at hlim c1
         by_cases h0:len*ie.size=0
         · rw [h0] at c1
           have hm:madeCells z.cells 0= #[]:=by simp [madeCells]
           rw [hm] at c1
           have Rd:Instr.fill (fun i=>some (i*ie.size,ie.size)) #[] (parts.toList.map fun x=>(x.1,a.eval x.2))=some cells:=c1
           simp [Instr.buildSlice,run_underlying hu,sizeOf,typeInfo,hie,h0,Array.range_zero',Rd,newRow]
         · refine run_buildSlice w t te len _ cells ie z hu hie h3 (by omega) h0 ?_
           rw [Array.toList_map,h2]
           rw [h2] at c1
           exact c1
        simp [hrun]
      · exact hl.elim
   · exact hl.elim
 · exact hl.elim
end
end Go.Sy
namespace Go.Sy
section
variable {P:Program} {S:bf} {au:Nat→Nat}
variable {w0:World} {M0 s0:St} {dq:List Deferred} {env:Env S.C} {a:Act} {w:World} {μ:Nat→Loc} {K:Act→World→Prop} {Q:Exit→Act→World→Prop} {o:Oper} {V:V S.C} {us:aP S.C}
theorem YD (P:Program) (hS:cU S) {s:St} {n:Nat} {e:Ty} {x:e.den S.C} {cs:List Value} (h:aJ S w s n e x cs): ∀ u ∈ cs,u.oneCell'=true:=by
 obtain ⟨h1,h2,_⟩:=nP (P:=P) hS (fun _=>⟨0,0,0,0,true⟩) (fun _=>none) h
 exact y5 h2 h1
theorem Rk (P:Program) (hS:cU S) {s:St} {e:Ty} {l:List (e.den S.C)} {cs:List Value} (h:c_ w s e l cs): ∀ u ∈ cs,u.oneCell'=true:=by
 intro u hu
 obtain ⟨k,hk,TJ⟩:=List.getElem_of_mem hu
 have h0:0<Ty.sz S e:=by
  rcases Nat.eq_zero_or_pos (Ty.sz S e) with h0 | h0
  · have :=h.1; rw [h0,Nat.mul_zero] at this; omega
  · exact h0
 have hkl:k<l.length*Ty.sz S e:=by rw [← h.1]; exact hk
 have hi:k / Ty.sz S e<l.length:=Nat.div_lt_of_lt_mul (by rw [Nat.mul_comm]; exact hkl)
 obtain ⟨n,hn⟩:=h.2 (k / Ty.sz S e) _ (List.getElem?_eq_getElem hi)
 refine YD P hS hn u ?_
 have hd:k / Ty.sz S e*Ty.sz S e+k % Ty.sz S e=k:=by rw [Nat.mul_comm]; exact Nat.div_add_mod k _
 refine List.mem_iff_getElem?.2 ⟨k % Ty.sz S e, ?_⟩
 rw [List.getElem?_take,if_pos (Nat.mod_lt _ h0),List.getElem?_drop,hd,List.getElem?_eq_getElem hk,TJ]
def Read (S:bf) (w:World) (s:St) (e:Ty) (l:List (e.den S.C)) (v:Value):Prop:=
 ∃ ad cap,v= .slice ad l.length cap∧l.length≤cap∧(l.length=0∨ ∃ b o,ad=some ⟨b,o,none⟩∧ ∀ i x,l[i]? =some x→ ∃ ds,ds.length=Ty.sz S e∧w.rangeAt b (o+i*Ty.sz S e) ds∧ ∃ n,aJ S w s n e x ds)
theorem cz.read {s:St} {e:Ty} {l:List (e.den S.C)} {v:Value} (h:cz S w s (.sl e) l v):Read S w s e l v:=by
 obtain ⟨ad,cap,h1,h2,h3⟩:=mC h
 refine ⟨ad,cap,h1,h2,h3.imp id fun ⟨b,o,n,h4,h5⟩=>⟨b,o,h4,fun i x hi=> ?_⟩⟩
 obtain ⟨ds,d1,d2,d3⟩:=h5 i x hi
 exact ⟨ds,d1,d2.range,n,d3⟩
theorem p7.read {s:St} {e:Ty} {l:List (e.den S.C)} {v:Value} {L:Loc} {ad:Option Addr} {cap:Nat} (hv:v= .slice ad l.length cap) (h:p7 L ad l.length cap (Ty.sz S e))
 (hr: ∀ i x,l[i]? =some x→ ∃ ds,ds.length=Ty.sz S e∧w.rangeAt L.b (L.o+i*Ty.sz S e) ds∧ ∃ n,aJ S w s n e x ds):Read S w s e l v:=by
 refine ⟨ad,cap,hv,h.fits, ?_⟩
 cases hn:L.nil with
 | true=>
  left
  have h1:=h.isNil hn
  have h2:=h.fits
  have h3:=h.mH
  omega
 | false=>
  right
  have h1:=h.addr
  rw [hn] at h1
  exact ⟨L.b,L.o,h1,hr⟩
theorem F7 (h:Inv P S w0 M0 s0 dq env a w μ) {b:Nat} {e:Ty} {l:List (e.den S.C)} {v:Value} (hb:env.bx b=some (.arr e l)∨env.bx b=some (.bR e l)) (hv:RV P S w (aN S w0 M0 s0 env.bx μ w) μ env.bx (.aY b) v):
 Read S w (aN S w0 M0 s0 env.bx μ w) e l v:=by
 obtain ⟨_,hv⟩:=hv
 obtain ⟨ad,cap,h1,h2⟩:=hv e l hb
 refine h2.read h1 ?_
 rcases hb with hb | hb
 · exact (h.cm b _ hb).2.2.2.2
 · intro i x hi
   obtain ⟨ds,d1,d2,d3⟩:=(h.cm b _ hb).2.2 i x hi
   exact ⟨ds,d1,d2.range,d3⟩
theorem Eh (h:Inv P S w0 M0 s0 dq env a w μ) {e:Ty} {X:Sy.V S.C} {x:Value} {y:List (e.den S.C)} (hx:RV P S w (aN S w0 M0 s0 env.bx μ w) μ env.bx X x) (hy:datum S env.bx (.sl e) X=some y):
 Read S w (aN S w0 M0 s0 env.bx μ w) e y x:=by
 cases X with
 | d u z=>
  obtain ⟨rfl,rfl⟩:=eK hy
  exact cz.read hx
 | bu b e' l=>
  obtain ⟨e1,rfl⟩:=eK hy
  cases e1
  exact cz.read hx.1
 | cH=>
  cases hy
  exact ⟨none,0,hx,Nat.le_refl _, .inl rfl⟩
 | aY b=>
  have hy:cV S env.bx (.sl e) (.aY b)=some y:=hy
  simp only [cV] at hy
  split at hy
  · rename_i e' l hb
    obtain ⟨e1,rfl⟩:=eK hy
    cases e1
    exact F7 h (.inl hb) hx
  · rename_i e' l hb
    obtain ⟨e1,rfl⟩:=eK hy
    cases e1
    exact F7 h (.inr hb) hx
  · cases hy
 | _=>cases hy
theorem Read.cells {s:St} {e:Ty} {l:List (e.den S.C)} {v:Value} (h:Read S w s e l v): ∃ ad cap cs,v= .slice ad l.length cap∧l.length≤cap∧c_ w s e l cs∧
 (l.length=0∧cs= []∨ ∃ b o,ad=some ⟨b,o,none⟩∧w.rangeAt b o cs):=by
 obtain ⟨ad,cap,h1,h2,h3⟩:=h
 rcases h3 with h3 | ⟨b,o,h3,h4⟩
 · have :l= []:=List.length_eq_zero_iff.1 h3
   subst this
   exact ⟨ad,cap,[],h1,h2,c_.nil, .inl ⟨rfl,rfl⟩⟩
 · obtain ⟨cs,c1,c2⟩:=NL h4
   exact ⟨ad,cap,cs,h1,h2,c2, .inr ⟨b,o,h3,c1⟩⟩
theorem Read.src (hP:bh P S au) {s:St} {e:Ty} {l:List (e.den S.C)} {v:Value} (h:Read S w s e l v) {tx:Nat} (ht:S.ty tx=some (.sl e)): ∃ news,Src P (Ty.sz S e) tx v l.length news w∧c_ w s e l news:=by
 obtain ⟨te,ie,z,hu,_⟩:=hP.sl ht
 obtain ⟨ad,cap,cs,h1,h2,h3,h4⟩:=h.cells
 refine ⟨cs, ?_,h3⟩
 subst h1
 rcases h4 with ⟨h4,rfl⟩ | ⟨b,o,rfl,h4⟩
 · cases ad with
   | none=>rw [h4]; exact Src.ofNil w hu cap
   | some ad=>exact Src.ofSlice w hu ad _ cap [] h3.1 (fun j u hj=>by simp at hj) (fun u hu=>by simp at hu)
 · exact Src.ofSlice w hu _ _ cap cs h3.1 (fun j u hj=>by rw [Addr.add_mid]; exact h4 j u hj) (Rk P hP.tocU h3)
theorem Read.old {s:St} {e:Ty} {l:List (e.den S.C)} {ad:Option Addr} {cap:Nat} (P:Program) (h:Read S w s e l (.slice ad l.length cap)): ∃ olds,(Builtin.firstCells (Ty.sz S e) l.length (.slice ad l.length cap)).run P w.drew= .ok olds.toArray w.drew∧c_ w s e l olds∧
 (l.length=0∨ ∃ b o,ad=some ⟨b,o,none⟩∧w.rangeAt b o olds):=by
 obtain ⟨rI,cap',cs,h1,h2,h3,h4⟩:=h.cells
 cases h1
 refine ⟨cs, ?_,h3,h4.imp (·.1) id⟩
 rcases h4 with ⟨h4,rfl⟩ | ⟨b,o,rfl,h4⟩
 · cases ad with
   | none=>exact run_firstCells_none _ _ _ _ _
   | some ad=>exact run_firstCells_some _ _ _ ad _ cap [] h3.1 (fun j u hj=>by simp at hj)
 · exact run_firstCells_some _ _ _ _ _ cap cs h3.1 (fun j u hj=>by rw [Addr.add_mid]; simpa using h4 j u hj)
theorem CC (hP:bh P S au) {t tx ty:Nat} {e:Ty} (ht:S.ty t=some (.sl e)) {n m cap:Nat} {base:Option Addr} {x:Value} {news olds:List Value} (hs:Src P (Ty.sz S e) tx x m news w)
 (hold:(Builtin.firstCells (Ty.sz S e) n (.slice base n cap)).run P w.drew= .ok olds.toArray w.drew) (Lf:olds.length=n*Ty.sz S e) (hle:n≤cap) (hlim:(n+m)*au t≤limit):
 (m=0∧(Builtin.append_ #[t,tx] ty #[.slice base n cap,x]).run P w= .ok (.slice base n cap) w)∨
 (0<m∧n+m≤cap∧ ∀ b off,base=some ⟨b,off,none⟩→w.there b (off+n*Ty.sz S e) news.length→(Builtin.append_ #[t,tx] ty #[.slice base n cap,x]).run P w= .ok (.slice base (n+m) cap) (w.setCells b (off+n*Ty.sz S e) news))∨
 (∃ c' te cells,cap<n+m∧n+m≤c'∧Array.size cells=c'*Ty.sz S e∧(olds++news) <+: cells.toList∧
  (Builtin.append_ #[t,tx] ty #[.slice base n cap,x]).run P w= .ok (.slice (some ⟨w.heap.size,0,none⟩) (n+m) c') (w.drew.alloc (.cells cells te))):=by
 obtain ⟨te,ie,_,hu,hte,hie,hby,gr,_⟩:=hP.sl ht
 obtain ⟨⟨i,z,h1,h2,h3,h4,h5⟩,_⟩:=hP.ty te _ hte
 rw [hie] at h1
 cases h1
 rw [← h2] at hs hold Lf ⊢
 rcases Nat.eq_zero_or_pos m with h0 | h0
 · left
   subst h0
   have hn:news= []:=by have :=hs.newsLen; rw [Nat.zero_mul] at this; exact List.length_eq_zero_iff.1 this
   subst hn
   exact ⟨rfl,run_append_nothing w t tx ty te ie hu hie base n cap hle x hs⟩
 · right
   by_cases hroom:n+m≤cap
   · left
     refine ⟨h0,hroom, ?_⟩
     rintro b off rfl cw
     exact run_append_room_src w t tx ty te ie hu hie b off n cap x m news hs hroom (fun j hj=>(cw j hj).1) (fun j hj=>(cw j hj).2)
   · right
     have aa8:limit=140737488355328:=rfl
     have h63:((n+m:Nat):Int)≤9223372036854775807:=by
      have :(n+m)*1≤(n+m)*au t:=Nat.mul_le_mul_left _ gr
      omega
     refine ⟨_,te,_,by omega,grownCap_ge w (n+m) cap te, ?_, ?_,run_append_grow_src w t tx ty te ie z hu hie h3 base n cap olds hold x m news hs (by omega) h63 (growslice_fits (by omega) (by rw [hby]; omega))⟩
     · have hg:=grownCap_ge w (n+m) cap te
       have hzs:z.cells.size=ie.size:=by
        have :=congrArg List.length h5
        rw [Array.length_toList] at this
        rw [this,h2]
        cases e <;> simp [tO,Ty.sz]
       rw [Array.size_append,size_zeroCells,hzs,List.size_toArray,List.length_append,Lf,hs.newsLen, ← Nat.add_mul, ← Nat.add_mul]
       congr 1
       omega
     · rw [Array.toList_append,List.toList_toArray]
       exact List.prefix_append _ _
theorem Inv.swap (h:Inv P S w0 M0 s0 dq env a w μ) {b B:Nat} {B0 BX:dX S.C} {L:Loc} {w':World} {T:St} (hb:env.bx b=some B0) (cn:live S env.bx b) (hB:env.bx B=none)
 (hw:br w w' T) (hT: ∀ k o,T k o→(μ b).aM k o) (hL: ∀ k o,L.aM k o→w.heap.size≤k∨(μ b).aM k o) (hnc: ∀ vs,BX≠ .cells vs∧BX≠ .bX vs)
 (EP:b7 w (aN S w0 M0 s0 env.bx μ w) w' (aN S w0 M0 s0 (az (az env.bx b (some .dead)) B (some BX)) (az μ B L) w')→
  RB P S w' (aN S w0 M0 s0 (az (az env.bx b (some .dead)) B (some BX)) (az μ B L) w') (az μ B L) (az (az env.bx b (some .dead)) B (some BX)) L BX):
 Inv P S w0 M0 s0 dq { env with bx:=az (az env.bx b (some .dead)) B (some BX) } a w' (az μ B L)∧
 b7 w (aN S w0 M0 s0 env.bx μ w) w' (aN S w0 M0 s0 (az (az env.bx b (some .dead)) B (some BX)) (az μ B L) w')∧
 (∀ k o,((μ b).aM k o∨k=w.heap.size)→k<w'.heap.size→ ¬ L.aM k o→aN S w0 M0 s0 (az (az env.bx b (some .dead)) B (some BX)) (az μ B L) w' k o):=by
 have hne:b≠B:=fun e=>by rw [e,hB] at hb; cases hb
 have hbd:az (az env.bx b (some .dead)) B (some BX) b=some .dead:=by rw [bA _ _ hne,aZ]
 have KB:az (az env.bx b (some .dead)) B (some BX) B=some BX:=aZ _ _ _
 have hU: ∀ i, ¬ (i=b∨i=B)→az (az env.bx b (some .dead)) B (some BX) i=env.bx i∧az μ B L i=μ i:=fun i hi=>by
  rw [bA _ _ fun e=>hi (.inr e),bA _ _ fun e=>hi (.inl e),bA _ _ fun e=>hi (.inr e)]
  exact ⟨rfl,rfl⟩
 have lJ: ¬ live S (az (az env.bx b (some .dead)) B (some BX)) b:=fun hl=>by unfold live at hl; rw [hbd] at hl; exact hl
 have hf: ∀ i,(i=b∨i=B)→live S (az (az env.bx b (some .dead)) B (some BX)) i→ ∀ k o,(az μ B L i).aM k o→w.heap.size≤k∨ ∃ j,(j=b∨j=B)∧live S env.bx j∧(μ j).aM k o:=by
  rintro i (rfl | rfl) hl k o hfo
  · exact absurd hl lJ
  · rw [aZ] at hfo
    exact (hL k o hfo).imp id fun hfo=>⟨b, .inl rfl,cn,hfo⟩
 have lH: ∀ k o,T k o→k<w.heap.size→ ∃ i,(i=b∨i=B)∧live S env.bx i∧(μ i).aM k o:=fun k o ht _=>⟨b, .inl rfl,cn,hT k o ht⟩
 have hl:=h.later hw lH hU hf
 refine ⟨h.step (U:=fun i=>i=b∨i=B) hw lH hU hf ?_ ?_ ?_ ?_,hl, ?_⟩
 · intro i B1 hi
   by_cases e1:i=b
   · subst e1
     refine ⟨_,hbd, ?_⟩
     rw [bA _ _ hne]
     cases B1 <;> rfl
   · have e2:i≠B:=fun e=>by rw [e,hB] at hi; cases hi
     rw [bA _ _ e2,bA _ _ e1,bA _ _ e2]
     exact ⟨B1,hi,cL.refl S _ _⟩
 · rintro i j (rfl | rfl) (rfl | rfl) hij li lj
   · exact absurd rfl hij
   · exact absurd li lJ
   · exact absurd lj lJ
   · exact absurd rfl hij
 · rintro i B1 (rfl | rfl) lG
   · rw [hbd] at lG; cases lG; trivial
   · rw [KB] at lG; cases lG
     rw [aZ]
     exact EP hl
 · rintro i vs (rfl | rfl) hvs
   · rcases hvs with hvs | hvs <;> · rw [hbd] at hvs; cases hvs
   · rcases hvs with hvs | hvs <;> rw [KB] at hvs
     · exact absurd (Option.some.inj hvs) (hnc vs).1
     · exact absurd (Option.some.inj hvs) (hnc vs).2
 · intro k o' hk hlt TT
   refine ⟨hlt, ?_,fun i li hfo=> ?_⟩
   · rcases hk with hk | rfl
     · exact (h.own b cn k o' hk).elim (fun h=> .inr (.inr h)) (fun h=> .inr (.inl h))
     · exact .inr (.inr h.i_.size)
   · by_cases e1:i=b
     · subst e1; exact lJ li
     · by_cases e2:i=B
       · subst e2; rw [aZ] at hfo; exact TT hfo
       · have hu:=hU i fun e=>e.elim e1 e2
         rw [eM S hu.1] at li
         rw [hu.2] at hfo
         rcases hk with hk | rfl
         · exact h.dB i b e1 li cn _ _ hfo hk
         · exact absurd (mW P S (h.cm i) li hfo).1 (Nat.lt_irrefl _)
end
end Go.Sy
namespace Go.Sy
section
variable {P:Program} {S:bf} {au:Nat→Nat}
variable {w0:World} {M0 s0:St} {dq:List Deferred} {env:Env S.C} {a:Act} {w:World} {μ:Nat→Loc} {K:Act→World→Prop} {Q:Exit→Act→World→Prop} {o:Oper} {V:V S.C} {us:aP S.C}
theorem Ic {s:St} {e:Ty} {l:List (e.den S.C)} {b o' cap:Nat} (hle:l.length≤cap)
 (hall: ∀ (i:Nat) (x:e.den S.C),l[i]? =some x→ ∃ ds,ds.length=Ty.sz S e∧At w s b (o'+i*Ty.sz S e) ds∧ ∃ n,aJ S w s n e x ds):cz S w s (.sl e) l (.slice (some ⟨b,o',none⟩) l.length cap):=by
 have : ∀ m,m≤l.length→ ∃ n, ∀ (i:Nat) (x:e.den S.C),i<m→l[i]? =some x→ ∃ ds,ds.length=Ty.sz S e∧At w s b (o'+i*Ty.sz S e) ds∧aJ S w s n e x ds:=by
  intro m
  induction m with
  | zero=>exact fun _=>⟨0,fun i x hi=>by omega⟩
  | succ m ih=>
   intro hm
   obtain ⟨n,hn⟩:=ih (by omega)
   obtain ⟨ds,h1,h2,n',h3⟩:=hall m l[m] (by simp)
   refine ⟨max n n',fun i x hi hx=> ?_⟩
   by_cases e:i=m
   · subst e
     have :x=l[i]:=by simpa [List.getElem?_eq_getElem (show i<l.length by omega)] using hx.symm
     subst this
     exact ⟨ds,h1,h2,h3.up S (by omega)⟩
   · obtain ⟨ds,h1,h2,h3⟩:=hn i x (by omega) hx
     exact ⟨ds,h1,h2,h3.up S (by omega)⟩
 obtain ⟨n,hn⟩:=this l.length (Nat.le_refl _)
 exact ⟨rfl,n+1,_,cap,rfl,hle, .inr ⟨b,o',rfl,fun i x hx=>hn i x (List.getElem?_eq_some_iff.1 hx).1 hx⟩⟩
theorem c_.at {s:St} {e:Ty} {l:List (e.den S.C)} {cs:List Value} (h:c_ w s e l cs) {b o':Nat} (hr:At w s b o' cs):
 ∀ i x,l[i]? =some x→ ∃ ds,ds.length=Ty.sz S e∧At w s b (o'+i*Ty.sz S e) ds∧ ∃ n,aJ S w s n e x ds:=fun i x hi=>by
 obtain ⟨n,hn⟩:=h.2 i x hi
 exact ⟨_,hn.length S,hr.part _ _,n,hn⟩
theorem Qy {s:St} {e:Ty} {l l':List (e.den S.C)} {b o':Nat}
 (h1: ∀ i x,l[i]? =some x→ ∃ ds,ds.length=Ty.sz S e∧At w s b (o'+i*Ty.sz S e) ds∧ ∃ n,aJ S w s n e x ds)
 (h2: ∀ i x,l'[i]? =some x→ ∃ ds,ds.length=Ty.sz S e∧At w s b (o'+l.length*Ty.sz S e+i*Ty.sz S e) ds∧ ∃ n,aJ S w s n e x ds):
 ∀ i x,(l++l')[i]? =some x→ ∃ ds,ds.length=Ty.sz S e∧At w s b (o'+i*Ty.sz S e) ds∧ ∃ n,aJ S w s n e x ds:=fun i x hi=>by
 by_cases hlt:i<l.length
 · rw [List.getElem?_append_left hlt] at hi; exact h1 i x hi
 · rw [List.getElem?_append_right (by omega)] at hi
   have :=h2 _ x hi
   rw [Nat.add_assoc, ← Nat.add_mul,show l.length+(i - l.length)=i from by omega] at this
   exact this
theorem wO {s:St} {e:Ty} {l l':List (e.den S.C)} {b o':Nat}
 (h1: ∀ i x,l[i]? =some x→ ∃ ds,ds.length=Ty.sz S e∧w.rangeAt b (o'+i*Ty.sz S e) ds∧ ∃ n,aJ S w s n e x ds)
 (h2: ∀ i x,l'[i]? =some x→ ∃ ds,ds.length=Ty.sz S e∧w.rangeAt b (o'+l.length*Ty.sz S e+i*Ty.sz S e) ds∧ ∃ n,aJ S w s n e x ds):
 ∀ i x,(l++l')[i]? =some x→ ∃ ds,ds.length=Ty.sz S e∧w.rangeAt b (o'+i*Ty.sz S e) ds∧ ∃ n,aJ S w s n e x ds:=fun i x hi=>by
 by_cases hlt:i<l.length
 · rw [List.getElem?_append_left hlt] at hi; exact h1 i x hi
 · rw [List.getElem?_append_right (by omega)] at hi
   have :=h2 _ x hi
   rw [Nat.add_assoc, ← Nat.add_mul,show l.length+(i - l.length)=i from by omega] at this
   exact this
theorem rm (h:Inv P S w0 M0 s0 dq env a w μ) (hd: ∀ d,o.dst=some d→d<a.tmps.size) {b B:Nat} {B0 BX:dX S.C} {L:Loc} {w':World} {T:St} {v:Value} (hb:env.bx b=some B0) (cn:live S env.bx b) (hB:env.bx B=none)
 (hrun:(execOp a.eval o).run P w= .ok (.value v) w')
 (hw:br w w' T) (hT: ∀ k o,T k o→(μ b).aM k o) (hL: ∀ k o,L.aM k o→w.heap.size≤k∨(μ b).aM k o) (hnc: ∀ vs,BX≠ .cells vs∧BX≠ .bX vs)
 (EP: ∀ s',b7 w (aN S w0 M0 s0 env.bx μ w) w' s'→RB P S w' s' (az μ B L) (az (az env.bx b (some .dead)) B (some BX)) L BX)
 (hV: ∀ s',b7 w (aN S w0 M0 s0 env.bx μ w) w' s'→(∀ k o,((μ b).aM k o∨k=w.heap.size)→k<w'.heap.size→ ¬ L.aM k o→s' k o)→
  RV P S w' s' (az μ B L) (az (az env.bx b (some .dead)) B (some BX)) V v)
 (lI: ∀ i ∈ aH S V,i=B) (hK:Goal P S w0 M0 s0 dq env a o.dst V [(b, .dead),(B,BX)] K):o.wp P a w K Q:=by
 obtain ⟨hI,hl,hm⟩:=h.swap hb cn hB hw hT hL hnc (EP _)
 unfold Oper.wp
 rw [hrun]
 refine hK _ w' _ (hI.put hd (hV _ hl hm) fun i hi=> ?_) ?_
 · rw [lI i hi]
   show az (az env.bx b (some .dead)) B (some BX) B≠none
   rw [aZ]; simp
 · cases o.dst <;> simp [Act.put]
theorem I9 {f:Operand→Option (Sy.V S.C)} {xs:List Operand} {v u:Sy.V S.C} (h:xs.mapM f=some [v,u]): ∃ x y,xs= [x,y]∧f x=some v∧f y=some u:=by
 cases xs with
 | nil=>cases h
 | cons x r=>
  obtain ⟨y,zs,h1,h2,h3⟩:=oa h
  cases h3
  cases r with
  | nil=>cases h2
  | cons x' r'=>
   obtain ⟨y',zs',h4,h5,h6⟩:=oa h2
   cases h6
   cases r' with
   | nil=>exact ⟨x,x',rfl,h1,h4⟩
   | cons x'' r''=>
    obtain ⟨y',zs',h7,h8,h9⟩:=oa h5
    cases h9
theorem br.grown {w:World} {cells:Array Value} {t:TypeId} (T:St):br w (w.drew.alloc (.cells cells t)) T:=
 (br.drew w T).trans (br.alloc w.drew _ T) (fun _ _ h=>h) (fun _ _ _ h=>h)
theorem Kw {w:World} {cells:Array Value} {t:TypeId} :(w.drew.alloc (.cells cells t)).there w.heap.size 0 cells.size∧(w.drew.alloc (.cells cells t)).rangeAt w.heap.size 0 cells.toList∧w.heap.size<(w.drew.alloc (.cells cells t)).heap.size:=by
 obtain ⟨h1,h2⟩:=qB (w:=w.drew) (cs:=cells) (t:=t)
 exact ⟨h1,h2,by simp⟩
theorem MC {w:World} {b o':Nat} {cs ds:List Value} (h:w.rangeAt b o' ds) (hp:cs <+: ds):w.rangeAt b o' cs:=fun j v hj=>by
 obtain ⟨r,rfl⟩:=hp
 exact h j v (by rw [List.getElem?_append_left (List.getElem?_eq_some_iff.1 hj).1]; exact hj)
theorem VN {α:Type} (l:List α) {n i m:Int} (h0:0≤n) (h1:n≤i) (h2:0≤m) (h3:i.toNat+m.toNat≤l.length):(oc l n i m).length=l.length:=by
 unfold oc
 simp only [List.length_append,List.length_take,List.length_drop]
 omega
theorem Qz (hP:bh P S au) (h:Inv P S w0 M0 s0 dq env a w μ) (hd: ∀ d,o.dst=some d→d<a.tmps.size) {c:Call} (ho:o.op= .call c) (hc:c.callee= .builtin .append) {args:List (Sy.V S.C)} {ids:List Nat} {B:Nat}
 (hargs:c.args.toList.mapM (aX S env.tm)=some args) (gu: ∀ V ∈ args, ∀ i ∈ aH S V,restrict S env.bx ids i=env.bx i)
 (hnew: ∀ u ∈ us,B≤u.1→u.1<B+16→env.bx u.1=none)
 (hl:(match args,c.argTypes.toList with
  | [s,x],[t,u]=>match e9 S t,e9 S u with
   | some e,some e'=>if e=e' then tX S B (au t) e (restrict S env.bx ids) x s else .fail
   | _,_=> .fail
  | _,_=> .fail).leaf (V,us)) (hK:Goal P S w0 M0 s0 dq env a o.dst V us K):o.wp P a w K Q:=by
 split at hl
 · rename_i Vs Vx t tx Fu
   split at hl
   · rename_i e e' het Tt
     split at hl
     · rename_i hee
       subst hee
       obtain ⟨xs,xx,hxs,o5,hex⟩:=I9 hargs
       obtain ⟨hs,_⟩:=bI h o5
       obtain ⟨hx,_⟩:=bI h hex
       have ht:=oV het
       have xJ:=oV Tt
       have cN:c.argTypes= #[t,tx]:=by
        have :c.argTypes=c.argTypes.toList.toArray:=by simp
        rw [this,Fu]
       have har:c.args= #[xs,xx]:=by
        have :c.args=c.args.toList.toArray:=by simp
        rw [this,hxs]
       have hrun: ∀ {v:Value} {w':World},(Builtin.append_ #[t,tx] o.type #[a.eval xs,a.eval xx]).run P w= .ok v w'→(execOp a.eval o).run P w= .ok (.value v) w':=by
        intro v w' hr
        unfold execOp
        simp only [ho]
        simp [resolve,hc,har,cN,invoke,builtin,hr]
       have Aj: ∀ BX,(B,BX) ∈ us→env.bx B=none:=fun BX hm=>hnew _ hm (Nat.le_refl _) (by show B<B+16; omega)
       have uy: ∀ y,datum S (restrict S env.bx ids) (.sl e) Vx=some y→datum S env.bx (.sl e) Vx=some y:=fun y hy=>by
        rw [← (wU (t:= .sl e) (gu Vx (by simp))).1]; exact hy
       cases Vs with
       | bu b e' l=>
        simp only [tX] at hl
        split at hl
        · rename_i hb
          have hb:=fu hb
          split at hl
          · rename_i l' hl'
            obtain ⟨e1,e2⟩:=eK hl'
            cases e1
            dsimp only at e2
            subst e2
            split at hl
            · rename_i y hy
              obtain ⟨hg,rfl,rfl⟩:=gq hl
              have hlim:(l.length+y.length)*au t≤limit:=hg (gd ((l.length+y.length)*au t≤limit)) (by simp)
              have hB:=Aj .tail (by simp)
              obtain ⟨gw,hown⟩:=hs
              obtain ⟨ad,cap,cX,Ls⟩:=hown hb
              obtain ⟨news,hsrc,hnews⟩:=(Eh h hx (uy y hy)).src hP xJ
              have hread:=gw.read
              rw [cX] at hread
              have hle:l.length≤cap:=by obtain ⟨_,_,q1,q2,_⟩:=hread; cases q1; exact q2
              obtain ⟨olds,hold,holds,_⟩:=hread.old P
              have cn:live S env.bx b:=by unfold live; rw [hb]; trivial
              have cw:w.there (μ b).b (μ b).o (μ b).n:=h.cm b _ hb
              have lI: ∀ i ∈ aH S (.bu B e (List.append l y):Sy.V S.C),i=B:=fun i hi=>by simpa [aH,aF] using hi
              rcases CC (ty:=o.type) hP ht hsrc hold holds.1 hle hlim with ⟨h0,hr⟩ | ⟨h0,hroom,hr⟩ | ⟨c',te,cells,hcap,iH,hcsz,hpre,hr⟩
              · have :y= []:=List.length_eq_zero_iff.1 h0
                subst this
                rw [← cX] at hr
                refine rm (V:= .bu B e (List.append l [])) (BX:= .tail) (L:=μ b) h hd hb cn hB (hrun hr) (br.refl w (fun _ _=>False)) (fun _ _ h=>h.elim) (fun _ _ h=> .inr h) (fun vs=>⟨by simp,by simp⟩) (fun s' hl=>cw) (fun s' hl _=>⟨?_,fun _=>⟨ad,cap, ?_, ?_⟩⟩) lI hK
                · rw [show List.append l []=l from List.append_nil l]; exact gw.mono S hl
                · rw [show List.append l []=l from List.append_nil l]; exact cX
                · rw [show List.append l []=l from List.append_nil l,aZ]; exact Ls
              · have hnl:=hsrc.newsLen
                rcases Ls with ⟨_,hc0,_⟩ | ⟨b0,off,rfl,hn,hlt⟩
                · omega
                · obtain ⟨q1,q2⟩:=hlt (by omega)
                  have hmul:y.length*Ty.sz S e≤(cap - l.length)*Ty.sz S e:=Nat.mul_le_mul_right _ (by omega)
                  have hsplit:(cap - l.length)*Ty.sz S e=y.length*Ty.sz S e+(cap - (l.length+y.length))*Ty.sz S e:=by rw [← Nat.add_mul]; congr 1; omega
                  have hsum:(l.length+y.length)*Ty.sz S e=l.length*Ty.sz S e+y.length*Ty.sz S e:=Nat.add_mul ..
                  rw [q1,q2] at cw
                  have gY:w.there b0 (off+l.length*Ty.sz S e) news.length:=oG cw (Nat.le_refl _) (by omega)
                  have hr:=hr b0 off rfl gY
                  rw [← cX] at hr
                  refine rm (V:= .bu B e (List.append l y)) (BX:= .tail) (L:=⟨b0,off+(l.length+y.length)*Ty.sz S e,(cap - (l.length+y.length))*Ty.sz S e,0,false⟩) h hd hb cn hB (hrun hr) (br.setCells w b0 _ news gY) (fun k o' hk=> ?_) (fun k o' hk=> .inr ?_) (fun vs=>⟨by simp,by simp⟩)
                   (fun s' hl=> ?_) (fun s' hl hm=>⟨?_,fun _=>⟨some ⟨b0,off,none⟩,cap, ?_, ?_⟩⟩) lI hK
                  · exact ⟨by rw [q1]; exact hk.1,by omega,by omega⟩
                  · obtain ⟨k1,k2,k3⟩:=hk
                    dsimp only at k1 k2 k3
                    exact ⟨by rw [q1]; exact k1,by omega,by omega⟩
                  · exact vY (oG cw (by dsimp only; omega) (by dsimp only; omega)) gY
                  · have hv:a.eval xs= .slice (some ⟨b0,off,none⟩) l.length cap:=cX
                    obtain ⟨_,_,z1,z2,z3⟩:=mC gw
                    rw [hv] at z1
                    cases z1
                    have hel: ∀ i x,l[i]? =some x→ ∃ ds,ds.length=Ty.sz S e∧At (w.setCells b0 (off+l.length*Ty.sz S e) news) s' b0 (off+i*Ty.sz S e) ds∧ ∃ n,aJ S (w.setCells b0 (off+l.length*Ty.sz S e) news) s' n e x ds:=by
                     intro i x hi
                     rcases z3 with z3 | ⟨b1,o1,n,z4,z5⟩
                     · have :=(List.getElem?_eq_some_iff.1 hi).1; omega
                     · cases z4
                       obtain ⟨ds,d1,d2,d3⟩:=z5 i x hi
                       exact ⟨ds,d1,d2.later hl,n,d3.mono S hl (Nat.le_refl _)⟩
                    have hnew2:At (w.setCells b0 (off+l.length*Ty.sz S e) news) s' b0 (off+l.length*Ty.sz S e) news:=fun j v hj=>by
                     have hjl:=(List.getElem?_eq_some_iff.1 hj).1
                     have xl:=BY gY j v hj
                     refine ⟨xl,hm _ _ (.inl ⟨by rw [q1],by omega,by omega⟩) (World.block_lt_of_cell? _ _ xl) fun hf=> ?_⟩
                     have :=hf.2.1
                     dsimp only at this
                     omega
                    have :=Ic (cap:=cap) (b:=b0) (o':=off) (l:=List.append l y) (by rw [show (List.append l y).length=l.length+y.length from List.length_append]; exact hroom) (Qy hel ((hnews.later hl).at hnew2))
                    rw [show (List.append l y).length=l.length+y.length from List.length_append] at this
                    exact this
                  · show Value.slice _ _ _=_
                    rw [show (List.append l y).length=l.length+y.length from List.length_append]
                  · rw [show (List.append l y).length=l.length+y.length from List.length_append,aZ]
                    exact .inr ⟨b0,off,rfl,rfl,fun _=>⟨rfl,rfl⟩⟩
              · rw [← cX] at hr
                obtain ⟨g1,g2,g3⟩:=Kw (w:=w) (cells:=cells) (t:=te)
                have hsplit:c'*Ty.sz S e=(l.length+y.length)*Ty.sz S e+(c' - (l.length+y.length))*Ty.sz S e:=by rw [← Nat.add_mul]; congr 1; omega
                refine rm (V:= .bu B e (List.append l y)) (BX:= .tail) (L:=⟨w.heap.size,(l.length+y.length)*Ty.sz S e,(c' - (l.length+y.length))*Ty.sz S e,0,false⟩) h hd hb cn hB (hrun hr) (br.grown (fun _ _=>False)) (fun _ _ h=>h.elim) (fun k o' hk=> .inl (Nat.le_of_eq hk.1.symm)) (fun vs=>⟨by simp,by simp⟩)
                 (fun s' hl=>oG g1 (Nat.zero_le _) (by dsimp only; omega)) (fun s' hl hm=>⟨?_,fun _=>⟨some ⟨w.heap.size,0,none⟩,c', ?_, ?_⟩⟩) lI hK
                · have hall:At (w.drew.alloc (.cells cells te)) s' w.heap.size 0 (olds++news):=fun j v hj=>by
                   have hjl:=(List.getElem?_eq_some_iff.1 hj).1
                   rw [List.length_append,holds.1,hnews.1, ← Nat.add_mul] at hjl
                   refine ⟨MC g2 hpre j v hj,hm _ _ (.inr rfl) g3 fun hf=> ?_⟩
                   have :=hf.2.1
                   dsimp only at this
                   omega
                  have :=Ic (cap:=c') (b:=w.heap.size) (o':=0) (l:=List.append l y) (by rw [show (List.append l y).length=l.length+y.length from List.length_append]; exact iH) (((holds.append hnews).later hl).at hall)
                  rw [show (List.append l y).length=l.length+y.length from List.length_append] at this
                  exact this
                · show Value.slice _ _ _=_
                  rw [show (List.append l y).length=l.length+y.length from List.length_append]
                · rw [show (List.append l y).length=l.length+y.length from List.length_append,aZ]
                  exact .inr ⟨_,0,rfl,rfl,fun _=>⟨rfl,by dsimp only; omega⟩⟩
            · exact hl.elim
          · exact hl.elim
        · exact hl.elim
       | aY b=>
        simp only [tX] at hl
        split at hl
        · rename_i e' l hb
          have hb:=fu hb
          split at hl
          · rename_i l' hl'
            obtain ⟨e1,e2⟩:=eK hl'
            cases e1
            dsimp only at e2
            subst e2
            split at hl
            · rename_i y hy
              obtain ⟨hg,rfl,rfl⟩:=gq hl
              have hlim:(l.length+y.length)*au t≤limit:=hg (gd ((l.length+y.length)*au t≤limit)) (by simp)
              have hB:=Aj (.arr e (List.append l y)) (by simp)
              have hread:=F7 h (.inl hb) hs
              obtain ⟨ad,cap,cX,fI⟩:=hs.2 e l (.inl hb)
              obtain ⟨news,hsrc,hnews⟩:=(Eh h hx (uy y hy)).src hP xJ
              rw [cX] at hread
              have hle:l.length≤cap:=fI.fits
              obtain ⟨olds,hold,holds,_⟩:=hread.old P
              have cn:live S env.bx b:=by unfold live; rw [hb]; trivial
              obtain ⟨b1,b2,b3,cw,b5⟩:=h.cm b _ hb
              have lI: ∀ i ∈ aH S (.aY B:Sy.V S.C),i=B:=fun i hi=>by simpa [aH,aF] using hi
              have Ti:=fI.mH
              have cW: ∀ {w':World} {s':St} {μ':Nat→Loc} {L:Loc} {v:Value} {rI:Option Addr} {cap':Nat},v= .slice rI (l.length+y.length) cap'→p7 L rI (l.length+y.length) cap' (Ty.sz S e)→μ' B=L→
               RV P S w' s' μ' (az (az env.bx b (some .dead)) B (some (.arr e (List.append l y)))) (.aY B) v:=by
               rintro w' s' μ' L v rI cap' rfl hok hμ
               refine ⟨⟨_,_,_,rfl⟩,fun e2 l2 h2=> ?_⟩
               rw [aZ] at h2
               rcases h2 with h2 | h2
               · cases h2
                 rw [hμ,show (List.append l y).length=l.length+y.length from List.length_append]
                 exact ⟨rI,cap',rfl,hok⟩
               · cases h2
              rcases CC (ty:=o.type) hP ht hsrc hold holds.1 hle hlim with ⟨h0,hr⟩ | ⟨h0,hroom,hr⟩ | ⟨c',te,cells,hcap,iH,hcsz,hpre,hr⟩
              · have :y= []:=List.length_eq_zero_iff.1 h0
                subst this
                rw [← cX] at hr
                refine rm (V:= .aY B) (BX:= .arr e (List.append l [])) (L:=μ b) h hd hb cn hB (hrun hr) (br.refl w (fun _ _=>False)) (fun _ _ h=>h.elim) (fun _ _ h=> .inr h) (fun vs=>⟨by simp,by simp⟩) (fun s' hl=> ?_) (fun s' hl _=>cW cX fI (aZ _ _ _)) lI hK
                rw [show List.append l []=l from List.append_nil l]
                refine ⟨b1,b2,b3,cw,fun i x hi=> ?_⟩
                obtain ⟨ds,d1,d2,n,d3⟩:=b5 i x hi
                exact ⟨ds,d1,d2,n,d3.mono S hl (Nat.le_refl _)⟩
              · have hnl:=hsrc.newsLen
                have jG:(μ b).nil=false:=by
                 cases hn:(μ b).nil with
                 | false=>rfl
                 | true=>have :=fI.isNil hn; omega
                have had:=fI.addr
                rw [jG] at had
                have hmul:(l.length+y.length)*Ty.sz S e≤(μ b).cap*Ty.sz S e:=Nat.mul_le_mul_right _ (by omega)
                rw [Nat.add_mul] at hmul
                have gY:w.there (μ b).b ((μ b).o+l.length*Ty.sz S e) news.length:=oG cw (by omega) (by omega)
                have hr:=hr _ _ had gY
                rw [← cX] at hr
                refine rm (V:= .aY B) (BX:= .arr e (List.append l y)) (L:=μ b) h hd hb cn hB (hrun hr) (br.setCells w (μ b).b _ news gY) (fun k o' hk=>⟨hk.1,by omega,by omega⟩) (fun k o' hk=> .inr hk) (fun vs=>⟨by simp,by simp⟩)
                 (fun s' hl=>⟨b1,b2, ?_,vY cw gY, ?_⟩) (fun s' hl hm=>cW (cap':=cap) rfl ?_ (aZ _ _ _)) lI hK
                · rw [show (List.append l y).length=l.length+y.length from List.length_append]; omega
                · refine wO (fun i x hi=> ?_) ((hnews.later hl).row (BY gY))
                  obtain ⟨ds,d1,d2,n,d3⟩:=b5 i x hi
                  refine ⟨ds,d1,ve d2 (.inr (.inl ?_)),n,d3.mono S hl (Nat.le_refl _)⟩
                  have uD:=(List.getElem?_eq_some_iff.1 hi).1
                  have :(i+1)*Ty.sz S e≤l.length*Ty.sz S e:=Nat.mul_le_mul_right _ (by omega)
                  rw [Nat.add_mul,Nat.one_mul] at this
                  omega
                · exact ⟨fI.addr,fI.mH,fI.cells,fI.isNil,hroom⟩
              · rw [← cX] at hr
                obtain ⟨g1,g2,g3⟩:=Kw (w:=w) (cells:=cells) (t:=te)
                refine rm (V:= .aY B) (BX:= .arr e (List.append l y)) (L:=⟨w.heap.size,0,c'*Ty.sz S e,c',false⟩) h hd hb cn hB (hrun hr) (br.grown (fun _ _=>False)) (fun _ _ h=>h.elim) (fun k o' hk=> .inl (Nat.le_of_eq hk.1.symm)) (fun vs=>⟨by simp,by simp⟩)
                 (fun s' hl=>⟨rfl,(fun h=>by cases h), ?_,by show World.there _ w.heap.size 0 (c'*Ty.sz S e); rw [← hcsz]; exact g1, ?_⟩) (fun s' hl hm=>cW (cap':=c') rfl ⟨rfl,rfl,rfl,(fun h=>by cases h),iH⟩ (aZ _ _ _)) lI hK
                · rw [show (List.append l y).length=l.length+y.length from List.length_append]; exact iH
                · exact ((holds.append hnews).later hl).row (MC g2 hpre)
            · exact hl.elim
          · exact hl.elim
        · exact hl.elim
       | pre b n=>
        simp only [tX] at hl
        split at hl
        · rename_i e' l b' i m hb _
          have hb:=fu hb
          cases EY:Nat.beq b' b with
          | false=>rw [EY] at hl; exact hl.elim
          | true=>
           rw [EY,cond_true] at hl
           have :=Nat.eq_of_beq_eq_true EY
           subst this
           split at hl
           · rename_i l' hl'
             obtain ⟨e1,e2⟩:=eK hl'
             cases e1
             dsimp only at e2
             subst e2
             obtain ⟨hg,rfl,rfl⟩:=gq hl
             have hni:n≤i:=hg (gd (n≤i)) (by simp)
             have TL:List.length l*au t≤limit:=hg (gd (List.length l*au t≤limit)) (by simp)
             have hB:=Aj (.arr e (oc l n i m)) (by simp)
             obtain ⟨hn0,hnl,ad,cap,cX,fI⟩:=hs.2 e l hb
             obtain ⟨hi0,hm0,Fb,Qj,cap2,FC,TR,S9⟩:=hx.2 e l hb
             obtain ⟨b1,b2,b3,cw,b5⟩:=h.cm b' _ hb
             have Ti:=fI.mH
             have cn:live S env.bx b':=by unfold live; rw [hb]; trivial
             obtain ⟨y,hy⟩: ∃ y,y=(List.drop i.toNat l).take m.toNat:=⟨_,rfl⟩
             have Ur:y.length=m.toNat:=by rw [hy,List.length_take,List.length_drop]; omega
             have Up: ∀ k x,y[k]? =some x→l[i.toNat+k]? =some x:=fun k x hk=>by
              rw [hy,List.getElem?_take] at hk
              split at hk
              · rwa [List.getElem?_drop] at hk
              · cases hk
             have hrd:Read S w (aN S w0 M0 s0 env.bx μ w) e y (a.eval xx):=by
              refine ⟨Qj,cap2,by rw [Ur]; exact FC,by omega, ?_⟩
              rcases S9 with h0 | h0
              · exact .inl (by omega)
              · refine .inr ⟨_,_,h0,fun k x hk=> ?_⟩
                obtain ⟨ds,d1,d2,q,d3⟩:=b5 _ x (Up k x hk)
                exact ⟨ds,d1,by rw [show (μ b').o+i.toNat*Ty.sz S e+k*Ty.sz S e=(μ b').o+(i.toNat+k)*Ty.sz S e from by rw [Nat.add_mul]; omega]; exact d2,q,d3⟩
             have hpl:(List.take n.toNat l).length=n.toNat:=by rw [List.length_take]; omega
             have T5:Read S w (aN S w0 M0 s0 env.bx μ w) e (List.take n.toNat l) (.slice ad (List.take n.toNat l).length cap):=by
              refine ⟨ad,cap,rfl,by rw [hpl]; exact fI.fits, ?_⟩
              by_cases h0:n.toNat=0
              · exact .inl (by rw [hpl]; exact h0)
              · have jG:(μ b').nil=false:=by
                 cases hn:(μ b').nil with
                 | false=>rfl
                 | true=>have :=fI.isNil hn; have :=fI.fits; omega
                have had:=fI.addr
                rw [jG] at had
                refine .inr ⟨_,_,had,fun k x hk=> ?_⟩
                rw [List.getElem?_take] at hk
                split at hk
                · exact b5 k x hk
                · cases hk
             obtain ⟨news,hsrc,hnews⟩:=hrd.src hP xJ
             obtain ⟨olds,hold,holds,_⟩:=T5.old P
             rw [hpl] at hold
             have hol:=holds.1
             rw [hpl] at hol
             have hlim:(n.toNat+y.length)*au t≤limit:=Nat.le_trans (Nat.mul_le_mul_right _ (by omega)) TL
             have lI: ∀ j ∈ aH S (.pre B (n+m):Sy.V S.C),j=B:=fun j hj=>by simpa [aH,aF] using hj
             have hml:=VN l hn0 hni hm0 Fb
             have hnm:(n+m).toNat=n.toNat+y.length:=by omega
             have cW: ∀ {w':World} {s':St} {μ':Nat→Loc} {v:Value},v= .slice ad (n.toNat+y.length) cap→μ' B=μ b'→
              RV P S w' s' μ' (az (az env.bx b' (some .dead)) B (some (.arr e (oc l n i m)))) (.pre B (n+m)) v:=by
              rintro w' s' μ' v rfl hμ
              refine ⟨⟨_,_,_,rfl⟩,fun e2 l2 h2=> ?_⟩
              rw [aZ] at h2
              cases h2
              rw [hμ,hml]
              exact ⟨by omega,by omega,ad,cap,by rw [hnm],fI.addr,fI.mH,fI.cells,fI.isNil,by omega⟩
             have K9:oc l n i m=(List.take n.toNat l++y)++List.drop (n.toNat+y.length) l:=by
              unfold oc; rw [hnm,hy]
             rcases CC (ty:=o.type) hP ht hsrc hold hol fI.fits hlim with ⟨h0,hr⟩ | ⟨h0,hroom,hr⟩ | ⟨c',te,cells,hcap,iH,hcsz,hpre,hr⟩
             · have hy0:y= []:=List.length_eq_zero_iff.1 h0
               rw [← cX] at hr
               refine rm (V:= .pre B (n+m)) (BX:= .arr e (oc l n i m)) (L:=μ b') h hd hb cn hB (hrun hr) (br.refl w (fun _ _=>False)) (fun _ _ h=>h.elim) (fun _ _ h=> .inr h) (fun vs=>⟨by simp,by simp⟩) (fun s' hl=> ?_) (fun s' hl _=>cW (by rw [cX,h0]; rfl) (aZ _ _ _)) lI hK
               have :oc l n i m=l:=by rw [K9,hy0]; simp
               rw [this]
               refine ⟨b1,b2,b3,cw,fun i x hi=> ?_⟩
               obtain ⟨ds,d1,d2,n,d3⟩:=b5 i x hi
               exact ⟨ds,d1,d2,n,d3.mono S hl (Nat.le_refl _)⟩
             · have aba:=hsrc.newsLen
               have jG:(μ b').nil=false:=by
                cases hn:(μ b').nil with
                | false=>rfl
                | true=>have :=fI.isNil hn; omega
               have had:=fI.addr
               rw [jG] at had
               have hmul:(n.toNat+y.length)*Ty.sz S e≤(μ b').cap*Ty.sz S e:=Nat.mul_le_mul_right _ (by omega)
               have hsum:(n.toNat+y.length)*Ty.sz S e=n.toNat*Ty.sz S e+y.length*Ty.sz S e:=Nat.add_mul ..
               have gY:w.there (μ b').b ((μ b').o+n.toNat*Ty.sz S e) news.length:=oG cw (by omega) (by omega)
               have hr:=hr _ _ had gY
               rw [← cX] at hr
               refine rm (V:= .pre B (n+m)) (BX:= .arr e (oc l n i m)) (L:=μ b') h hd hb cn hB (hrun hr) (br.setCells w (μ b').b _ news gY) (fun k o' hk=>⟨hk.1,by omega,by omega⟩) (fun k o' hk=> .inr hk) (fun vs=>⟨by simp,by simp⟩)
                (fun s' hl=>⟨b1,b2,by rw [hml]; exact b3,vY cw gY, ?_⟩) (fun s' hl hm=>cW rfl (aZ _ _ _)) lI hK
               rw [K9]
               refine wO (wO (fun k x hk=> ?_) ?_) (fun k x hk=> ?_)
               · rw [List.getElem?_take] at hk
                 split at hk
                 · rename_i hkn
                   obtain ⟨ds,d1,d2,q,d3⟩:=b5 k x hk
                   refine ⟨ds,d1,ve d2 (.inr (.inl ?_)),q,d3.mono S hl (Nat.le_refl _)⟩
                   have :(k+1)*Ty.sz S e≤n.toNat*Ty.sz S e:=Nat.mul_le_mul_right _ (by omega)
                   rw [Nat.add_mul,Nat.one_mul] at this
                   omega
                 · cases hk
               · rw [hpl]
                 exact (hnews.later hl).row (BY gY)
               · rw [List.getElem?_drop] at hk
                 obtain ⟨ds,d1,d2,q,d3⟩:=b5 _ x hk
                 rw [List.length_append,hpl,Nat.add_assoc, ← Nat.add_mul]
                 refine ⟨ds,d1,ve d2 (.inr (.inr ?_)),q,d3.mono S hl (Nat.le_refl _)⟩
                 have :(n.toNat+y.length)*Ty.sz S e≤(n.toNat+y.length+k)*Ty.sz S e:=Nat.mul_le_mul_right _ (by omega)
                 omega
             · omega
           · exact hl.elim
        · exact hl.elim
       | cH=>
        simp only [tX] at hl
        split at hl
        · rename_i y hy
          obtain ⟨hg,rfl,rfl⟩:=gq hl
          have hlim:y.length*au t≤limit:=hg (gd (y.length*au t≤limit)) (by simp)
          have hB:=Aj (.arr e y) (by simp)
          obtain ⟨news,hsrc,hnews⟩:=(Eh h hx (uy y hy)).src hP xJ
          have cX:a.eval xs= .slice none 0 0:=hs
          have hold:(Builtin.firstCells (Ty.sz S e) 0 (.slice none 0 0)).run P w.drew= .ok (#[]:Array Value) w.drew:=run_firstCells_none _ _ _ _ _
          rcases CC (olds:= []) (ty:=o.type) hP ht hsrc hold (by simp) (Nat.le_refl 0) (by rw [Nat.zero_add]; exact hlim) with ⟨h0,hr⟩ | ⟨h0,hroom,hr⟩ | ⟨c',te,cells,hcap,iH,hcsz,hpre,hr⟩
          · have :y= []:=List.length_eq_zero_iff.1 h0
            subst this
            rw [← cX] at hr
            refine rj (i:=B) (B:= .arr e []) (V:= .aY B) (L:=⟨0,0,0,0,true⟩) h (hrun hr) hd (br.refl w _) hB (fun b o' hf=> ?_) (fun hl _ h3=>⟨⟨by simp,fun _=>rfl,Nat.le_refl _,fun j hj=>absurd hj (Nat.not_lt_zero j),fun i x hi=>by simp at hi⟩,⟨⟨none,0,0,cX⟩,fun e' l' hb=> ?_⟩⟩)
             (fun vs hvs=>by rcases hvs with hvs | hvs <;> cases hvs) (fun j hj=> .inl (by simpa [aH,aF] using hj)) hK
            · have h1:=hf.2.1; have h2:=hf.2.2; simp at h2
            · rw [aZ] at hb
              rcases hb with hb | hb
              · cases hb
                rw [aZ]
                exact ⟨none,0,cX,rfl,rfl,by simp,fun _=>rfl,Nat.le_refl _⟩
              · cases hb
          · omega
          · rw [← cX] at hr
            rw [Nat.zero_add] at iH hr
            exact Iu (us:= []) (t:=te) (e:=e) (l:=y) (cap:=c') (cells:=cells) (cs:=news) (w1:=w.drew) h hd (Tk.refl S _) hB rfl ⟨rfl,rfl,rfl⟩ (hrun hr) iH hcsz hnews hpre hK
        · exact hl.elim
       | _=>exact hl.elim
     · exact hl.elim
   · exact hl.elim
 · exact hl.elim
theorem Rm {α:Type} (z:α) (l:List α) {i m:Int} (h3:i.toNat+m.toNat≤l.length) (h0:0≤i) (h1:0≤m):(wT z l i m).length=l.length:=by
 unfold wT
 simp only [List.length_append,List.length_take,List.length_drop,List.length_replicate]
 omega
theorem YV (hP:bh P S au) {t:Nat} {e:Ty} (ht:S.ty t=some (.sl e)) {ty:Nat} {ad:Option Addr} {n cap b o':Nat} {news:List Value} (had:n=0∧news= []∨ad=some ⟨b,o',none⟩)
 {te:Nat} {ie:TypeInfo} {z:Value} (hu:P.underlying t=some (.slice te)) (hz: ∀ w,(zeroValue te).run P w= .ok z w) (hn:(Builtin.zeroCells z.cells n).toList=news) (cw:w.there b o' news.length) (h1: ∀ c ∈ news,c.oneCell'=true):
 (Builtin.clear_ #[t] ty #[.slice ad n cap]).run P w= .ok (.tuple #[]) (w.setCells b o' news):=by
 rcases Nat.eq_zero_or_pos n with h0 | h0
 · subst h0
   have :news= []:=by rw [← hn]; simp [Builtin.zeroCells]
   subst this
   cases ad <;> simp [Builtin.clear_,run_underlying hu,Zk]
 · rcases had with ⟨h2,_⟩ | h2
   · omega
   · subst h2
     have hst:=run_storeCells_cells (P:=P) b o' news 0 w (by simpa using fun j hj=>(cw j hj).1) (by simpa using fun j hj=>(cw j hj).2) h1
     simp only [Nat.add_zero] at hst
     obtain ⟨m,rfl⟩: ∃ m,n=m+1:=⟨n - 1,by omega⟩
     simp [Builtin.clear_,run_underlying hu,hz,hn,hst]
theorem Rl (hP:bh P S au) (h:Inv P S w0 M0 s0 dq env a w μ) (hd: ∀ d,o.dst=some d→d<a.tmps.size) {c:Call} (ho:o.op= .call c) (hc:c.callee= .builtin .clear) {args:List (Sy.V S.C)} {ids:List Nat}
 (hargs:c.args.toList.mapM (aX S env.tm)=some args)
 (hl:(match args,c.argTypes.toList with
  | [v],[t]=>match e9 S t with
   | some e=>Ec S e (restrict S env.bx ids) v
   | none=> .fail
  | _,_=> .fail).leaf (V,us)) (hK:Goal P S w0 M0 s0 dq env a o.dst V us K):o.wp P a w K Q:=by
 split at hl
 · rename_i Vs t Fu
   split at hl
   · rename_i e het
     have hone: ∃ x,c.args= #[x]∧aX S env.tm x=some Vs:=by
      have hca:c.args=c.args.toList.toArray:=by simp
      cases e:c.args.toList with
      | nil=>rw [e] at hargs; cases hargs
      | cons x r=>
       rw [e] at hargs
       obtain ⟨y,zs,h1,h2,h3⟩:=oa hargs
       cases h3
       cases r with
       | nil=>exact ⟨x,by rw [hca,e],h1⟩
       | cons x' r'=>
        obtain ⟨y',zs',h4,h5,h6⟩:=oa h2
        cases h6
     obtain ⟨x,Tb,hex⟩:=hone
     obtain ⟨hx,_⟩:=bI h hex
     have ht:=oV het
     have cN:c.argTypes= #[t]:=by
      have :c.argTypes=c.argTypes.toList.toArray:=by simp
      rw [this,Fu]
     unfold Ec at hl
     split at hl
     · rename_i b i m _
       split at hl
       · rename_i e' l hb
         have hb:=fu hb
         split at hl
         · rename_i l' hl'
           obtain ⟨e1,e2⟩:=eK hl'
           cases e1
           dsimp only at e2
           subst e2
           obtain ⟨rfl,rfl⟩:=bL hl
           obtain ⟨hi0,hm0,Fb,ad,cap,FC,TR,had⟩:=hx.2 e l hb
           obtain ⟨b1,b2,b3,cw,b5⟩:=h.cm b _ hb
           have cn:live S env.bx b:=by unfold live; rw [hb]; trivial
           obtain ⟨te,ie,z,hu,hte,hie,hby,gr,_⟩:=hP.sl ht
           obtain ⟨⟨i',z,h1,h2,h3,h4,h5⟩,_⟩:=hP.ty te _ hte
           obtain ⟨q,hq⟩:=IB (w:=w) hP hte (aN S w0 M0 s0 env.bx μ w)
           obtain ⟨x1,x2,x3⟩:=nP (P:=P) hP.tocU μ env.bx hq
           have Li:=y5 x2 x1
           rw [← h5] at hq Li
           have Ut: ∀ w,(zeroValue te).run P w= .ok z w:=fun w=>by simp [zeroValue,typeInfo,h1,h3]
           have hzs:z.cells.size=Ty.sz S e:=by have :=hq.length S; simpa using this
           obtain ⟨news,hnews⟩: ∃ news,news=(Builtin.zeroCells z.cells m.toNat).toList:=⟨_,rfl⟩
           have KO:c_ w (aN S w0 M0 s0 env.bx μ w) e (List.replicate m.toNat (Ty.zero S e)) news:=by
            have :=c_.replicate hq m.toNat
            rw [hnews]
            have e3:Builtin.zeroCells z.cells m.toNat=madeCells z.cells (m.toNat*Ty.sz S e):=by
             unfold Builtin.zeroCells madeCells
             rw [hzs]
            rw [e3]; exact this
           have hnl:news.length=m.toNat*Ty.sz S e:=by have :=KO.1; rwa [List.length_replicate] at this
           have hsum:(i.toNat+m.toNat)*Ty.sz S e=i.toNat*Ty.sz S e+m.toNat*Ty.sz S e:=Nat.add_mul ..
           have hmul:(i.toNat+m.toNat)*Ty.sz S e≤(μ b).cap*Ty.sz S e:=Nat.mul_le_mul_right _ (by omega)
           have gY:w.there (μ b).b ((μ b).o+i.toNat*Ty.sz S e) news.length:=oG cw (by omega) (by omega)
           have hno: ∀ c ∈ news,c.oneCell'=true:=by
            intro c hc
            rw [hnews] at hc
            unfold Builtin.zeroCells at hc
            simp only [Array.toList_map,List.mem_map,Array.toList_range,List.mem_range] at hc
            obtain ⟨k,hk,rfl⟩:=hc
            have hp:0<z.cells.size:=by
             rcases Nat.eq_zero_or_pos z.cells.size with h0 | h0
             · rw [h0,Nat.mul_zero] at hk; omega
             · exact h0
            have hlt:=Nat.mod_lt k hp
            rw [getElem!_pos z.cells _ hlt]
            exact Li _ (by simp)
           have hrun:(execOp a.eval o).run P w= .ok (.value (.tuple #[])) (w.setCells (μ b).b ((μ b).o+i.toNat*Ty.sz S e) news):=by
            have hr:=YV (P:=P) (w:=w) (ty:=o.type) hP ht (ad:=ad) (n:=m.toNat) (cap:=cap) (b:=(μ b).b) (o':=(μ b).o+i.toNat*Ty.sz S e) (news:=news) (te:=te) (ie:=ie) (z:=z) (had.imp (fun h0=>⟨h0,List.length_eq_zero_iff.1 (by rw [hnl,h0,Nat.zero_mul])⟩) id) hu Ut hnews.symm gY hno
            rw [← FC] at hr
            unfold execOp
            simp only [ho]
            simp [resolve,hc,Tb,cN,invoke,builtin,hr]
           have hcl:=Rm (Ty.zero S e) l Fb hi0 hm0
           have hI:=h.write (B':= .arr e (wT (Ty.zero S e) l i m)) hb cn (fun _ e=>nomatch e) (o':=(μ b).o+i.toNat*Ty.sz S e) (vals:=news) (by omega) (by omega) ⟨rfl,rfl,hcl⟩ (fun hl oY=>⟨b1,b2,by rw [hcl]; exact b3,vY cw gY, ?_⟩) (fun ws jH=>by rcases jH with jH | jH <;> cases jH)
           · unfold Oper.wp
             rw [hrun]
             refine hK _ _ μ (hI.put hd (V:= .jw []) (v:= .tuple #[]) ⟨#[],rfl,rfl⟩ (by simp [aH])) ?_
             cases o.dst <;> simp [Act.put]
           · have hpl:(List.take i.toNat l).length=i.toNat:=by rw [List.length_take]; omega
             unfold wT
             refine wO (wO (fun k x hk=> ?_) ?_) (fun k x hk=> ?_)
             · rw [List.getElem?_take] at hk
               split at hk
               · rename_i hkn
                 obtain ⟨ds,d1,d2,q,d3⟩:=b5 k x hk
                 refine ⟨ds,d1,ve d2 (.inr (.inl ?_)),q,d3.mono S hl (Nat.le_refl _)⟩
                 have :(k+1)*Ty.sz S e≤i.toNat*Ty.sz S e:=Nat.mul_le_mul_right _ (by omega)
                 rw [Nat.add_mul,Nat.one_mul] at this
                 omega
               · cases hk
             · rw [hpl]
               exact (KO.later hl).row (BY gY)
             · rw [List.getElem?_drop] at hk
               obtain ⟨ds,d1,d2,q,d3⟩:=b5 _ x hk
               rw [List.length_append,hpl,List.length_replicate,Nat.add_assoc, ← Nat.add_mul]
               have TE:(i+m).toNat=i.toNat+m.toNat:=by omega
               rw [TE] at d2
               refine ⟨ds,d1,ve d2 (.inr (.inr ?_)),q,d3.mono S hl (Nat.le_refl _)⟩
               have :(i.toNat+m.toNat)*Ty.sz S e≤(i.toNat+m.toNat+k)*Ty.sz S e:=Nat.mul_le_mul_right _ (by omega)
               omega
         · exact hl.elim
       · exact hl.elim
     · exact hl.elim
   · exact hl.elim
 · exact hl.elim
end
end Go.Sy
namespace Go.Sy
section
variable {P:Program} {S:bf} {au:Nat→Nat}
theorem iT.length {w:World} {s:St} : ∀ {M:St} {cs:List CK} {x:bO S.C cs} {vs:List Value},iT S w s M cs x vs→vs.length=CK.cB S cs
 | _,[],_,_,h=>by rw [h.2]; rfl
 | _,c::cs,_,_,⟨M1,M2,v1,v2,h1,h2,h3,h4,h5⟩=>by subst h2; rw [List.length_append,h3,iT.length h5]; rfl
theorem Gf (hS:cU S) {w:World} {s M:St} (kL id:Nat) {cs:List CK} {x:bO S.C cs} {v:Value} (hne: ∀ i,id≤i→i<(bH S id cs x).2.2→i≠kL) (L:Loc) (hv:v= .pointer (some ⟨L.b,L.o,none⟩)) (hn:L.n=CK.cB S cs)
 (h:eH S w s M cs x v):
 ∃ lam,lam kL=L∧id≤(bH S id cs x).2.2∧cq P S w s (fun i=>i=kL∨(id≤i∧i<(bH S id cs x).2.2)) ((kL, .cells (bH S id cs x).1)::(bH S id cs x).2.1) lam M:=by
 obtain ⟨b,o,ds,M',ec,cw,dG,hM,hcs⟩:=h
 rw [ec] at hv
 cases hv
 obtain ⟨le,l2,g2,s2,r2,pR⟩:=F8 (P:=P) hS cs id hcs
 have hlen:=iT.length hcs
 have hne: ∀ u ∈ (bH S id cs x).2.1,u.1≠kL:=fun u hu=>hne _ (g2.ga u hu).1 (g2.ga u hu).2
 let lam:Nat→Loc:=fun i=>if i=kL then L else l2 i
 have e1:lam kL=L:=if_pos rfl
 have e2: ∀ u ∈ (bH S id cs x).2.1,lam u.1=l2 u.1:=fun u hu=>if_neg (hne u hu)
 have hag: ∀ μ bx,Agree ((kL, .cells (bH S id cs x).1)::(bH S id cs x).2.1) lam μ bx→Agree (bH S id cs x).2.1 l2 μ bx:=
  fun μ bx h u hu=>⟨(h u (by simp [hu])).1,(h u (by simp [hu])).2.trans (e2 u hu)⟩
 refine ⟨lam,e1,le,⟨?_, ?_, ?_, ?_, ?_, ?_, ?_⟩⟩
 · intro u hu
   rcases List.mem_cons.1 hu with rfl | hu
   · exact .inl rfl
   · exact .inr (g2.ga u hu)
 · intro u hu u' aW he
   rcases List.mem_cons.1 hu with rfl | hu <;> rcases List.mem_cons.1 aW with rfl | aW
   · rfl
   · exact absurd he.symm (hne u' aW)
   · exact absurd he (hne u hu)
   · exact g2.one u hu u' aW he
 · intro μ bx ha u hu
   rcases List.mem_cons.1 hu with rfl | hu
   · show RB P S w s μ bx (lam kL) (.cells _)
     rw [e1]
     have hr:=pR μ bx (hag μ bx ha)
     exact ⟨s2,by rw [hn, ← hlen]; exact aO.length P S hr,by rw [hn, ← hlen]; exact cw,ds,dG,hr⟩
   · rw [e2 u hu]
     exact g2.rb μ bx (hag μ bx ha) u hu
 · intro bx u hu hb
   rcases List.mem_cons.1 hu with rfl | hu
   · unfold live; rw [hb]; trivial
   · exact g2.lv bx u hu hb
 · intro b' o'
   rw [hM.1 b' o',g2.aM]
   constructor
   · rintro (h | ⟨u,hu,hf⟩)
     · refine ⟨_,List.mem_cons_self, ?_⟩
       show (lam kL).aM b' o'
       rw [e1]; exact ⟨h.1,h.2.1,by rw [hn, ← hlen]; exact h.2.2⟩
     · exact ⟨u,by simp [hu],by rw [e2 u hu]; exact hf⟩
   · rintro ⟨u,hu,hf⟩
     rcases List.mem_cons.1 hu with rfl | hu
     · have hf:(lam kL).aM b' o':=hf
       rw [e1] at hf; exact .inl ⟨hf.1,hf.2.1,by rw [hlen, ← hn]; exact hf.2.2⟩
     · rw [e2 u hu] at hf; exact .inr ⟨u,hu,hf⟩
 · intro u hu u' aW hn' b' o' hf hf'
   rcases List.mem_cons.1 hu with rfl | hu <;> rcases List.mem_cons.1 aW with rfl | aW
   · exact hn' rfl
   · have hf:(lam kL).aM b' o':=hf
     rw [e1] at hf; rw [e2 u' aW] at hf'
     exact hM.2 b' o' ⟨hf.1,hf.2.1,by rw [hlen, ← hn]; exact hf.2.2⟩ ((g2.aM b' o').2 ⟨u',aW,hf'⟩)
   · have hf':(lam kL).aM b' o':=hf'
     rw [e1] at hf'; rw [e2 u hu] at hf
     exact hM.2 b' o' ⟨hf'.1,hf'.2.1,by rw [hlen, ← hn]; exact hf'.2.2⟩ ((g2.aM b' o').2 ⟨u,hu,hf⟩)
   · rw [e2 u hu] at hf; rw [e2 u' aW] at hf'
     exact g2.dB u hu u' aW hn' b' o' hf hf'
 · intro u hu vs hvs v hv j hj
   rcases List.mem_cons.1 hu with rfl | hu
   · rcases hvs with hvs | hvs
     · cases hvs
       obtain ⟨u',aW,he⟩:=r2 v hv j hj
       exact ⟨u',by simp [aW],he⟩
     · cases hvs
   · obtain ⟨u',aW,he⟩:=g2.ref u hu vs hvs v hv j hj
     exact ⟨u',by simp [aW],he⟩
theorem VM (hS:cU S) {w:World} {s M:St} (id:Nat) {k:K} {x:k.den S.C} {v:Value} (h:nF P S w s M k x v) {κ:Sy.V S.C×aP S.C×Nat→Tr (Sy.V S.C×aP S.C)} {p:Sy.V S.C×aP S.C} (hl:(L_ S id k x κ).leaf p):
 ∃ q,(κ q).leaf p∧id≤q.2.2∧q.2.2≤id+o9 k∧ ∃ lam,cq P S w s (fun i=>id≤i∧i<q.2.2) q.2.1 lam M∧(∀ j ∈ aF S q.1, ∃ u ∈ q.2.1,u.1=j)∧
  ∀ μ bx,Agree q.2.1 lam μ bx→bP P S w s μ bx q.1 v:=by
 have pW: ∀ (M:St) (n:Nat),iU M→cq P S w s (fun i=>n≤i∧i<n) ([]:aP S.C) (fun _=>⟨0,0,0,0,true⟩) M:=fun M n hM=>cq.nil hM _
 have obj: ∀ (cs:List CK) (y:bO S.C cs),eH S w s M cs y v→(κ (.ptr id 0,(id, .cells (bH S (id+1) cs y).1)::(bH S (id+1) cs y).2.1,(bH S (id+1) cs y).2.2)).leaf p→
  ∃ q,(κ q).leaf p∧id≤q.2.2∧q.2.2≤id+(1+cs.foldl oneMore 0)∧ ∃ lam,cq P S w s (fun i=>id≤i∧i<q.2.2) q.2.1 lam M∧(∀ j ∈ aF S q.1, ∃ u ∈ q.2.1,u.1=j)∧
  ∀ μ bx,Agree q.2.1 lam μ bx→bP P S w s μ bx q.1 v:=by
  intro cs y hy hl
  obtain ⟨lam,g,le,rv⟩:=uS (P:=P) hS id hy
  refine ⟨_,hl,Nat.le_of_lt le, ?_,lam,g,fun j hj=> ?_,rv⟩
  · have :=sO cs (id+1) y 0
    show (bH S (id+1) cs y).2.2≤_
    omega
  · simp [aF] at hj
    subst hj
    exact ⟨_,List.mem_cons_self,rfl⟩
 cases k with
 | val c=>
  obtain ⟨h1,h2⟩:=h
  cases c with
  | data t=>
   obtain ⟨hM,n,hn⟩:=h1
   exact ⟨_,hl,Nat.le_refl _,Nat.le_refl _,_,pW M id hM,fun j hj=>by simp [aF] at hj,fun μ bx _=>⟨h2,n,hn⟩⟩
  | bu e=>
   obtain ⟨le,lam,g,s1,r1,rv⟩:=A3 (P:=P) hS id h1
   refine ⟨_,hl,Nat.le_succ _,Nat.le_refl _,lam,g,fun j hj=>r1 (.bu id e x) (by simp [cx]) j hj,fun μ bx ha=> ?_⟩
   obtain ⟨c,r,hc,hv,hr⟩:=rv μ bx ha
   cases hr
   rw [qh hc h2]
   exact hv
  | aY e=>
   obtain ⟨le,lam,g,s1,r1,rv⟩:=A3 (P:=P) hS id h1
   refine ⟨_,hl,Nat.le_succ _,Nat.le_refl _,lam,g,fun j hj=>r1 (.aY id) (by simp [cx]) j hj,fun μ bx ha=> ?_⟩
   obtain ⟨c,r,hc,hv,hr⟩:=rv μ bx ha
   cases hr
   rw [qh hc h2]
   exact hv
 | obj cs=>exact obj cs x h hl
 | opt cs=>
  rcases hl with ⟨hx,hl⟩ | ⟨y,hx,hl⟩
  · subst hx
    exact ⟨_,hl,Nat.le_refl _,Nat.le_add_right _ _,_,pW M id h.1,fun j hj=>by simp [aF] at hj,fun μ bx _=>h.2⟩
  · subst hx
    exact obj cs y h hl
 | cc t cs=>exact hl.elim
 | err=>exact ⟨_,hl,Nat.le_refl _,Nat.le_refl _,_,pW M id h.1,fun j hj=>by simp [aF] at hj,fun μ bx _=>h.2⟩
 | bn=>
  have h:oP S w M x v:=h
  obtain ⟨b,R,hb,_⟩:=Iff.mp Iff.rfl h
  obtain ⟨lam,e,g⟩:=D6 (P:=P) (s:=s) id (id+1) (by omega) ⟨b,0,2,0,false⟩ rfl rfl hb h
  refine ⟨_,hl,by show id≤id+2; omega,Nat.le_refl _,lam,g.weaken fun i hi=>by show id≤i∧i<id+2; omega,fun j hj=> ?_,fun μ bx ha=> ?_⟩
  · simp [aF] at hj
    subst hj
    exact ⟨_,List.mem_cons_self,rfl⟩
  · have a1:=(ha (id, .bn (id+1)) (by simp)).2
    show v= .pointer (some ⟨(μ id).b,(μ id).o+0,none⟩)
    rw [hb,show μ id=lam id from a1,e]
 | nil=>exact ⟨_,hl,Nat.le_refl _,Nat.le_refl _,_,pW M id h.1,fun j hj=>by simp [aF] at hj,fun μ bx _=>h.2⟩
 | ro t=>exact ⟨_,hl,Nat.le_refl _,Nat.le_refl _,_,pW M id h.1,fun j hj=>by simp [aF] at hj,fun μ bx _=>h.2⟩
 | fn a r=>exact ⟨_,hl,Nat.le_refl _,Nat.le_refl _,_,pW M id h.1,fun j hj=>by simp [aF] at hj,fun μ bx _=>h.2⟩
 | cD cs=>
  obtain ⟨p',hv,h⟩:=h
  obtain ⟨lam,g,le,rv⟩:=uS (P:=P) hS id h
  refine ⟨_,hl,Nat.le_of_lt le, ?_,lam,g,fun j hj=> ?_,fun μ bx ha=> ?_⟩
  · have :=sO cs (id+1) x 0
    show (bH S (id+1) cs x).2.2≤id+(1+cs.foldl oneMore 0)
    omega
  · simp [aF] at hj
    subst hj
    exact ⟨_,List.mem_cons_self,rfl⟩
  · have :Value.pointer (some p')= .pointer (some ⟨(μ id).b,(μ id).o+0,none⟩):=rv μ bx ha
    show v= .slice (some ⟨(μ id).b,(μ id).o,none⟩) (CK.cB S cs) (CK.cB S cs)
    rw [hv]
    cases this
    rfl
theorem Mc (hS:cU S) {w:World} {s:St} {os:List K} : ∀ (rs:List K) {M:St} (id:Nat) {r:Ks S.C (rs++os)} {vs:List Value} {κ:List (Sy.V S.C)×aP S.C×Nat→Rt S} {p:Sy.V S.C×aP S.C},
 cl P S w s M (rs++os) r vs→(A4 S id rs (lA S rs os r).1 κ).leaf p→
 ∃ q M1 M2 us ws,(κ q).leaf p∧vs=us++ws∧iV M M1 M2∧cl P S w s M2 os (lA S rs os r).2 ws∧id≤q.2.2∧q.2.2≤id+jI rs∧
  ∃ lam,cq P S w s (fun i=>id≤i∧i<q.2.2) q.2.1 lam M1∧(∀ v ∈ q.1, ∀ j ∈ aF S v, ∃ u ∈ q.2.1,u.1=j)∧ ∀ μ bx,Agree q.2.1 lam μ bx→aO P S w s μ bx q.1 us
 | [],M,id,r,vs,κ,p,h,hl=>⟨_,fun _ _=>False,M,[],vs,hl,rfl,⟨fun b o=>by simp,fun _ _ h=>h.elim⟩,h,Nat.le_refl _,Nat.le_refl _,fun _=>⟨0,0,0,0,true⟩,cq.nil (fun _ _ h=>h) _,by simp,fun _ _ _=>rfl⟩
 | k::rs,M,id,r,vs,κ,p,⟨M1,M2,v,vr,hM,hvs,h1,h2⟩,hl=>by
  have e1:(lA S (k::rs) os r).1=Ks.cons (Ks.head r) (lA S rs os (Ks.tail r)).1:=rfl
  have e2:(lA S (k::rs) os r).2=(lA S rs os (Ks.tail r)).2:=rfl
  rw [e1] at hl
  simp only [A4] at hl
  rw [show Ks.head (Ks.cons (Ks.head r) (lA S rs os (Ks.tail r)).1)=Ks.head (t:=k) (ts:=rs++os) r from by cases rs <;> rfl,
   show Ks.tail (Ks.cons (Ks.head r) (lA S rs os (Ks.tail r)).1)=(lA S rs os (Ks.tail r)).1 from by cases rs <;> rfl] at hl
  obtain ⟨q1,cv,a1,a2,l1,g1,r1,pQ⟩:=VM (P:=P) hS id h1 hl
  obtain ⟨q2,N1,N2,us,ws,xw,b1,b2,b3,b4,b5,l2,g2,r2,pR⟩:=Mc hS rs q1.2.2 h2 cv
  have hsp:iV (fun b o=>M1 b o∨N1 b o) M1 N1:=⟨fun _ _=>Iff.rfl,fun b o x y=>hM.2 b o x (b2.left y)⟩
  obtain ⟨g,hag⟩:=cq.both g1 g2 (fun i hi hi'=>by omega) hsp
  refine ⟨_,fun b o=>M1 b o∨N1 b o,N2,v::us,ws,xw,by rw [hvs,b1]; rfl,⟨fun b o=> ?_,fun b o x y=> ?_⟩,by rw [e2]; exact b3,Nat.le_trans a1 b4, ?_,_,g.weaken (fun i hi=> ?_),fun v' ec j hj=> ?_,fun μ bx ha=> ?_⟩
  · rw [hM.1,b2.1,or_assoc]
  · rcases x with x | x
    · exact hM.2 b o x (b2.right y)
    · exact b2.2 b o x y
  · show q2.2.2≤id+(o9 k+jI rs)
    omega
  · show id≤i∧i<q2.2.2
    omega
  · rcases List.mem_cons.1 ec with rfl | ec
    · obtain ⟨u,hu,he⟩:=r1 j hj; exact ⟨u,List.mem_append.2 (.inl hu),he⟩
    · obtain ⟨u,hu,he⟩:=r2 v' ec j hj; exact ⟨u,List.mem_append.2 (.inr hu),he⟩
  · obtain ⟨h3,h4⟩:=hag μ bx ha
    exact ⟨v,us,rfl,pQ μ bx h3,pR μ bx h4⟩
end
end Go.Sy
namespace Go.Sy
section
variable {P:Program} {S:bf} {au:Nat→Nat}
def fh:List K→List Value→List Value
 | [],_=> []
 | _::_,[]=> []
 | k::ks,v::vs=>match k with
  | .obj _ | .bn | .cc _ _=>v::fh ks vs
  | .val _ | .opt _ | .nil | .ro _ | .fn _ _ | .cD _ | .err=>fh ks vs
def Pr (S:bf) (μ:Nat→Loc) (w:World) (s:St) (t:Ty) (cs:List CK) (V:Sy.V S.C) (v:Value):Prop:=
 ∃ b c kb q,V= .split b c∧v= .pointer (some ⟨kb,q,none⟩)∧(μ b).b=kb∧(μ b).o=q+1∧(μ b).n=CK.cB S cs∧(μ c).n=CK.cB S [.data t]∧s kb q∧w.cell? ⟨kb,q,none⟩=some (.pointer (some ⟨(μ c).b,(μ c).o,none⟩))
def rB (S:bf) (μ:Nat→Loc) (w:World) (s:St):List K→List (Sy.V S.C)→List Value→Prop
 | [],_,_=>True
 | k::ks,V::Vs,v::vs=>(∀ t cs,k= .cc t cs→Pr S μ w s t cs V v)∧(∀ cs,k= .obj cs→ ∃ b,V= .ptr b 0∧v= .pointer (some ⟨(μ b).b,(μ b).o,none⟩)∧(μ b).n=CK.cB S cs)∧(k= .bn→ ∃ b,V= .ptr b 0∧v= .pointer (some ⟨(μ b).b,(μ b).o,none⟩)∧(μ b).o=0∧(μ b).n=2)∧rB S μ w s ks Vs vs
 | _::_,_,_=>False
theorem rB.later {μ:Nat→Loc} {w w':World} {s:St} (h: ∀ b o,s b o→w'.cell? ⟨b,o,none⟩=w.cell? ⟨b,o,none⟩): ∀ {ks:List K} {Vs:List (Sy.V S.C)} {vs:List Value},rB S μ w s ks Vs vs→rB S μ w' s ks Vs vs
 | [],_,_,_=>trivial
 | _::_,[],_,h1=>h1.elim
 | _::_,_::_,[],h1=>h1.elim
 | k::ks,V::Vs,v::vs,⟨h0,h1,h2,h3⟩=>⟨fun t cs e=>by
  obtain ⟨b,c,kb,q,e1,e2,e3,e4,e5,e6,e7,e8⟩:=h0 t cs e
  exact ⟨b,c,kb,q,e1,e2,e3,e4,e5,e6,e7,(h kb q e7).trans e8⟩,h1,h2,rB.later h h3⟩
theorem Ar {bx:Bx S.C} {b:Nat} {B:dX S.C} (h:sQ S B) (hb:bx b=some B):live S bx b:=by
 unfold live
 rw [hb]
 cases B <;> first | exact h.elim | trivial
theorem ye {cs:List CK} {ks:List K} {b off:Nat} {Vs:List (Sy.V S.C)} :dI S (.obj cs::ks) (.ptr b off::Vs)=b::dI S ks Vs:=rfl
theorem Mk {k:K} {ks:List K} {V:Sy.V S.C} {Vs:List (Sy.V S.C)} (h: ∀ cs,k≠ .obj cs) (h':k≠ .bn) (h'': ∀ t cs,k≠ .cc t cs):dI S (k::ks) (V::Vs)=dI S ks Vs:=by
 cases k <;> first | rfl | exact absurd rfl (h _) | exact absurd rfl h' | exact absurd rfl (h'' _ _)
theorem Wa {k:K} {ks:List K} {v:Value} {vs:List Value} (h: ∀ cs,k≠ .obj cs) (h':k≠ .bn) (h'': ∀ t cs,k≠ .cc t cs):fh (k::ks) (v::vs)=fh ks vs:=by
 cases k <;> first | rfl | exact absurd rfl (h _) | exact absurd rfl h' | exact absurd rfl (h'' _ _)
theorem mX (hS:cU S) {w:World} {s so:St} {μ:Nat→Loc} : ∀ (ps:List K) {M:St} (id:Nat) {Vs:List (Sy.V S.C)} {args:List Value} {x:Ks S.C (outs ps)},rB S μ w so ps Vs args→(dI S ps Vs).Nodup→
 (∀ b ∈ dI S ps Vs, ∀ i,id≤i→i<id+jI (outs ps)→i≠b)→cl P S w s M (outs ps) x (fh ps args)→
 ∃ lam,cq P S w s (fun i=>i ∈ dI S ps Vs∨(id≤i∧i<id+jI (outs ps))) (fJ S id ps Vs x) lam M∧ ∀ b ∈ dI S ps Vs,lam b=μ b∧ ∃ B,sQ S B∧(b,B) ∈ fJ S id ps Vs x
 | [],M,id,Vs,args,x,_,_,_,h=>⟨fun _=>⟨0,0,0,0,true⟩,by
  have :fJ S id [] Vs x= []:=rfl
  rw [this]; exact cq.nil h.1 _,by intro b hb; cases Vs <;> simp [dI] at hb⟩
 | k::ks,M,id,[],_,x,h,_,_,_=>h.elim
 | k::ks,M,id,V::Vs,[],x,h,_,_,_=>h.elim
 | k::ks,M,id,V::Vs,v::args,x,⟨SK,h0,h0',h1⟩,hnd,hid,h=>by
  by_cases hk: ∃ cs,k= .obj cs
  · obtain ⟨cs,rfl⟩:=hk
    obtain ⟨b,rfl,rfl,hn⟩:=h0 cs rfl
    rw [ye] at hnd hid
    obtain ⟨M1,M2,v',r,hM,hvs,r1,r2⟩:=h
    cases hvs
    obtain ⟨hb,xA⟩:=List.nodup_cons.1 hnd
    have hsum:jI (outs (.obj cs::ks))=1+cs.foldl oneMore 0+jI (outs ks):=rfl
    have hmk:=sO cs id (Ks.head (t:= .obj cs) x) 0
    rw [hsum] at hid
    obtain ⟨l1,e1,xX,g1⟩:=Gf (P:=P) hS b id (cs:=cs) (x:=Ks.head (t:= .obj cs) x) (fun i hi hi'=>hid b (by simp) i hi (by omega)) (μ b) rfl hn r1
    obtain ⟨l2,g2,p2⟩:=mX hS ks (bH S id cs (Ks.head (t:= .obj cs) x)).2.2 (x:=Ks.tail (t:= .obj cs) x) h1 xA (fun b' hb' i hi hi'=>hid b' (by simp [hb']) i (by omega) (by omega)) r2
    obtain ⟨g,hag⟩:=cq.both g1 g2 (fun i hi hi'=>by
     rcases hi with rfl | hi
     · rcases hi' with hi' | hi'
       · exact hb hi'
       · exact hid i (by simp) i (by omega) (by omega) rfl
     · rcases hi' with hi' | hi'
       · exact hid i (by simp [hi']) i (by omega) (by omega) rfl
       · omega) hM
    have hput:fJ S id (.obj cs::ks) (.ptr b 0::Vs) x=((b, .cells (bH S id cs (Ks.head (t:= .obj cs) x)).1)::(bH S id cs (Ks.head (t:= .obj cs) x)).2.1)++fJ S (bH S id cs (Ks.head (t:= .obj cs) x)).2.2 ks Vs (Ks.tail (t:= .obj cs) x):=rfl
    rw [hput]
    refine ⟨_,g.weaken fun i hi=> ?_,fun b' hb'=> ?_⟩
    · rw [ye,hsum]
      rcases hi with (rfl | hi) | (hi | hi)
      · exact .inl (by simp)
      · exact .inr (by omega)
      · exact .inl (by simp [hi])
      · exact .inr (by omega)
    · rw [ye] at hb'
      rcases List.mem_cons.1 hb' with rfl | hb'
      · refine ⟨?_,_,(by exact trivial),List.mem_append.2 (.inl List.mem_cons_self)⟩
        unfold both
        rw [if_pos (List.mem_map.2 ⟨_,List.mem_cons_self,rfl⟩)]
        exact e1
      · obtain ⟨p3,vs,p0,p4⟩:=p2 b' hb'
        refine ⟨?_,vs,p0,List.mem_append.2 (.inr p4)⟩
        unfold both
        rw [if_neg]
        · exact p3
        · intro hm
          obtain ⟨u,hu,he⟩:=List.mem_map.1 hm
          rcases g1.ga u hu with h | h
          · rw [he] at h; exact hb (h▸hb')
          · rw [he] at h; exact hid b' (by simp [hb']) b' (by omega) (by omega) rfl
  · have hk: ∀ cs,k≠ .obj cs:=fun cs e=>hk ⟨cs,e⟩
    by_cases hkb:k= .bn
    · subst hkb
      obtain ⟨b,rfl,rfl,hn0,hn⟩:=h0' rfl
      have hov:dI S (.bn::ks) (.ptr b 0::Vs)=b::dI S ks Vs:=rfl
      rw [hov] at hnd hid
      obtain ⟨M1,M2,v',r,hM,hvs,r1,r2⟩:=h
      cases hvs
      obtain ⟨hb,xA⟩:=List.nodup_cons.1 hnd
      have hsum:jI (outs (.bn::ks))=2+jI (outs ks):=rfl
      rw [hsum] at hid
      obtain ⟨l1,e1,g1⟩:=D6 (P:=P) (s:=s) b id (fun e=>hid b (by simp) id (Nat.le_refl _) (by omega) e) (μ b) hn0 hn (x:=Ks.head (t:= .bn) x) rfl r1
      obtain ⟨l2,g2,p2⟩:=mX hS ks (id+1) (x:=Ks.tail (t:= .bn) x) h1 xA (fun b' hb' i hi hi'=>hid b' (by simp [hb']) i (by omega) (by omega)) r2
      obtain ⟨g,hag⟩:=cq.both g1 g2 (fun i hi hi'=>by
       rcases hi with rfl | rfl
       · rcases hi' with hi' | hi'
         · exact hb hi'
         · exact hid i (by simp) i (by omega) (by omega) rfl
       · rcases hi' with hi' | hi'
         · exact hid i (by simp [hi']) i (by omega) (by omega) rfl
         · omega) hM
      have hput:fJ S id (.bn::ks) (.ptr b 0::Vs) x= [(b, .bn id),(id, .buf (Ks.head (t:= .bn) x))]++fJ S (id+1) ks Vs (Ks.tail (t:= .bn) x):=rfl
      rw [hput]
      refine ⟨_,g.weaken fun i hi=> ?_,fun b' hb'=> ?_⟩
      · rw [hov,hsum]
        rcases hi with (rfl | rfl) | (hi | hi)
        · exact .inl (by simp)
        · exact .inr (by omega)
        · exact .inl (by simp [hi])
        · exact .inr (by omega)
      · rw [hov] at hb'
        rcases List.mem_cons.1 hb' with rfl | hb'
        · refine ⟨?_,_,(by exact trivial),List.mem_append.2 (.inl List.mem_cons_self)⟩
          unfold both
          rw [if_pos (List.mem_map.2 ⟨_,List.mem_cons_self,rfl⟩)]
          exact e1
        · obtain ⟨p3,vs,p0,p4⟩:=p2 b' hb'
          refine ⟨?_,vs,p0,List.mem_append.2 (.inr p4)⟩
          unfold both
          rw [if_neg]
          · exact p3
          · intro hm
            obtain ⟨u,hu,he⟩:=List.mem_map.1 hm
            rcases g1.ga u hu with h | h
            · rw [he] at h; exact hb (h▸hb')
            · rw [he] at h; exact hid b' (by simp [hb']) b' (by omega) (by omega) rfl
    by_cases lK: ∃ t cs,k= .cc t cs
    · obtain ⟨t,cs,rfl⟩:=lK
      obtain ⟨b,c,kb,q,rfl,rfl,gr,iG,Te,Tl,_,hcell⟩:=SK t cs rfl
      have hov:dI S (.cc t cs::ks) (.split b c::Vs)=c::b::dI S ks Vs:=rfl
      rw [hov] at hnd hid
      obtain ⟨M1,M2,v',r,hM,hvs,r1,r2⟩:=h
      cases hvs
      obtain ⟨b0,o0,p,Ma,Mb,q1,q2,q3,q4,q5⟩:=r1
      cases q1
      have hp:Value.pointer (some p)= .pointer (some ⟨(μ c).b,(μ c).o,none⟩):=by
       have :=(q2 0 _ rfl).1
       rw [Nat.add_zero,hcell] at this
       exact (Option.some.inj this).symm
      obtain ⟨Aq,xA⟩:=List.nodup_cons.1 hnd
      obtain ⟨KM,TU⟩:=List.nodup_cons.1 xA
      have hsum:jI (outs (.cc t cs::ks))=2+cs.foldl oneMore 0+jI (outs ks):=rfl
      have hmk:=sO cs id (Ks.head (t:= .cc t cs) x).2 0
      rw [hsum] at hid
      obtain ⟨l0,e0,le0,g0⟩:=Gf (P:=P) hS c id (cs:= [.data t]) (x:=(Ks.head (t:= .cc t cs) x).1) (fun i hi hi'=>hid c (by simp) i hi (by have :i<id:=hi'; omega)) (μ c) hp Tl q4
      obtain ⟨l1,e1,xX,g1⟩:=Gf (P:=P) hS b id (cs:=cs) (x:=(Ks.head (t:= .cc t cs) x).2) (fun i hi hi'=>hid b (by simp) i hi (by omega)) (μ b) (by rw [gr,iG]) Te q5
      obtain ⟨l2,g2,p2⟩:=mX hS ks (bH S id cs (Ks.head (t:= .cc t cs) x).2).2.2 (x:=Ks.tail (t:= .cc t cs) x) h1 TU (fun b' hb' i hi hi'=>hid b' (by simp [hb']) i (by omega) (by omega)) r2
      obtain ⟨Kp,aaZ⟩:=cq.both g0 g1 (fun i hi hi'=>by
       have hi:i=c:=hi.elim (fun e=>e) fun h=>by
        have h1:id≤i:=h.1
        have h2:i<id:=h.2
        omega
       subst hi
       rcases hi' with hi' | hi'
       · subst hi'; exact Aq (by simp)
       · exact hid i (by simp) i (by omega) (by omega) rfl) q3
      obtain ⟨g,hag⟩:=cq.both Kp g2 (fun i hi hi'=>by
       rcases hi with (rfl | hi) | (rfl | hi)
       · rcases hi' with hi' | hi'
         · exact Aq (by simp [hi'])
         · exact hid i (by simp) i (by omega) (by omega) rfl
       · have h1:id≤i:=hi.1
         have h2:i<id:=hi.2
         omega
       · rcases hi' with hi' | hi'
         · exact KM hi'
         · exact hid i (by simp) i (by omega) (by omega) rfl
       · rcases hi' with hi' | hi'
         · exact hid i (by simp [hi']) i (by omega) (by omega) rfl
         · omega) hM
      have hput:fJ S id (.cc t cs::ks) (.split b c::Vs) x=(((c, .cells (bH S id [.data t] (Ks.head (t:= .cc t cs) x).1).1)::(bH S id [.data t] (Ks.head (t:= .cc t cs) x).1).2.1)++((b, .cells (bH S id cs (Ks.head (t:= .cc t cs) x).2).1)::(bH S id cs (Ks.head (t:= .cc t cs) x).2).2.1))++fJ S (bH S id cs (Ks.head (t:= .cc t cs) x).2).2.2 ks Vs (Ks.tail (t:= .cc t cs) x):=rfl
      rw [hput]
      refine ⟨_,g.weaken fun i hi=> ?_,fun b' hb'=> ?_⟩
      · rw [hov,hsum]
        rcases hi with ((rfl | hi) | (rfl | hi)) | (hi | hi)
        · exact .inl (by simp)
        · have h1:id≤i:=hi.1
          have h2:i<id:=hi.2
          omega
        · exact .inl (by simp)
        · exact .inr (by omega)
        · exact .inl (by simp [hi])
        · exact .inr (by omega)
      · rw [hov] at hb'
        have aa5: ∀ (dM oI:aP S.C) (la lb:Nat→Loc) (i:Nat) (B:dX S.C),(i,B) ∈ dM→both dM la lb i=la i:=fun dM oI la lb i B hi=>if_pos (List.mem_map.2 ⟨_,hi,rfl⟩)
        rcases List.mem_cons.1 hb' with rfl | hb'
        · refine ⟨?_,_,(by exact trivial),List.mem_append.2 (.inl (List.mem_append.2 (.inl List.mem_cons_self)))⟩
          unfold both
          rw [if_pos (List.mem_map.2 ⟨_,List.mem_append.2 (.inl List.mem_cons_self),rfl⟩),if_pos (List.mem_map.2 ⟨_,List.mem_cons_self,rfl⟩)]
          exact e0
        · rcases List.mem_cons.1 hb' with rfl | hb'
          · refine ⟨?_,_,(by exact trivial),List.mem_append.2 (.inl (List.mem_append.2 (.inr List.mem_cons_self)))⟩
            unfold both
            rw [if_pos (List.mem_map.2 ⟨_,List.mem_append.2 (.inr List.mem_cons_self),rfl⟩),if_neg]
            · exact e1
            · intro hm
              obtain ⟨u,hu,he⟩:=List.mem_map.1 hm
              rcases g0.ga u hu with h | h
              · rw [he] at h; exact Aq (by rw [← h]; simp)
              · rw [he] at h
                have h1:id≤b':=h.1
                have h2:b'<id:=h.2
                omega
          · obtain ⟨p3,vs,p0,p4⟩:=p2 b' hb'
            refine ⟨?_,vs,p0,List.mem_append.2 (.inr p4)⟩
            unfold both
            rw [if_neg]
            · exact p3
            · intro hm
              obtain ⟨u,hu,he⟩:=List.mem_map.1 hm
              rcases Kp.ga u hu with (h | h) | (h | h)
              · rw [he] at h; exact Aq (by rw [← h]; simp [hb'])
              · rw [he] at h
                have h1:id≤b':=h.1
                have h2:b'<id:=h.2
                omega
              · rw [he] at h; exact KM (h▸hb')
              · rw [he] at h; exact hid b' (by simp [hb']) b' (by omega) (by omega) rfl
    have lK: ∀ t cs,k≠ .cc t cs:=fun t cs e=>lK ⟨t,cs,e⟩
    rw [Mk hk hkb lK] at hnd hid ⊢
    rw [Wa hk hkb lK] at h
    cases k with
    | bn=>exact absurd rfl hkb
    | obj cs=>exact absurd rfl (hk cs)
    | cc t cs=>exact absurd rfl (lK t cs)
    | val c=>exact mX hS ks id h1 hnd hid h
    | opt cs=>exact mX hS ks id h1 hnd hid h
    | nil=>exact mX hS ks id h1 hnd hid h
    | ro t=>exact mX hS ks id h1 hnd hid h
    | fn a r=>exact mX hS ks id h1 hnd hid h
    | cD cs=>exact mX hS ks id h1 hnd hid h
    | err=>exact mX hS ks id h1 hnd hid h
theorem Mg {bx:Bx S.C} {b:Nat} {ws vs:List (Sy.V S.C)} {cs:List CK} {y':bO S.C cs} {u':aP S.C} (hb:bx b=some (.cells ws)) (hy':dW S (az bx b (some .dead)) cs vs=some (y',u'))
 (k1:Tk S bx (aA bx ((b, .dead)::u'))):aA bx ((b, .dead)::u') b=some .dead:=by
 have hpre:Tk S (az bx b (some .dead)) (aA (az bx b (some .dead)) u'):=by
  intro i
  by_cases e:i=b
  · -- from the whole step
    subst e
    rcases k1 i with e1 | ⟨e1,_⟩ | ⟨e',l',e1,e2⟩
    · -- unchanged: then it was cells, but the parts' taking leaves cells alone
      exfalso
      rw [hb] at e1
      have : ∀ (cs:List CK) (bx:Bx S.C) (vs:List (Sy.V S.C)) (x:bO S.C cs) (us:aP S.C),dW S bx cs vs=some (x,us)→ ∀ u ∈ us,u.2= .dead∨ ∃ e l,u.2= .bR e l:=by
       intro cs
       induction cs with
       | nil=>intro bx vs x us h; cases h; simp
       | cons c cs ih=>
        intro bx vs x us h
        simp only [dW] at h
        obtain ⟨⟨p,q⟩,h1,h⟩:=Option.bind_eq_some_iff.1 h
        obtain ⟨⟨p',q'⟩,h2,h⟩:=Option.bind_eq_some_iff.1 h
        cases h
        intro u hu
        rcases List.mem_append.1 hu with hu | hu
        · cases c with
          | data t=>
           simp only [ey] at h1
           obtain ⟨z,_,h1⟩:=Option.bind_eq_some_iff.1 h1
           cases h1
           obtain ⟨v,_,hv⟩:=List.mem_flatMap.1 hu
           obtain ⟨e,l,he,_⟩:=cT.cM bx v u hv
           exact .inr ⟨e,l,he⟩
          | bu e=>
           simp only [ey] at h1
           split at h1
           · split at h1
             · obtain ⟨z,_,h1⟩:=Option.bind_eq_some_iff.1 h1
               cases h1
               simp at hu; subst hu; exact .inl rfl
             · cases h1
           · cases h1; simp at hu
           · cases h1
          | aY e=>
           simp only [ey] at h1
           split at h1
           · split at h1
             · obtain ⟨z,_,h1⟩:=Option.bind_eq_some_iff.1 h1
               cases h1
               simp at hu; subst hu; exact .inl rfl
             · cases h1
           · split at h1
             · obtain ⟨z,_,h1⟩:=Option.bind_eq_some_iff.1 h1
               cases h1
               simp at hu; subst hu; exact .inl rfl
             · cases h1
           · cases h1; simp at hu
           · cases h1
        · exact ih _ _ _ _ h2 u hu
      have aW:=this _ _ _ _ _ hy'
      have : ∀ (us:aP S.C) (bx:Bx S.C),(∀ u ∈ us,u.2= .dead∨ ∃ e l,u.2= .bR e l)→(∀ ws,bx i≠some (.cells ws))→ ∀ ws,aA bx us i≠some (.cells ws):=by
       intro us
       induction us with
       | nil=>intro bx _ h; exact h
       | cons u us ih=>
        intro bx hu h
        refine ih _ (fun u' aW=>hu u' (by simp [aW])) fun ws=> ?_
        by_cases e:i=u.1
        · rw [e,aZ]
          rcases hu u (by simp) with h | ⟨_,_,h⟩ <;> rw [h] <;> simp
        · rw [bA _ _ e]; exact h ws
      exact this u' (az bx i (some .dead)) aW (by intro ws; rw [aZ]; simp) _ e1
    · exact .inl (e1.trans (aZ _ _ _).symm)
    · rw [hb] at e1; cases e1
  · rcases k1 i with e1 | ⟨e1,h2⟩ | ⟨e',l',e1,e2⟩
    · exact .inl (e1.trans (bA _ _ e).symm)
    · exact .inr (.inl ⟨e1,(eM S (bA _ _ e)).2 h2⟩)
    · exact .inr (.inr ⟨e',l',(bA _ _ e).trans e1,e2⟩)
 exact qi hpre (aZ _ _ _)
theorem ZS {fs:List (iw S)} {bx:Bx S.C} {cs:List CK} {b:Nat} :cu S fs bx (.obj cs) (.ptr b 0)=gK S bx cs b:=by
 simp only [cu,gK]
 cases hb:bx b with
 | none=>rfl
 | some B=>cases B <;> rfl
theorem OD {bx:Bx S.C} {cs:List CK} {b:Nat} {y:bO S.C cs} {us:aP S.C} (h:gK S bx cs b=some (y,us)) (hk:Tk S bx (aA bx us)):
 (∃ ws,bx b=some (.cells ws)∧ws.length=CK.cB S cs)∧aA bx us b=some .dead:=by
 unfold gK at h
 split at h
 · rename_i ws hb
   cases hw:Nat.beq ws.length (CK.cB S cs) with
   | false=>rw [hw] at h; cases h
   | true=>
    rw [hw,cond_true] at h
    obtain ⟨⟨y',u'⟩,hy',h⟩:=Option.bind_eq_some_iff.1 h
    cases h
    exact ⟨⟨ws,hb,Nat.eq_of_beq_eq_true hw⟩,Mg hb hy' hk⟩
 · cases h
theorem OB {env:Env S.C} {w:World} {s s':St} {μ:Nat→Loc} {fs:List (iw S)} (hn: ∀ i B,env.bx i=some B→RB P S w s μ env.bx (μ i) B):
 ∀ (ks:List K) {bx:Bx S.C} (hk:Tk S env.bx bx) (hks: ∀ (ks:List K) (bx:Bx S.C) (hk:Tk S env.bx bx) (Vs:List (Sy.V S.C)) (args:List Value) (x:Ks S.C ks) (us:aP S.C),fO P S w s' μ env.bx Vs args→eF S fs bx ks Vs=some (x,us)→Tk S bx (aA bx us))
  {Vs:List (Sy.V S.C)} {args:List Value} {x:Ks S.C ks} {us:aP S.C},fO P S w s' μ env.bx Vs args→eF S fs bx ks Vs=some (x,us)→
 rB S μ w s' ks Vs args∧(dI S ks Vs).Nodup∧ ∀ b ∈ dI S ks Vs,(∃ B,sQ S B∧bx b=some B)∧aA bx us b=some .dead
 | [],bx,hk,hks,[],args,x,us,h,hx=>⟨trivial,by simp [dI],by simp [dI]⟩
 | [],_,_,_,_::_,_,_,_,_,hx=>by cases hx
 | _::_,_,_,_,[],_,_,_,_,hx=>by cases hx
 | k::ks,bx,hk,hks,V::Vs,args,x,us,⟨v,r,hargs,h1,h2⟩,hx=>by
  subst hargs
  simp only [eF] at hx
  obtain ⟨⟨y,u1⟩,hy,hx⟩:=Option.bind_eq_some_iff.1 hx
  obtain ⟨⟨z,u2⟩,hz,hx⟩:=Option.bind_eq_some_iff.1 hx
  cases hx
  have hone:eF S fs bx [k] [V]=some (Ks.cons (t:=k) (ts:= []) y (),u1++ []):=by
   simp only [eF]
   rw [hy]; rfl
  have k1:=hks [k] bx hk [V] [v] _ _ ⟨v,[],rfl,h1,rfl⟩ hone
  rw [List.append_nil] at k1
  have k2:=hks ks _ (hk.trans S k1) Vs r _ _ h2 hz
  obtain ⟨o1,o2,o3⟩:=OB hn ks (hk.trans S k1) hks h2 hz
  by_cases xB: ∃ cs,k= .obj cs
  · obtain ⟨cs,rfl⟩:=xB
    simp only [cu] at hy
    split at hy
    · rename_i b off
      split at hy
      · rename_i ws hb
        cases hw:Nat.beq off 0&&Nat.beq ws.length (CK.cB S cs) with
        | false=>rw [hw] at hy; cases hy
        | true=>
         rw [hw,cond_true] at hy
         rw [Bool.and_eq_true] at hw
         have w1:=Nat.eq_of_beq_eq_true hw.1
         have w2:=Nat.eq_of_beq_eq_true hw.2
         subst w1
         obtain ⟨⟨y',u'⟩,hy',hy⟩:=Option.bind_eq_some_iff.1 hy
         cases hy
         have hlb:live S bx b:=by unfold live; rw [hb]; trivial
         have hb0:env.bx b=some (.cells ws):=(hk.eg hlb).symm.trans hb
         have hrb:=hn b _ hb0
         have lJ:aA bx ((b, .dead)::u') b=some .dead:=Mg hb hy' k1
         have hv:v= .pointer (some ⟨(μ b).b,(μ b).o+0,none⟩):=h1
         refine ⟨⟨(fun t' cs' e=>nomatch e),fun cs' e=> ?_,(fun e=>nomatch e),o1⟩, ?_, ?_⟩
         · cases e
           exact ⟨b,rfl,hv,by rw [hrb.2.1,w2]⟩
         · rw [ye]
           refine List.nodup_cons.2 ⟨fun hm=> ?_,o2⟩
           obtain ⟨oM,hh,hw'⟩:=(o3 b hm).1
           rw [lJ] at hw'
           cases hw'
           exact hh
         · rw [ye,jX]
           intro b' hb'
           rcases List.mem_cons.1 hb' with rfl | hb'
           · exact ⟨⟨_,(by exact trivial),hb⟩,qi k2 lJ⟩
           · obtain ⟨⟨oM,hh,hw'⟩,h'⟩:=o3 b' hb'
             have hl':live S (aA bx ((b, .dead)::u')) b':=Ar hh hw'
             exact ⟨⟨oM,hh,by rw [← k1.eg hl']; exact hw'⟩,h'⟩
      · cases hy
    · cases hy
  · have xB: ∀ cs,k≠ .obj cs:=fun cs e=>xB ⟨cs,e⟩
    by_cases hkb:k= .bn
    · subst hkb
      simp only [cu] at hy
      split at hy
      · split at hy
        · split at hy
          · rename_i b off _ j hb _ l hj
            cases hw:Nat.beq off 0 with
            | false=>rw [hw] at hy; cases hy
            | true=>
             rw [hw] at hy
             cases hy
             have ho:=Nat.eq_of_beq_eq_true hw
             subst ho
             have hne:j≠b:=fun e=>by subst e; rw [hb] at hj; cases hj
             have hlb:live S bx b:=by unfold live; rw [hb]; trivial
             have hb0:env.bx b=some (.bn j):=(hk.eg hlb).symm.trans hb
             have hrb:=hn b _ hb0
             have lJ:aA bx [(b, .dead),(j, .dead)] b=some .dead:=(bA _ _ hne.symm).trans (aZ _ _ _)
             have hv:v= .pointer (some ⟨(μ b).b,(μ b).o+0,none⟩):=h1
             have hov:dI S (.bn::ks) (.ptr b 0::Vs)=b::dI S ks Vs:=rfl
             refine ⟨⟨(fun t' cs' e=>nomatch e),(fun cs' e=>nomatch e),fun _=>⟨b,rfl,hv,hrb.1,hrb.2.1⟩,o1⟩, ?_, ?_⟩
             · rw [hov]
               refine List.nodup_cons.2 ⟨fun hm=> ?_,o2⟩
               obtain ⟨oM,hh,hw'⟩:=(o3 b hm).1
               rw [lJ] at hw'
               cases hw'
               exact hh
             · rw [hov,jX]
               intro b' hb'
               rcases List.mem_cons.1 hb' with rfl | hb'
               · exact ⟨⟨_,(by exact trivial),hb⟩,qi k2 lJ⟩
               · obtain ⟨⟨oM,hh,hw'⟩,h'⟩:=o3 b' hb'
                 have hl':live S (aA bx [(b, .dead),(j, .dead)]) b':=Ar hh hw'
                 exact ⟨⟨oM,hh,by rw [← k1.eg hl']; exact hw'⟩,h'⟩
          · cases hy
        · cases hy
      · cases hy
    by_cases lK: ∃ t cs,k= .cc t cs
    · obtain ⟨t,cs,rfl⟩:=lK
      simp only [cu] at hy
      split at hy
      · rename_i b c
        obtain ⟨⟨ya,ua⟩,FD,hy⟩:=Option.bind_eq_some_iff.1 hy
        obtain ⟨⟨yb,ub⟩,FE,hy⟩:=Option.bind_eq_some_iff.1 hy
        cases hy
        dsimp only at FD FE
        have Lh: ∀ (bx:Bx S.C) (cs:List CK) (i:Nat) (y:bO S.C cs) (u:aP S.C),Tk S env.bx bx→gK S bx cs i=some (y,u)→Tk S bx (aA bx u):=fun bx cs i y u sF h0=>by
         have :=hks [.obj cs] bx sF [.ptr i 0] [.pointer (some ⟨(μ i).b,(μ i).o+0,none⟩)] (Ks.cons (t:= .obj cs) (ts:= []) y ()) (u++ []) ⟨_,_,rfl,rfl,rfl⟩ (by
          simp only [eF]
          rw [ZS,h0]; rfl)
         rwa [List.append_nil] at this
        have ka:=Lh bx _ _ _ _ hk FD
        have kb':=Lh _ _ _ _ _ (hk.trans S ka) FE
        obtain ⟨⟨wa,hca,hla⟩,hda⟩:=OD FD ka
        obtain ⟨⟨wb,hcb,hlb⟩,hdb⟩:=OD FE kb'
        have TN:live S (aA bx ua) b:=by unfold live; rw [hcb]; trivial
        have E2:bx b=some (.cells wb):=(ka.eg TN).symm.trans hcb
        have TP:live S bx c:=by unfold live; rw [hca]; trivial
        have TO:live S bx b:=by unfold live; rw [E2]; trivial
        have hne:c≠b:=fun e=>by subst e; rw [hda] at hcb; cases hcb
        have hc0:env.bx c=some (.cells wa):=(hk.eg TP).symm.trans hca
        have hb0:env.bx b=some (.cells wb):=(hk.eg TO).symm.trans E2
        obtain ⟨kb,q,e1,e2,e3,e4⟩:=h1
        have cN:=e2 0 _ rfl
        rw [Nat.add_zero] at cN
        have hov:dI S (.cc t cs::ks) (.split b c::Vs)=c::b::dI S ks Vs:=rfl
        have KR:aA bx (ua++ub) c=some .dead:=by rw [jX]; exact qi kb' hda
        have KQ:aA bx (ua++ub) b=some .dead:=by rw [jX]; exact hdb
        have hout: ∀ i ∈ dI S ks Vs,aA bx (ua++ub) i≠some .dead:=fun i hi he=>by
         obtain ⟨oM,hh,hw'⟩:=(o3 i hi).1
         rw [he] at hw'
         cases hw'
         exact hh
        refine ⟨⟨fun t' cs' e=> ?_,(fun cs' e=>nomatch e),(fun e=>nomatch e),o1⟩, ?_, ?_⟩
        · cases e
          exact ⟨b,c,kb,q,rfl,e1,e3,e4,by rw [(hn b _ hb0).2.1,hlb],by rw [(hn c _ hc0).2.1,hla],cN.2,cN.1⟩
        · rw [hov]
          refine List.nodup_cons.2 ⟨fun hm=> ?_,List.nodup_cons.2 ⟨fun hm=>hout b hm KQ,o2⟩⟩
          rcases List.mem_cons.1 hm with e | hm
          · exact hne e
          · exact hout c hm KR
        · rw [hov,jX]
          intro b' hb'
          rcases List.mem_cons.1 hb' with rfl | hb'
          · exact ⟨⟨_,(by exact trivial),hca⟩,qi k2 KR⟩
          · rcases List.mem_cons.1 hb' with rfl | hb'
            · exact ⟨⟨_,(by exact trivial),E2⟩,qi k2 KQ⟩
            · obtain ⟨⟨oM,hh,hw'⟩,h'⟩:=o3 b' hb'
              have hl':live S (aA bx (ua++ub)) b':=Ar hh hw'
              exact ⟨⟨oM,hh,by rw [← k1.eg hl']; exact hw'⟩,h'⟩
      · cases hy
    have lK: ∀ t cs,k≠ .cc t cs:=fun t cs e=>lK ⟨t,cs,e⟩
    rw [Mk xB hkb lK,jX]
    refine ⟨⟨fun t cs e=>absurd e (lK t cs),fun cs e=>absurd e (xB cs),fun e=>absurd e hkb,o1⟩,o2,fun b' hb'=> ?_⟩
    obtain ⟨⟨oM,hh,hw'⟩,h'⟩:=o3 b' hb'
    have hl':live S (aA bx u1) b':=Ar hh hw'
    exact ⟨⟨oM,hh,by rw [← k1.eg hl']; exact hw'⟩,h'⟩
end
end Go.Sy
namespace Go.Sy
section
variable {P:Program} {S:bf} {au:Nat→Nat}
variable {w0:World} {M0 s0:St} {dq:List Deferred} {env:Env S.C} {a:Act} {w:World} {μ:Nat→Loc}
theorem bP.mono {w w':World} {s s':St} {μ:Nat→Loc} {bx:Bx S.C} (hl:b7 w s w' s') {V:V S.C} {v:Value} (h:bP P S w s μ bx V v):bP P S w' s' μ bx V v:=by
 cases V with
 | d t x=>exact cz.mono S hl h
 | bu b e l=>exact ⟨cz.mono S hl h.1,h.2⟩
 | dF t x=>exact nG.mono S hl h
 | fv a r g=>exact nE.mono P S hl h
 | split b c=>obtain ⟨k,q,h1,h2,h3⟩:=h; exact ⟨k,q,h1,h2.later hl,h3⟩
 | mY c=>obtain ⟨k,q,h1,h2⟩:=h; exact ⟨k,q,h1,h2.later hl⟩
 | _=>exact h
theorem aO.mono {w w':World} {s s':St} {μ:Nat→Loc} {bx:Bx S.C} (hl:b7 w s w' s'): ∀ {vs:List (V S.C)} {cs:List Value},aO P S w s μ bx vs cs→aO P S w' s' μ bx vs cs
 | [],_,h=>h
 | _::_,_,⟨c,r,h1,h2,h3⟩=>⟨c,r,h1,h2.mono hl,aO.mono hl h3⟩
theorem RB.mono {w:World} {s s':St} {μ:Nat→Loc} {bx:Bx S.C} (hl:b7 w s w s') {L:Loc} {B:dX S.C} (h:RB P S w s μ bx L B):RB P S w s' μ bx L B:=by
 cases B with
 | cells vs=>
  obtain ⟨h1,h2,h3,cs,h4,h5⟩:=h
  exact ⟨h1,h2,h3,cs,h4,h5.mono hl⟩
 | bX vs=>
  obtain ⟨h1,cs,h4,h5⟩:=h
  exact ⟨h1,cs,h4.later hl,h5.mono hl⟩
 | arr e l=>
  obtain ⟨h1,h2,h3,h4,h5⟩:=h
  refine ⟨h1,h2,h3,h4,fun i x hi=> ?_⟩
  obtain ⟨ds,d1,d2,n,d3⟩:=h5 i x hi
  exact ⟨ds,d1,d2,n,d3.mono S hl (Nat.le_refl _)⟩
 | bR e l=>
  obtain ⟨h2,h3,h5⟩:=h
  refine ⟨h2,h3,fun i x hi=> ?_⟩
  obtain ⟨ds,d1,d2,n,d3⟩:=h5 i x hi
  exact ⟨ds,d1,d2.later hl,n,d3.mono S hl (Nat.le_refl _)⟩
 | tail=>exact h
 | dead=>trivial
 | bn j=>exact h
 | buf l=>exact h
def DF (us:aP S.C):Prop:= ∀ u ∈ us,u.2= .dead∨ ∃ e l,u.2= .bR e l
theorem DF.append {us vs:aP S.C} (h:DF us) (h':DF vs):DF (us++vs):=fun u hu=>(List.mem_append.1 hu).elim (h u) (h' u)
theorem DF.fz {bx:Bx S.C} {us:aP S.C} (h:cT bx us):DF us:=fun u hu=>by obtain ⟨e,l,he,_⟩:=h u hu; exact .inr ⟨e,l,he⟩
theorem DF.ey {bx:Bx S.C} {c:CK} {vs:List (Sy.V S.C)} {x:c.den S.C} {us:aP S.C} (h1:ey S bx c vs=some (x,us)):DF us:=by
 intro u hu
 cases c with
 | data t=>
  simp only [Sy.ey] at h1
  obtain ⟨z,_,h1⟩:=Option.bind_eq_some_iff.1 h1
  cases h1
  obtain ⟨v,_,hv⟩:=List.mem_flatMap.1 hu
  obtain ⟨e,l,he,_⟩:=cT.cM bx v u hv
  exact .inr ⟨e,l,he⟩
 | bu e=>
  simp only [Sy.ey] at h1
  split at h1
  · split at h1
    · obtain ⟨z,_,h1⟩:=Option.bind_eq_some_iff.1 h1
      cases h1
      simp at hu; subst hu; exact .inl rfl
    · cases h1
  · cases h1; simp at hu
  · cases h1
 | aY e=>
  simp only [Sy.ey] at h1
  split at h1
  · split at h1
    · obtain ⟨z,_,h1⟩:=Option.bind_eq_some_iff.1 h1
      cases h1
      simp at hu; subst hu; exact .inl rfl
    · cases h1
  · split at h1
    · obtain ⟨z,_,h1⟩:=Option.bind_eq_some_iff.1 h1
      cases h1
      simp at hu; subst hu; exact .inl rfl
    · cases h1
  · cases h1; simp at hu
  · cases h1
theorem DF.dW: ∀ {cs:List CK} {bx:Bx S.C} {vs:List (Sy.V S.C)} {x:bO S.C cs} {us:aP S.C},dW S bx cs vs=some (x,us)→DF us
 | [],_,_,_,_,h=>by cases h; intro u hu; simp at hu
 | c::cs,bx,vs,x,us,h=>by
  simp only [Sy.dW] at h
  obtain ⟨⟨p,q⟩,h1,h⟩:=Option.bind_eq_some_iff.1 h
  obtain ⟨⟨p',q'⟩,h2,h⟩:=Option.bind_eq_some_iff.1 h
  cases h
  exact (DF.ey h1).append (DF.dW h2)
theorem DF.gK {cs:List CK} {bx:Bx S.C} {b:Nat} {x:bO S.C cs} {us:aP S.C} (hx:gK S bx cs b=some (x,us)):DF us:=by
 unfold Sy.gK at hx
 split at hx
 · rename_i ws hb
   cases hw:Nat.beq ws.length (CK.cB S cs) with
   | false=>rw [hw] at hx; cases hx
   | true=>
    rw [hw,cond_true] at hx
    obtain ⟨⟨y,u'⟩,hy,hx⟩:=Option.bind_eq_some_iff.1 hx
    cases hx
    intro u hu
    rcases List.mem_cons.1 hu with rfl | hu
    · exact .inl rfl
    · exact DF.dW hy u hu
 · cases hx
theorem DF.cu {fs:List (iw S)} {bx:Bx S.C} {k:K} {V:Sy.V S.C} {x:k.den S.C} {us:aP S.C} (hx:cu S fs bx k V=some (x,us)):DF us:=by
 have obj: ∀ (b:Nat) (us':aP S.C),DF us'→DF ((b, .dead)::us'):=fun b us' h u hu=>by
  rcases List.mem_cons.1 hu with rfl | hu
  · exact .inl rfl
  · exact h u hu
 cases k with
 | val c=>
  cases c with
  | data t=>
   simp only [Sy.cu] at hx
   obtain ⟨y,hy,hx⟩:=Option.bind_eq_some_iff.1 hx
   cases hx
   exact DF.fz (cT.dr bx V)
  | bu e=>exact DF.ey (c:= .bu e) hx
  | aY e=>exact DF.ey (c:= .aY e) hx
 | obj ps=>
  simp only [Sy.cu] at hx
  split at hx
  · split at hx
    · rename_i b off _ ws hb
      cases hw:Nat.beq off 0&&Nat.beq ws.length (CK.cB S ps) with
      | false=>rw [hw] at hx; cases hx
      | true=>
       rw [hw,cond_true] at hx
       obtain ⟨⟨y,u'⟩,hy,hx⟩:=Option.bind_eq_some_iff.1 hx
       cases hx
       exact obj _ _ (DF.dW hy)
    · cases hx
  · cases hx
 | cc t ps=>
  simp only [Sy.cu] at hx
  split at hx
  · obtain ⟨⟨y,u1⟩,hy,hx⟩:=Option.bind_eq_some_iff.1 hx
    obtain ⟨⟨z,u2⟩,hz,hx⟩:=Option.bind_eq_some_iff.1 hx
    cases hx
    exact (DF.gK hy).append (DF.gK hz)
  · cases hx
 | opt ps=>
  simp only [Sy.cu] at hx
  split at hx
  · cases hx; intro u hu; simp at hu
  · split at hx
    · rename_i b off _ ws hb
      cases hw:Nat.beq off 0&&Nat.beq ws.length (CK.cB S ps) with
      | false=>rw [hw] at hx; cases hx
      | true=>
       rw [hw,cond_true] at hx
       obtain ⟨⟨y,u'⟩,hy,hx⟩:=Option.bind_eq_some_iff.1 hx
       cases hx
       exact obj _ _ (DF.dW hy)
    · cases hx
  · cases hx
 | cD ps=>
  simp only [Sy.cu] at hx
  split at hx
  · split at hx
    · rename_i b n _ ws hb
      cases hw:Nat.beq n ws.length&&Nat.beq ws.length (CK.cB S ps) with
      | false=>rw [hw] at hx; cases hx
      | true=>
       rw [hw,cond_true] at hx
       obtain ⟨⟨y,u'⟩,hy,hx⟩:=Option.bind_eq_some_iff.1 hx
       cases hx
       exact obj _ _ (DF.dW hy)
    · cases hx
  · cases hx
 | err=>
  simp only [Sy.cu] at hx
  split at hx
  · cases hx; intro u hu; simp at hu
  · cases hx
 | bn=>
  simp only [Sy.cu] at hx
  split at hx
  · split at hx
    · split at hx
      · rename_i b off _ j hb _ l hj
        cases hw:Nat.beq off 0 with
        | false=>rw [hw] at hx; cases hx
        | true=>
         rw [hw] at hx
         cases hx
         intro u hu
         simp only [List.mem_cons,List.not_mem_nil,or_false] at hu
         rcases hu with rfl | rfl <;> exact .inl rfl
      · cases hx
    · cases hx
  · cases hx
 | nil=>
  simp only [Sy.cu] at hx
  split at hx
  · cases hx; intro u hu; simp at hu
  · cases hx
 | ro t=>
  simp only [Sy.cu] at hx
  obtain ⟨y,hy,hx⟩:=Option.bind_eq_some_iff.1 hx
  cases hx; intro u hu; simp at hu
 | fn A R=>
  simp only [Sy.cu] at hx
  obtain ⟨y,hy,hx⟩:=Option.bind_eq_some_iff.1 hx
  cases hx; intro u hu; simp at hu
theorem DF.eF {fs:List (iw S)} : ∀ {ks:List K} {bx:Bx S.C} {Vs:List (Sy.V S.C)} {x:Ks S.C ks} {us:aP S.C},eF S fs bx ks Vs=some (x,us)→DF us
 | [],_,[],_,_,h=>by cases h; intro u hu; simp at hu
 | [],_,_::_,_,_,h=>by cases h
 | _::_,_,[],_,_,h=>by cases h
 | k::ks,bx,V::Vs,x,us,h=>by
  simp only [Sy.eF] at h
  obtain ⟨⟨p,q⟩,h1,h⟩:=Option.bind_eq_some_iff.1 h
  obtain ⟨⟨p',q'⟩,h2,h⟩:=Option.bind_eq_some_iff.1 h
  cases h
  exact (DF.cu h1).append (DF.eF h2)
theorem AN {i:Nat} : ∀ {us:aP S.C} {bx lC:Bx S.C} (fW:Bool),(bx i=some .dead→lC i=some .dead)→aA bx us i=some .dead→aA lC (kT S fW us) i=some .dead
 | [],bx,lC,fW,h,hu=>by
  have :kT S fW ([]:aP S.C)= []:=by cases fW <;> rfl
  rw [this]; exact h hu
 | u::us,bx,lC,true,h,hu=>AN (us:=us) (bx:=az bx u.1 (some u.2)) (lC:=az lC u.1 (some u.2)) true (fun hi=>by
  by_cases e:i=u.1
  · rw [e,aZ] at hi ⊢; exact hi
  · rw [bA _ _ e] at hi ⊢; exact h hi) hu
 | (k,B)::us,bx,lC,false,h,hu=>by
  have keep:aA lC ((k,B)::kT S false us) i=some .dead:=AN (us:=us) (bx:=az bx k (some B)) (lC:=az lC k (some B)) false (fun hi=>by
   by_cases e:i=k
   · rw [e,aZ] at hi ⊢; exact hi
   · rw [bA _ _ e] at hi ⊢; exact h hi) hu
  cases B with
  | bR e l=>
   refine AN (us:=us) (bx:=az bx k (some (.bR e l))) (lC:=lC) false (fun hi=> ?_) hu
   by_cases e:i=k
   · rw [e,aZ] at hi
     cases hi
   · rw [bA _ _ e] at hi; exact h hi
  | _=>exact keep
theorem OZ {i:Nat} : ∀ {us:aP S.C} {bx:Bx S.C},(∀ u ∈ us,u.2= .dead)→aA bx us i=bx i∨aA bx us i=some .dead
 | [],_,_=> .inl rfl
 | u::us,bx,h=>by
  rcases OZ (us:=us) (bx:=az bx u.1 (some u.2)) (fun v hv=>h v (by simp [hv])) with h1 | h1
  · by_cases e:i=u.1
    · right; show aA (az bx u.1 (some u.2)) us i=_
      rw [h1,e,aZ,h u (by simp)]
    · left; show aA (az bx u.1 (some u.2)) us i=_
      rw [h1,bA _ _ e]
  · exact .inr h1
theorem UH {us:aP S.C} (h:DF us) (fW:Bool) (bx:Bx S.C) (i:Nat):
 aA bx (kT S fW us) i=bx i∨aA bx (kT S fW us) i=some .dead∨(fW=true∧aA bx (kT S fW us) i=aA bx us i):=by
 cases fW with
 | true=>exact .inr (.inr ⟨rfl,rfl⟩)
 | false=>
  rcases OZ (i:=i) (us:=kT S false us) (bx:=bx) (fun u hu=>by
   unfold kT at hu
   rw [cond_false,List.mem_filter] at hu
   rcases h u hu.1 with h1 | ⟨e,l,h1⟩
   · exact h1
   · rw [h1] at hu; exact absurd hu.2 (by simp)) with h1 | h1
  · exact .inl h1
  · exact .inr (.inl h1)
theorem Inv.call (h:Inv P S w0 M0 s0 dq env a w μ) {dM gs:aP S.C} {fW:Bool} {M M' s':St} {w':World} {lam:Nat→Loc} {I:Nat→Prop} {E4:List Nat}
 (hdf:DF dM) (hk:Tk S env.bx (aA env.bx dM)) (hM:cy S env μ env.bx (aA env.bx dM) M) (hw:br w w' M)
 (hs': ∀ b o,s' b o→b<w'.heap.size∧ ¬ M' b o∧(cC S w0 M0 s0 env.bx (aA env.bx dM) μ w b o∨M b o∨w.heap.size≤b))
 (qn: ∀ b o,M' b o→M b o∨w.heap.size≤b) (hG:cq P S w' s' I gs lam M') (hI: ∀ i,I i→i ∈ E4∨env.bx i=none)
 (hh: ∀ b ∈ E4,(∃ B,sQ S B∧env.bx b=some B)∧lam b=μ b∧ ∃ B,sQ S B∧(b,B) ∈ gs) (hl:fW=true∨ ∀ b o, ¬ s' b o):
 ∃ μ',Inv P S w0 M0 s0 dq { env with bx:=aA env.bx (kT S fW dM++gs) } a w' μ'∧b7 w' s' w' (aN S w0 M0 s0 (aA env.bx (kT S fW dM++gs)) μ' w')∧
  Agree gs lam μ' (aA env.bx (kT S fW dM++gs)):=by
 rw [jX]
 generalize E0:aA env.bx (kT S fW dM)=eJ
 let μ':Nat→Loc:=fun i=>if i ∈ gs.map (·.1) then lam i else μ i
 have hin: ∀ u ∈ gs,aA eJ gs u.1=some u.2∧μ' u.1=lam u.1:=fun u hu=>⟨Dm gs eJ hG.one u hu,if_pos (List.mem_map.2 ⟨u,hu,rfl⟩)⟩
 have hout: ∀ i,(∀ u ∈ gs,u.1≠i)→aA eJ gs i=eJ i∧μ' i=μ i:=fun i hi=>⟨v_ gs eJ hi,if_neg fun hm=>by
  obtain ⟨u,hu,he⟩:=List.mem_map.1 hm; exact hi u hu he⟩
 have gr: ∀ i,eJ i=env.bx i∨eJ i=some .dead∨(fW=true∧eJ i=aA env.bx dM i):=fun i=>by rw [← E0]; exact UH hdf fW env.bx i
 have lJ: ∀ i,aA env.bx dM i=some .dead→eJ i=some .dead:=fun i hi=>by rw [← E0]; exact AN fW (fun h=>h) hi
 have hlv: ∀ i,live S eJ i→eJ i=env.bx i∧live S env.bx i:=fun i hi=>by
  have h1:eJ i=env.bx i:=by
   rcases gr i with h1 | h1 | ⟨_,h1⟩
   · exact h1
   · unfold live at hi; rw [h1] at hi; exact hi.elim
   · rw [h1]; exact hk.eg ((eM S h1).1 hi)
  exact ⟨h1,(eM S h1).1 hi⟩
 let U:Nat→Prop:=fun i=>(∃ u ∈ gs,u.1=i)∨eJ i≠env.bx i
 have uw: ∀ b o,M b o→ ∃ i,live S env.bx i∧eJ i=some .dead∧(μ i).aM b o:=fun b o hm=>by
  obtain ⟨i,h1,_,h3,h4⟩:=hM b o hm
  exact ⟨i,h1,lJ i h3,h4⟩
 have ES: ∀ i,live S env.bx i→eJ i=some .dead→U i:=fun i h1 h2=> .inr fun e=>by
  unfold live at h1; rw [← e,h2] at h1; exact h1
 have hT: ∀ b o,M b o→b<w.heap.size→ ∃ i,U i∧live S env.bx i∧(μ i).aM b o:=fun b o hm _=>by
  obtain ⟨i,h1,h2,h3⟩:=uw b o hm
  exact ⟨i,ES i h1 h2,h1,h3⟩
 have hU: ∀ i, ¬ U i→aA eJ gs i=env.bx i∧μ' i=μ i:=fun i hi=>by
  obtain ⟨h1,h2⟩:=hout i fun u hu e=>hi (.inl ⟨u,hu,e⟩)
  exact ⟨h1.trans (Classical.not_not.1 fun e=>hi (.inr e)),h2⟩
 have uC: ∀ i,live S (aA eJ gs) i→(∃ u ∈ gs,u.1=i∧μ' i=lam u.1)∨(eJ i=env.bx i∧live S env.bx i∧μ' i=μ i∧aA eJ gs i=eJ i):=fun i hi=>by
  by_cases hg: ∃ u ∈ gs,u.1=i
  · obtain ⟨u,hu,rfl⟩:=hg
    exact .inl ⟨u,hu,rfl,(hin u hu).2⟩
  · obtain ⟨h1,h2⟩:=hout i fun u hu e=>hg ⟨u,hu,e⟩
    obtain ⟨h3,h4⟩:=hlv i ((eM S h1).1 hi)
    exact .inr ⟨h3,h4,h2,h1⟩
 have Aw: ∀ u ∈ gs, ∀ b o,(lam u.1).aM b o→M' b o:=fun u hu b o hf=>(hG.aM b o).2 ⟨u,hu,hf⟩
 have hf: ∀ i,U i→live S (aA eJ gs) i→ ∀ b o,(μ' i).aM b o→w.heap.size≤b∨ ∃ j,U j∧live S env.bx j∧(μ j).aM b o:=by
  intro i hi Ff b o hfo
  rcases uC i Ff with ⟨u,hu,rfl,h2⟩ | ⟨h1,h2,h3,h4⟩
  · rw [h2] at hfo
    rcases qn b o (Aw u hu b o hfo) with hm | hn
    · obtain ⟨j,j1,j2,j3⟩:=uw b o hm
      exact .inr ⟨j,ES j j1 j2,j1,j3⟩
    · exact .inl hn
  · rcases hi with ⟨u,hu,rfl⟩ | hi
    · rw [(hin u hu).2] at hfo
      rcases qn b o (Aw u hu b o hfo) with hm | hn
      · obtain ⟨j,j1,j2,j3⟩:=uw b o hm
        exact .inr ⟨j,ES j j1 j2,j1,j3⟩
      · exact .inl hn
    · exact absurd h1 hi
 have xy:=h.later hw hT hU hf
 have gX:b7 w' s' w' (aN S w0 M0 s0 (aA eJ gs) μ' w'):=by
  intro b o hs
  obtain ⟨q1,q2,q3⟩:=hs' b o hs
  refine ⟨⟨q1, ?_,fun i hi hfo=> ?_⟩,rfl⟩
  · rcases q3 with q3 | q3 | q3
    · exact q3.2.1
    · obtain ⟨i,i1,_,i3⟩:=uw b o q3
      exact (h.own i i1 b o i3).elim (fun h=> .inr (.inr h)) (fun h=> .inr (.inl h))
    · exact .inr (.inr (Nat.le_trans h.i_.size q3))
  · rcases uC i hi with ⟨u,hu,rfl,h2⟩ | ⟨h1,h2,h3,h4⟩
    · rw [h2] at hfo; exact q2 (Aw u hu b o hfo)
    · rw [h3] at hfo
      rcases q3 with q3 | q3 | q3
      · rcases q3.2.2 i h2 with ⟨e,l,hq⟩ | hq
        · rcases hl with hl | hl
          · have :eJ i=some (.bR e l):=by rw [← E0,hl]; exact hq
            have hi':=(eM S h4).1 hi
            unfold live at hi'
            rw [this] at hi'
            exact hi'
          · exact hl b o hs
        · exact hq hfo
      · obtain ⟨k,k1,k2,k3⟩:=uw b o q3
        refine h.dB i k (fun e=> ?_) h2 k1 b o hfo k3
        subst e
        rw [h1] at k2
        unfold live at h2; rw [k2] at h2; exact h2
      · exact absurd (mW P S (h.cm i) h2 hfo).1 (by omega)
 refine ⟨μ',h.step hw hT hU hf ?_ ?_ ?_ ?_,gX,hin⟩
 · intro i B0 hi
   by_cases hg: ∃ u ∈ gs,u.1=i
   · obtain ⟨u,hu,rfl⟩:=hg
     rcases hI u.1 (hG.ga u hu) with hm | hn
     · obtain ⟨⟨ws,d1,e1⟩,e2,vs,d3,e3⟩:=hh _ hm
       rw [hi] at e1
       cases e1
       have :u=(u.1,vs):=hG.one u hu _ e3 rfl
       refine ⟨_,(hin u hu).1, ?_⟩
       rw [show u.2=vs from congrArg Prod.snd this]
       exact Rq S d1 d3 ((hin u hu).2.trans e2)
     · rw [hi] at hn; cases hn
   · obtain ⟨h1,h2⟩:=hout i fun u hu e=>hg ⟨u,hu,e⟩
     rw [h1,h2]
     rcases gr i with e1 | e1 | ⟨e0,e1⟩
     · exact ⟨B0,e1.trans hi,cL.refl S _ _⟩
     · exact ⟨_,e1,by cases B0 <;> rfl⟩
     · rcases hk i with e2 | ⟨e2,_⟩ | ⟨e,l,e2,e3⟩
       · exact ⟨B0,(e1.trans e2).trans hi,cL.refl S _ _⟩
       · exact ⟨_,e1.trans e2,by cases B0 <;> rfl⟩
       · rw [hi] at e2
         cases e2
         exact ⟨_,e1.trans e3,rfl,rfl,rfl⟩
 · intro i j hi hj hij li lj b o fi fj
   rcases uC i li with ⟨u,hu,rfl,h2⟩ | ⟨h1,h2,h3,h4⟩
   · rcases uC j lj with ⟨u',aW,rfl,oX⟩ | ⟨h1',_,_,_⟩
     · rw [h2] at fi; rw [oX] at fj
       exact hG.dB u hu u' aW hij b o fi fj
     · rcases hj with ⟨u',aW,rfl⟩ | hj
       · rw [h2] at fi; rw [(hin u' aW).2] at fj
         exact hG.dB u hu u' aW hij b o fi fj
       · exact hj h1'
   · rcases hi with ⟨u,hu,rfl⟩ | hi
     · rcases uC j lj with ⟨u',aW,rfl,oX⟩ | ⟨h1',_,_,_⟩
       · rw [(hin u hu).2] at fi; rw [oX] at fj
         exact hG.dB u hu u' aW hij b o fi fj
       · rcases hj with ⟨u',aW,rfl⟩ | hj
         · rw [(hin u hu).2] at fi; rw [(hin u' aW).2] at fj
           exact hG.dB u hu u' aW hij b o fi fj
         · exact hj h1'
     · exact hi h1
 · intro i B hi hB
   by_cases hg: ∃ u ∈ gs,u.1=i
   · obtain ⟨u,hu,rfl⟩:=hg
     rw [(hin u hu).1] at hB
     cases hB
     rw [(hin u hu).2]
     exact (hG.rb μ' _ hin u hu).mono gX
   · obtain ⟨h1,h2⟩:=hout i fun u hu e=>hg ⟨u,hu,e⟩
     rw [h1] at hB
     rw [h2]
     have hne:eJ i≠env.bx i:=hi.resolve_left hg
     rcases gr i with e1 | e1 | ⟨e0,e1⟩
     · exact absurd e1 hne
     · rw [e1] at hB; cases hB; trivial
     · rcases hk i with e2 | ⟨e2,_⟩ | ⟨e,l,e2,e3⟩
       · exact absurd (e1.trans e2) hne
       · rw [e1,e2] at hB; cases hB; trivial
       · have KL:eJ i=some (.bR e l):=e1.trans e3
         rw [KL] at hB
         cases hB
         have cn:live S env.bx i:=by unfold live; rw [e2]; trivial
         obtain ⟨g1,g2,g3,g4,g5⟩:=h.cm i _ e2
         refine ⟨g2,g3,fun k x xu=> ?_⟩
         obtain ⟨ds,d1,d2,n,d3⟩:=g5 k x xu
         refine ⟨ds,d1,fun j u hj=> ?_,n,d3.mono S xy (Nat.le_refl _)⟩
         have hj':=(List.getElem?_eq_some_iff.1 hj).1
         have uD:=(List.getElem?_eq_some_iff.1 xu).1
         have je:(μ i).aM (μ i).b ((μ i).o+k*Ty.sz S e+j):=by
          refine ⟨rfl,by omega, ?_⟩
          have :(k+1)*Ty.sz S e≤(μ i).cap*Ty.sz S e:=Nat.mul_le_mul_right _ (by omega)
          rw [Nat.add_mul,Nat.one_mul] at this
          omega
         have K_: ¬ M (μ i).b ((μ i).o+k*Ty.sz S e+j):=fun hm=>by
          obtain ⟨q,q1,q2,q3⟩:=uw _ _ hm
          refine h.dB i q (fun e=> ?_) cn q1 _ _ je q3
          subst e
          rw [KL] at q2
          cases q2
         have K8:=(mW P S (h.cm i) cn je).1
         refine ⟨(hw.cell _ _ K8 K_).trans (d2 j u hj),Nat.lt_of_lt_of_le K8 hw.size,(h.own i cn _ _ je).elim (fun h=> .inr (.inr h)) (fun h=> .inr (.inl h)),fun q hq uB=> ?_⟩
         rcases uC q hq with ⟨u,hu,rfl,h2⟩ | ⟨r1,r2,r3,r4⟩
         · rw [h2] at uB
           rcases qn _ _ (Aw u hu _ _ uB) with hm | hn
           · exact K_ hm
           · omega
         · rw [r3] at uB
           refine h.dB q i (fun e=> ?_) r2 cn _ _ uB je
           subst e
           exact hne r1
 · intro i vs hi hvs v hv j hj
   by_cases hg: ∃ u ∈ gs,u.1=i
   · obtain ⟨u,hu,rfl⟩:=hg
     rw [(hin u hu).1] at hvs
     obtain ⟨u',aW,he⟩:=hG.ref u hu vs (by rcases hvs with hvs | hvs <;> · rw [Option.some.inj hvs]; simp) v hv j hj
     rw [← he,(hin u' aW).1]; simp
   · obtain ⟨h1,h2⟩:=hout i fun u hu e=>hg ⟨u,hu,e⟩
     have hne:eJ i≠env.bx i:=hi.resolve_left hg
     rw [h1] at hvs
     rcases gr i with e1 | e1 | ⟨e0,e1⟩
     · exact absurd e1 hne
     · rw [e1] at hvs; rcases hvs with hvs | hvs <;> cases hvs
     · rcases hk i with e2 | ⟨e2,_⟩ | ⟨e,l,e2,e3⟩
       · exact absurd (e1.trans e2) hne
       · rw [e1,e2] at hvs; rcases hvs with hvs | hvs <;> cases hvs
       · rw [e1,e3] at hvs; rcases hvs with hvs | hvs <;> cases hvs
end
end Go.Sy
namespace Go.Sy
section
variable {P:Program} {S:bf} {au:Nat→Nat}
theorem tY {bx aq:Bx S.C} {W:Sy.V S.C} {t:Ty} (hW: ∀ i ∈ aF S W,aq i=bx i):cV S aq t W=cV S bx t W:=by
 cases W with
 | aY b=>simp only [cV]; rw [hW b (by simp [aF])]
 | _=>rfl
theorem Su {bx aq:Bx S.C} {W:Sy.V S.C} (hW: ∀ i ∈ aF S W,aq i=bx i):cM S aq W=cM S bx W:=by
 cases W with
 | aY b=>simp only [cM]; rw [hW b (by simp [aF])]
 | _=>rfl
theorem OM {bx aq:Bx S.C} : ∀ {ts:List Ty} {vs:List (Sy.V S.C)},(∀ v ∈ vs, ∀ i ∈ aF S v,aq i=bx i)→iS S aq ts vs=iS S bx ts vs
 | [],_,_=>rfl
 | t::ts,[],_=>rfl
 | t::ts,v::vs,h=>by
  simp only [iS]
  rw [tY (h v (by simp)),OM fun v hv=>h v (by simp [hv])]
theorem FI {bx aq:Bx S.C} {t:Ty} {vs:List (Sy.V S.C)} (h: ∀ v ∈ vs, ∀ i ∈ aF S v,aq i=bx i):jh S aq t vs=jh S bx t vs:=by
 cases t with
 | st u=>simp only [jh]; rw [OM h]
 | _=>
  cases vs with
  | nil=>rfl
  | cons v vs=>exact tY (h v (by simp))
theorem Ko {bx aq:Bx S.C} : ∀ {vs:List (Sy.V S.C)},(∀ v ∈ vs, ∀ i ∈ aF S v,aq i=bx i)→vs.flatMap (cM S aq)=vs.flatMap (cM S bx)
 | [],_=>rfl
 | v::vs,h=>by
  simp only [List.flatMap_cons]
  rw [Su (h v (by simp)),Ko fun v hv=>h v (by simp [hv])]
theorem Ox {bx aq:Bx S.C} {c:CK} {vs:List (Sy.V S.C)} (h: ∀ v ∈ vs, ∀ i ∈ aF S v,aq i=bx i):ey S aq c vs=ey S bx c vs:=by
 cases c with
 | data t=>
  simp only [ey]
  rw [FI h,Ko fun v hv=>h v (List.mem_of_mem_take hv)]
 | bu e=>
  cases vs with
  | nil=>rfl
  | cons v vs=>
   have :=h v (by simp)
   cases v with
   | bu b e' l=>simp only [ey]; rw [this b (by simp [aF])]
   | _=>rfl
 | aY e=>
  cases vs with
  | nil=>rfl
  | cons v vs=>
   have :=h v (by simp)
   cases v with
   | aY b=>simp only [ey]; rw [this b (by simp [aF])]
   | pre b n=>simp only [ey]; rw [this b (by simp [aF])]
   | _=>rfl
theorem ri {i:Nat} : ∀ (us:aP S.C) {bx aq:Bx S.C},aq i=bx i→aA aq us i=aA bx us i
 | [],_,_,h=>h
 | u::us,bx,aq,h=>ri us (bx:=az bx u.1 (some u.2)) (aq:=az aq u.1 (some u.2)) (by
  by_cases e:i=u.1
  · rw [e,aZ,aZ]
  · rw [bA _ _ e,bA _ _ e]; exact h)
theorem Di: ∀ {cs:List CK} {bx aq:Bx S.C} {vs:List (Sy.V S.C)},(∀ v ∈ vs, ∀ i ∈ aF S v,aq i=bx i)→dW S aq cs vs=dW S bx cs vs
 | [],_,_,_,_=>rfl
 | c::cs,bx,aq,vs,h=>by
  simp only [dW]
  rw [Ox h]
  cases ey S bx c vs with
  | none=>rfl
  | some a=>
   simp only [Option.bind_some]
   rw [Di fun v hv i hi=>ri _ (h v (List.mem_of_mem_drop hv) i hi)]
def j0 (S:bf) (bx aq:Bx S.C) (V:Sy.V S.C):Prop:=
 ∀ i ∈ aH S V,aq i=bx i∧(∀ vs,(bx i=some (.cells vs)∨bx i=some (.bX vs))→ ∀ v ∈ vs, ∀ j ∈ aF S v,aq j=bx j)∧ ∀ j,bx i=some (.bn j)→aq j=bx j
theorem aaH {us:aP S.C} {i:Nat} {vs:List (Sy.V S.C)} (h:DF us): ∀ {bx:Bx S.C},(aA bx us i=some (.cells vs)∨aA bx us i=some (.bX vs))→(bx i=some (.cells vs)∨bx i=some (.bX vs)):=by
 induction us with
 | nil=>exact fun h=>h
 | cons u us ih=>
  intro bx hu
  have :=ih (fun v hv=>h v (by simp [hv])) (bx:=az bx u.1 (some u.2)) hu
  by_cases e:i=u.1
  · rw [e,aZ] at this
    rcases h u (by simp) with h1 | ⟨_,_,h1⟩ <;> · rw [h1] at this; rcases this with h2 | h2 <;> cases h2
  · rw [bA _ _ e] at this; exact this
theorem aaI {us:aP S.C} {i j:Nat} (h:DF us): ∀ {bx:Bx S.C},aA bx us i=some (.bn j)→bx i=some (.bn j):=by
 induction us with
 | nil=>exact fun h=>h
 | cons u us ih=>
  intro bx hu
  have :=ih (fun v hv=>h v (by simp [hv])) (bx:=az bx u.1 (some u.2)) hu
  by_cases e:i=u.1
  · rw [e,aZ] at this
    rcases h u (by simp) with h1 | ⟨_,_,h1⟩ <;> · rw [h1] at this; cases this
  · rw [bA _ _ e] at this; exact this
theorem j0.aA {bx aq:Bx S.C} {V:Sy.V S.C} {us:aP S.C} (hd:DF us) (h:j0 S bx aq V):j0 S (aA bx us) (aA aq us) V:=fun i hi=>
 ⟨ri us (h i hi).1,fun vs hvs v hv j hj=>ri us ((h i hi).2.1 vs (aaH hd hvs) v hv j hj),fun j hj=>ri us ((h i hi).2.2 j (aaI hd hj))⟩
theorem Rh {bx aq:Bx S.C} {t:Ty} {v:Sy.V S.C} (this: ∀ i ∈ aF S v,aq i=bx i∧ ∀ ws,(bx i=some (.cells ws)∨bx i=some (.bX ws))→ ∀ v ∈ ws, ∀ j ∈ aF S v,aq j=bx j):nO S aq t v=nO S bx t v:=by
 cases v with
 | ptr b off=>
  obtain ⟨h1,h2⟩:=this b (by simp [aF])
  cases off with
  | zero=>
   simp only [nO]
   rw [h1]
   split
   · rename_i ws hb
     rw [FI (h2 ws (.inr hb))]
   · rfl
  | succ n=>rfl
 | _=>rfl
theorem D9 {bx aq:Bx S.C} : ∀ {ts:List Ty} {vs:List (Sy.V S.C)},(∀ v ∈ vs, ∀ i ∈ aF S v,aq i=bx i∧ ∀ ws,(bx i=some (.cells ws)∨bx i=some (.bX ws))→ ∀ v ∈ ws, ∀ j ∈ aF S v,aq j=bx j)→caps S aq ts vs=caps S bx ts vs
 | [],[],_=>rfl
 | [],_::_,_=>rfl
 | t::ts,[],_=>rfl
 | t::ts,v::vs,h=>by
  simp only [caps]
  have h1:nO S aq t v=nO S bx t v:=by
   have :=h v (by simp)
   cases v with
   | ptr b off=>
    obtain ⟨h1,h2⟩:=this b (by simp [aF])
    cases off with
    | zero=>
     simp only [nO]
     rw [h1]
     split
     · rename_i ws hb
       rw [FI (h2 ws (.inr hb))]
     · rfl
    | succ n=>rfl
   | _=>rfl
  rw [h1,D9 fun v hv=>h v (by simp [hv])]
theorem Sp {fs:List (iw S)} {bx aq:Bx S.C} {A R:List Ty} {V:Sy.V S.C} (h:j0 S bx aq V):rU S fs aq A R V=rU S fs bx A R V:=by
 cases V with
 | fT f vs=>
  simp only [rU]
  have : ∀ ts,caps S aq ts vs=caps S bx ts vs:=fun ts=>D9 fun v hv i hi=>have q:=h i (by simp only [aH,List.mem_flatMap]; exact ⟨v,hv,hi⟩); ⟨q.1,q.2.1⟩
  simp only [this]
 | _=>rfl
theorem OE {bx aq:Bx S.C} {cs:List CK} {b:Nat} (h:j0 S bx aq (.ptr b 0)):gK S aq cs b=gK S bx cs b:=by
 unfold gK
 rw [(h b (by simp [aH,aF])).1]
 split
 · rename_i vs hb
   have :dW S (az aq b (some .dead)) cs (vs.drop 0)=dW S (az bx b (some .dead)) cs (vs.drop 0):=by
    refine Di fun v hv i hi=> ?_
    have :=(h b (by simp [aH,aF])).2.1 vs (.inl hb) v (List.mem_of_mem_drop hv) i hi
    by_cases e:i=b
    · rw [e,aZ,aZ]
    · rw [bA _ _ e,bA _ _ e]; exact this
   rw [this]
 · rfl
theorem ZP {fs:List (iw S)} {bx aq:Bx S.C} {k:K} {V:Sy.V S.C} (h:j0 S bx aq V):cu S fs aq k V=cu S fs bx k V:=by
 have h1: ∀ (c:CK),ey S aq c [V]=ey S bx c [V]∨ ∃ u vs,V= .agg u vs∨V= .fT u vs∨V= .jw vs:=by
  intro c
  cases V with
  | agg u vs=>exact .inr ⟨u,vs, .inl rfl⟩
  | fT u vs=>exact .inr ⟨u,vs, .inr (.inl rfl)⟩
  | jw vs=>exact .inr ⟨0,vs, .inr (.inr rfl)⟩
  | _=>exact .inl (Ox fun v hv i hi=>by simp at hv; subst hv; exact (h i hi).1)
 have obj: ∀ (cs:List CK) (b:Nat) (vs:List (Sy.V S.C)) (off:Nat),V= .ptr b off→bx b=some (.cells vs)→dW S (az aq b (some .dead)) cs (vs.drop off)=dW S (az bx b (some .dead)) cs (vs.drop off):=by
  rintro cs b vs off rfl hb
  refine Di fun v hv i hi=> ?_
  have :=(h b (by simp [aH,aF])).2.1 vs (.inl hb) v (List.mem_of_mem_drop hv) i hi
  by_cases e:i=b
  · rw [e,aZ,aZ]
  · rw [bA _ _ e,bA _ _ e]; exact this
 cases k with
 | val c=>
  cases c with
  | data t=>
   obtain ⟨d1,d2⟩:=wU (t:=t) fun i hi=>(h i hi).1
   simp only [cu,d1,d2]
  | bu e=>
   rcases h1 (.bu e) with h1 | ⟨u,vs,rfl | rfl | rfl⟩
   · exact h1
   all_goals rfl
  | aY e=>
   rcases h1 (.aY e) with h1 | ⟨u,vs,rfl | rfl | rfl⟩
   · exact h1
   all_goals rfl
 | obj cs=>
  cases V with
  | ptr b off=>
   simp only [cu]
   rw [(h b (by simp [aH,aF])).1]
   split
   · rename_i vs hb
     rw [obj cs b vs off rfl hb]
   · rfl
  | _=>rfl
 | opt cs=>
  cases V with
  | ptr b off=>
   simp only [cu]
   rw [(h b (by simp [aH,aF])).1]
   split
   · rename_i vs hb
     rw [obj cs b vs off rfl hb]
   · rfl
  | _=>rfl
 | cD cs=>
  cases V with
  | cD b n=>
   simp only [cu]
   rw [(h b (by simp [aH,aF])).1]
   split
   · rename_i vs hb
     have :dW S (az aq b (some .dead)) cs (vs.drop 0)=dW S (az bx b (some .dead)) cs (vs.drop 0):=by
      refine Di fun v hv i hi=> ?_
      have :=(h b (by simp [aH,aF])).2.1 vs (.inl hb) v (List.mem_of_mem_drop hv) i hi
      by_cases e:i=b
      · rw [e,aZ,aZ]
      · rw [bA _ _ e,bA _ _ e]; exact this
     rw [this]
   · rfl
  | _=>rfl
 | cc t cs=>
  cases V with
  | split b c=>
   simp only [cu]
   have hc:j0 S bx aq (.ptr c 0):=fun i hi=>h i (by simp [aH,aF] at hi ⊢; exact .inr hi)
   have hb:j0 S bx aq (.ptr b 0):=fun i hi=>h i (by simp [aH,aF] at hi ⊢; exact .inl hi)
   rw [OE hc]
   cases hy:gK S bx [.data t] c with
   | none=>rfl
   | some y=>
    simp only [Option.bind_some]
    rw [OE (hb.aA (DF.gK (us:=y.2) (x:=y.1) hy))]
  | _=>rfl
 | nil=>rfl
 | err=>rfl
 | bn=>
  cases V with
  | ptr b off=>
   simp only [cu]
   rw [(h b (by simp [aH,aF])).1]
   split
   · rename_i j hb
     rw [(h b (by simp [aH,aF])).2.2 j hb]
   · rfl
  | _=>rfl
 | ro t=>
  cases V with
  | ptr b off=>
   simp only [cu]
   have :=Rh (t:=t) (v:= .ptr b off) fun i hi=>⟨(h i hi).1,(h i hi).2.1⟩
   rw [this]
  | _=>rfl
 | fn A R=>simp only [cu]; rw [Sp h]
theorem OA {fs:List (iw S)} : ∀ {ks:List K} {bx aq:Bx S.C} {Vs:List (Sy.V S.C)},(∀ V ∈ Vs,j0 S bx aq V)→eF S fs aq ks Vs=eF S fs bx ks Vs
 | [],_,_,[],_=>rfl
 | [],_,_,_::_,_=>rfl
 | k::ks,_,_,[],_=>rfl
 | k::ks,bx,aq,V::Vs,h=>by
  simp only [eF]
  rw [ZP (h V (by simp))]
  cases hk:cu S fs bx k V with
  | none=>rfl
  | some a=>
   simp only [Option.bind_some]
   rw [OA fun V' SR=>(h V' (by simp [SR])).aA (DF.cu (us:=a.2) (x:=a.1) hk)]
theorem cl.length {w:World} {s:St} : ∀ {M:St} {ks:List K} {x:Ks S.C ks} {vs:List Value},cl P S w s M ks x vs→vs.length=ks.length
 | _,[],_,_,h=>by rw [h.2]; rfl
 | _,k::ks,_,_,⟨M1,M2,v,r,h1,h2,h3,h4⟩=>by subst h2; rw [List.length_cons,cl.length h4]; rfl
theorem aJ.flat {w:World} {s s':St} {n:Nat} {t:Ty} (hf:Ac S t=true) {x:t.den S.C} {cs:List Value} (h:aJ S w s n t x cs):aJ S w s' n t x cs:=by
 cases n with
 | zero=>exact h.elim
 | succ n=>cases t with
  | int k=>exact h
  | bool=>exact h
  | str=>exact h
  | pt=>exact h
  | sl e=>simp [Ac] at hf
  | st u=>
   cases n with
   | zero=>
    have : ∀ (ts:List Ty) (x:av S.C ts) (cs:List Value),bN S (fun t x cs=>aJ S w s 0 t x cs) ts x cs→bN S (fun t x cs=>aJ S w s' 0 t x cs) ts x cs:=by
     intro ts x cs h
     exact bN.mono S (fun t x cs h=>h.elim) ts x cs h
    exact this _ _ _ h
   | succ m=>exact (bN.flat S (m:=m) _ _ _ hf h)
theorem mA.flat {w:World} {s s' M:St} {c:CK} (hf:rT S c=true) {x:c.den S.C} {cs:List Value} (h:mA S w s M c x cs):mA S w s' M c x cs:=by
 cases c with
 | data t=>exact ⟨h.1,h.2.imp fun _ hn=>hn.flat hf⟩
 | bu e=>simp [rT] at hf
 | aY e=>
  obtain ⟨a,cap,L,h1,h2,h3,h4,h5⟩:=h
  refine ⟨a,cap,L,h1,h2,h3,h4,fun i y hi=> ?_⟩
  obtain ⟨ds,d1,d2,n,d3⟩:=h5 i y hi
  exact ⟨ds,d1,d2,n,d3.flat hf⟩
theorem iT.flat {w:World} {s s':St} : ∀ {M:St} {cs:List CK} {x:bO S.C cs} {vs:List Value},cs.all (rT S)=true→iT S w s M cs x vs→iT S w s' M cs x vs
 | _,[],_,_,_,h=>h
 | _,_::_,_,_,hf,⟨M1,M2,v1,v2,h1,h2,h3,h4,h5⟩=>by
  simp only [List.all_cons,Bool.and_eq_true] at hf
  exact ⟨M1,M2,v1,v2,h1,h2,h3,h4.flat hf.1,iT.flat hf.2 h5⟩
theorem eH.flat {w:World} {s s' M:St} {cs:List CK} (hf:cs.all (rT S)=true) {x:bO S.C cs} {v:Value} (h:eH S w s M cs x v):eH S w s' M cs x v:=by
 obtain ⟨b,o,ds,M',h1,h2,h3,h4,h5⟩:=h
 exact ⟨b,o,ds,M',h1,h2,h3,h4,h5.flat hf⟩
theorem nF.flat {w:World} {s s' M:St} {k:K} (hf:uq S k=true) {x:k.den S.C} {v:Value} (h:nF P S w s M k x v):nF P S w s' M k x v:=by
 cases k with
 | val c=>exact ⟨h.1.flat hf,h.2⟩
 | obj cs=>exact eH.flat hf h
 | bn=>exact h
 | opt cs=>
  cases x with
  | none=>exact h
  | some y=>exact eH.flat hf h
 | nil=>exact h
 | ro t=>simp [uq] at hf
 | fn a r=>simp [uq] at hf
 | cc t cs=>simp [uq] at hf
 | cD cs=>
  obtain ⟨p,h1,h2⟩:=h
  exact ⟨p,h1,eH.flat hf h2⟩
 | err=>exact h
theorem cl.flat {w:World} {s s':St} : ∀ {M:St} {ks:List K} {x:Ks S.C ks} {vs:List Value},ks.all (uq S)=true→cl P S w s M ks x vs→cl P S w s' M ks x vs
 | _,[],_,_,_,h=>h
 | _,_::_,_,_,hf,⟨M1,M2,v,r,h1,h2,h3,h4⟩=>by
  simp only [List.all_cons,Bool.and_eq_true] at hf
  exact ⟨M1,M2,v,r,h1,h2,h3.flat hf.1,cl.flat hf.2 h4⟩
def ax (P:Program) (S:bf) (e:Entry S):Prop:=jZ P e.f∧ ∀ (w:World) (s M:St) (x:Ks S.C e.ps) (args:List Value) (r:Ks S.C (e.rs++outs e.ps)),
 cl P S w s M e.ps x args→(∀ b o,s b o→b<w.heap.size∧ ¬ M b o)→jx S w M→e.sp x=some r→
 Calls P e.f args.toArray w fun en w'=> ∃ us s' M',en= .returned (l7 us)∧br w w' M∧cl P S w' s' M' (e.rs++outs e.ps) r (us++fh e.ps args)∧
  (∀ b o,s' b o→b<w'.heap.size∧ ¬ M' b o∧(s b o∨M b o∨w.heap.size≤b))∧ ∀ b o,M' b o→M b o∨w.heap.size≤b
def p_ (P:Program) (S:bf) (w0:World) (M0:St) (e:Entry S):Prop:=jZ P e.f∧ ∀ (w:World) (s M:St) (x:Ks S.C e.ps) (args:List Value) (r:Ks S.C (e.rs++outs e.ps)),
 br w0 w M0→(∀ b o,M b o→w0.heap.size≤b∨M0 b o)→cl P S w s M e.ps x args→(∀ b o,s b o→b<w.heap.size∧ ¬ M b o)→e.sp x=some r→
 Calls P e.f args.toArray w fun en w'=> ∃ us s' M',en= .returned (l7 us)∧br w w' M∧cl P S w' s' M' (e.rs++outs e.ps) r (us++fh e.ps args)∧
  (∀ b o,s' b o→b<w'.heap.size∧ ¬ M' b o∧(s b o∨M b o∨w.heap.size≤b))∧ ∀ b o,M' b o→M b o∨w.heap.size≤b
theorem ax.at {w0:World} {M0:St} {e:Entry S} (h:ax P S e) (hG:jx S w0 M0):p_ P S w0 M0 e:=
 ⟨h.1,fun w s M x args r hc hM hx hs hr=>h.2 w s M x args r hx hs ⟨fun g hg=>by
  obtain ⟨g1,g2,v,g3,g4⟩:=hG.1 g hg
  refine ⟨Nat.lt_of_lt_of_le g1 hc.size,fun hm=> ?_,v,(hc.cell g.1.1 g.1.2 g1 g2).trans g3,g4⟩
  rcases hM _ _ hm with h1 | h1
  · exact absurd g1 (Nat.not_lt.2 h1)
  · exact g2 h1,fun g hg=>by
  obtain ⟨g1,g2,v,g3,g4⟩:=hG.2 g hg
  refine ⟨Nat.lt_of_lt_of_le g1 hc.size,fun o hm=> ?_,v,(hc.same g.1 g1 g2).trans g3,g4⟩
  rcases hM _ _ hm with h1 | h1
  · exact absurd g1 (Nat.not_lt.2 h1)
  · exact g2 o h1⟩ hr⟩
end
end Go.Sy
namespace Go.Sy
section
variable {P:Program} {S:bf} {au:Nat→Nat}
variable {w0:World} {M0 s0:St} {dq:List Deferred} {env:Env S.C} {a:Act} {w:World} {μ:Nat→Loc} {K:Act→World→Prop} {Q:Exit→Act→World→Prop} {o:Oper} {V:V S.C} {us:aP S.C}
theorem IL {s:St} {bx:Bx S.C} {vs:List (Sy.V S.C)} {us:List Value} (h:aO P S w s μ bx vs us):RV P S w s μ bx (qZ S vs) (l7 us):=by
 cases vs with
 | nil=>cases h; exact ⟨#[],rfl,rfl⟩
 | cons v vs=>
  obtain ⟨c,r,rfl,h1,h2⟩:=h
  cases vs with
  | nil=>cases h2; exact nH h1
  | cons v' vs=>
   obtain ⟨c',r',rfl,h3,h4⟩:=h2
   exact ⟨_,rfl,c,c'::r',by simp,h1,c',r',rfl,h3,h4⟩
theorem Lw {vs:List (Sy.V S.C)} {j:Nat} (h:j ∈ aH S (qZ S vs)): ∃ v ∈ vs,j ∈ aF S v∨j ∈ aH S v:=by
 cases vs with
 | nil=>simp [qZ,aH] at h
 | cons v vs=>
  cases vs with
  | nil=>exact ⟨v,by simp, .inr h⟩
  | cons v' vs=>
   simp only [qZ,aH,List.mem_flatMap] at h
   obtain ⟨u,hu,hj⟩:=h
   exact ⟨u,hu, .inl hj⟩
theorem Uv {s:St} {bx:Bx S.C} {V:Sy.V S.C} {v:Value} (h:bP P S w s μ bx V v) {j:Nat} (hj:j ∈ aH S V):j ∈ aF S V:=by
 cases V <;> first | exact hj | exact (h:False).elim
theorem Lv {s:St} {bx:Bx S.C} : ∀ {vs:List (Sy.V S.C)} {cs:List Value},aO P S w s μ bx vs cs→ ∀ v ∈ vs, ∀ j ∈ aH S v,j ∈ aF S v
 | [],_,_,v,hv,_,_=>by simp at hv
 | u::vs,_,⟨c,r,h1,h2,h3⟩,v,hv,j,hj=>by
  rcases List.mem_cons.1 hv with rfl | hv
  · exact Uv h2 hj
  · exact Lv h3 v hv j hj
theorem HS {c:Call} (ho:o.op= .call c) {f:Operand} (hc:c.callee= .value f) {g:Nat} {first cap:Array Value} (hf:a.eval f= .func (.func g) first cap) (hok:jZ P g):
 (execOp a.eval o).run P w= .ok (.enter g (first++c.args.map a.eval++cap)) w:=by
 obtain ⟨fn,h1,h2,h3⟩:=hok
 unfold execOp
 simp only [ho]
 have oX: ¬ fn.name= "runtime.NumGoroutine" :=by simpa using h2
 have nV: ¬ fn.body=none:=fun e=>by rw [e] at h3; cases h3
 simp [resolve,hc,hf,Deferred.ofValue,invoke,callFunc,h1,oX,nV]
theorem Gk: ∀ (ps:List Sy.K) (args:List Value),args.length=ps.length→(fh ps args).length=(outs ps).length
 | [],_,_=>by simp [fh,outs]
 | _::_,[],h=>by simp at h
 | k::ps,v::args,h=>by
  have ih:=Gk ps args (by simpa using h)
  cases k <;> simp [fh,outs,ih]
theorem Jr (hP:bh P S au) {T:iz S} {f:Nat} {args:Array Value} {C:(Ending→World→Prop)→Prop} (hmono: ∀ R R',(∀ en w',R en w'→R' en w')→C R→C R')
 (hT: ∀ e ∈ T.es,e.f=f→ ∀ (s M:St) (x:Ks S.C e.ps) (r:Ks S.C (e.rs++outs e.ps)),(∀ b o,M b o→w0.heap.size≤b∨M0 b o)→cl P S w s M e.ps x args.toList→(∀ b o,s b o→b<w.heap.size∧ ¬ M b o)→e.sp x=some r→
  C fun en w'=> ∃ us s' M',en= .returned (l7 us)∧br w w' M∧cl P S w' s' M' (e.rs++outs e.ps) r (us++fh e.ps args.toList)∧
   (∀ b o,s' b o→b<w'.heap.size∧ ¬ M' b o∧(s b o∨M b o∨w.heap.size≤b))∧ ∀ b o,M' b o→M b o∨w.heap.size≤b)
 (hF: ∀ e ∈ T.fs,gM P S e) (h:Inv P S w0 M0 s0 dq env a w μ) {B:Nat} {gp:Bx S.C}
 {Vs:List (Sy.V S.C)} (hargs:fO P S w (aN S w0 M0 s0 env.bx μ w) μ env.bx Vs args.toList)
 (hkn: ∀ V ∈ Vs,j0 S env.bx gp V) (hnew: ∀ u ∈ us,B≤u.1→u.1<B+16→env.bx u.1=none)
 (hl:(qg S T B gp f Vs).leaf (V,us)):
 C fun en w'=> ∃ v μ',en= .returned v∧Inv P S w0 M0 s0 dq { env with bx:=aA env.bx us } a w' μ'∧RV P S w' (aN S w0 M0 s0 (aA env.bx us) μ' w') μ' (aA env.bx us) V v∧ ∀ j ∈ aH S V,aA env.bx us j≠none:=by
 unfold qg at hl
 split at hl
 · rename_i e tk hfind
   obtain ⟨e0,jd,hsel⟩:=List.exists_of_findSome?_eq_some hfind
   split at hsel
   · rename_i mU
     obtain ⟨pV,htk,hsel⟩:=Option.bind_eq_some_iff.1 hsel
     cases hsel
     cases hlim:Nat.ble (jI e.rs+jI (outs e.ps)) 16&&(dI S e.ps Vs).all fun b=> !(Nat.ble B b&&Nat.blt b (B+16)) with
     | false=>rw [hlim] at hl; exact hl.elim
     | true=>
      rw [hlim,cond_true] at hl
      rw [Bool.and_eq_true] at hlim
      obtain ⟨hlim,Ta⟩:=hlim
      have hlim:=Nat.le_of_ble_eq_true hlim
      obtain ⟨r,hr,hl⟩:=hl
      rw [OA hkn] at htk
      obtain ⟨x,dM⟩:=tk
      dsimp only at hr hl
      obtain ⟨k1,M,kr,fr⟩:=y9 hP.tocU h hF e.ps (Tk.refl S env.bx) hargs htk
      have Ug: ∀ (ks:List Sy.K) (bx:Bx S.C) (hk:Tk S env.bx bx) (Vs:List (Sy.V S.C)) (args:List Value) (x:Ks S.C ks) (us:aP S.C),fO P S w (aN S w0 M0 s0 env.bx μ w) μ env.bx Vs args→eF S T.fs bx ks Vs=some (x,us)→Tk S bx (aA bx us):=
       fun ks bx hk Vs args x us h1 h2=>(y9 hP.tocU h hF ks hk h1 h2).1
      obtain ⟨oo,V2,od⟩:=OB (s:=aN S w0 M0 s0 env.bx μ w) (s':=aN S w0 M0 s0 env.bx μ w) h.cm e.ps (Tk.refl S env.bx) Ug hargs htk
      have hdf:=DF.eF htk
      have Lp: ∀ b o,cC S w0 M0 s0 env.bx (aA env.bx dM) μ w b o→b<w.heap.size∧ ¬ M b o:=by
       intro b o ⟨q1,q2,q3⟩
       refine ⟨q1,fun hm=> ?_⟩
       obtain ⟨i,i1,_,i3,i4⟩:=fr b o hm
       rcases q3 i i1 with ⟨_,_,hq⟩ | hq
       · rw [i3] at hq; cases hq
       · exact hq i4
      refine hmono _ _ ?_ (hT e jd mU _ M x r (fun b o hm=>by obtain ⟨i,i1,_,_,i4⟩:=fr b o hm; exact h.own i i1 b o i4) kr Lp hr)
      rintro en w' ⟨vs,s',M',rfl,hw,hks,hs',qn⟩
      have Tx: ∃ s2:St,cl P S w' s2 M' (e.rs++outs e.ps) r (vs++fh e.ps args.toList)∧(∀ b o,s2 b o→s' b o)∧(AX S e=true∨ ∀ b o, ¬ s2 b o):=by
       cases hlk:AX S e with
       | true=>exact ⟨s',hks,fun _ _ h=>h, .inl rfl⟩
       | false=>
        unfold AX at hlk
        simp only [Bool.not_eq_false'] at hlk
        exact ⟨fun _ _=>False,hks.flat hlk,fun _ _ h=>h.elim, .inr fun _ _ h=>h⟩
      obtain ⟨s2,K5,hs2,hlk⟩:=Tx
      obtain ⟨q,M1,M2,us',ws,hq,hv1,hsp,Fi,n1,n2,l1,g1,r1,pQ⟩:=Mc hP.tocU e.rs B K5 hl
      obtain ⟨rfl,rfl⟩:=bL hq
      have hlen:=cl.length K5
      have hlo:=cl.length Fi
      have hla:args.toList.length=e.ps.length:=cl.length kr
      have hol:=Gk e.ps args.toList hla
      have hsame:vs=us'∧fh e.ps args.toList=ws:=by
       refine List.append_inj hv1 ?_
       have :=congrArg List.length hv1
       simp only [List.length_append] at this
       omega
      obtain ⟨rfl,rfl⟩:=hsame
      have Fa: ∀ b ∈ dI S e.ps Vs, ∀ i,B≤i→i<B+16→i≠b:=by
       rintro b hb i h1 h2 rfl
       have :=List.all_eq_true.1 Ta i hb
       rw [show Nat.ble B i=true from Nat.ble_eq_true_of_le h1,show Nat.blt i (B+16)=true from Nat.ble_eq_true_of_le h2] at this
       cases this
      obtain ⟨l2,g2,K3⟩:=mX (P:=P) hP.tocU e.ps q.2.2 (oo.later fun b o hs=>have hq:=Lp b o (oF S w0 M0 s0 env.bx (aA env.bx dM) μ w b o hs).1; hw.cell b o hq.1 hq.2) V2 (fun b hb i h1 h2=>Fa b hb i (by omega) (by omega)) Fi
      obtain ⟨g,hag⟩:=cq.both g1 g2 (fun i h1 h2=>by
       rcases h2 with h2 | h2
       · exact Fa i h2 i (by omega) (by omega) rfl
       · omega) hsp
      have E_:cq P S w' s2 (fun i=> ∃ u ∈ (q.2.1++fJ S q.2.2 e.ps Vs (lA S e.rs (outs e.ps) r).2),u.1=i) (q.2.1++fJ S q.2.2 e.ps Vs (lA S e.rs (outs e.ps) r).2) _ M':=
       ⟨fun u hu=>⟨u,hu,rfl⟩,g.one,g.rb,g.lv,g.aM,g.dB,g.ref⟩
      obtain ⟨μ',hI,gX,KK⟩:=h.call (E4:=dI S e.ps Vs) hdf k1 fr hw (fun b o hs=>hs' b o (hs2 b o hs)) qn E_ (fun i hi=>by
       obtain ⟨u,hu,rfl⟩:=hi
       rcases g.ga u hu with h1 | h1 | h1
       · exact .inr (hnew u (List.mem_append.2 (.inr hu)) h1.1 (by omega))
       · exact .inl h1
       · exact .inr (hnew u (List.mem_append.2 (.inr hu)) (by omega) (by omega)))
       (fun b hb=>⟨(od b hb).1,by
        unfold both
        rw [if_neg]
        · exact (K3 b hb).1
        · intro hm
          obtain ⟨u,hu,he⟩:=List.mem_map.1 hm
          have :=g1.ga u hu
          rw [he] at this
          exact Fa b hb b this.1 (by omega) rfl,by
        obtain ⟨vs,hh,hvs⟩:=(K3 b hb).2
        exact ⟨vs,hh,List.mem_append.2 (.inr hvs)⟩⟩) hlk
      have cW:=(pQ _ _ (hag _ _ KK).1).mono gX
      refine ⟨_,μ',rfl,hI,IL cW,fun j hj=> ?_⟩
      obtain ⟨v,hv,hj⟩:=Lw hj
      obtain ⟨u,hu,he⟩:=r1 v hv j (hj.elim id fun hj=>Lv cW v hv j hj)
      have :=(KK u (List.mem_append.2 (.inl hu))).1
      rw [he] at this
      rw [this]
      simp
   · cases hsel
 · exact hl.elim
theorem Rf (hP:bh P S au) {T:iz S} (hT: ∀ e ∈ T.es,p_ P S w0 M0 e) (hF: ∀ e ∈ T.fs,gM P S e) (h:Inv P S w0 M0 s0 dq env a w μ) (hd: ∀ d,o.dst=some d→d<a.tmps.size) {B:Nat} {ids:List Nat}
 {Vs:List (Sy.V S.C)} {args:Array Value} {f:Nat} (hrun:jZ P f→(execOp a.eval o).run P w= .ok (.enter f args) w) (hargs:fO P S w (aN S w0 M0 s0 env.bx μ w) μ env.bx Vs args.toList)
 (hkn: ∀ V ∈ Vs,j0 S env.bx (restrict S env.bx ids) V) (hnew: ∀ u ∈ us,B≤u.1→u.1<B+16→env.bx u.1=none)
 (hl:(qg S T B (restrict S env.bx ids) f Vs).leaf (V,us)) (hK:Goal P S w0 M0 s0 dq env a o.dst V us K):o.wp P a w K Q:=by
 have hok:jZ P f:=by
  unfold qg at hl
  split at hl
  · rename_i e tk hfind
    obtain ⟨e0,jd,hsel⟩:=List.exists_of_findSome?_eq_some hfind
    split at hsel
    · rename_i mU
      rw [← mU]; exact (hT e0 jd).1
    · cases hsel
  · exact hl.elim
 unfold Oper.wp
 rw [hrun hok]
 refine Calls.mono (Jr (dq:=dq) hP (C:=fun R=>Calls P f args w R) (fun R R' hR hc=>Calls.mono hc hR) (fun e he mU s M x r hM hx hs hr=> ?_) hF h hargs hkn hnew hl) ?_
 · have hc:=(hT e he).2 w s M x args.toList r h.i_ hM hx hs hr
   rw [mU,show args.toList.toArray=args from by simp] at hc
   exact hc
 · rintro en w' ⟨v,μ',rfl,hI,cW,gu⟩
   refine hK _ w' μ' (hI.put hd cW gu) ?_
   cases o.dst <;> simp [Act.put]
end
end Go.Sy
namespace Go.Sy
section
variable {P:Program} {S:bf} {au:Nat→Nat}
variable {w0:World} {M0 s0:St} {dq:List Deferred} {env:Env S.C} {a:Act} {w:World} {μ:Nat→Loc} {K:Act→World→Prop} {Q:Exit→Act→World→Prop} {o:Oper} {V:V S.C} {us:aP S.C}
theorem Inv.world (h:Inv P S w0 M0 s0 dq env a w μ) {w':World} (hw:br w w' (fun _ _=>False)):
 Inv P S w0 M0 s0 dq env a w' μ∧b7 w' (grown (aN S w0 M0 s0 env.bx μ w) w w') w' (aN S w0 M0 s0 env.bx μ w'):=by
 have xy:=h.later (T:=fun _ _=>False) (U:=fun _=>False) (aq:=env.bx) (μ':=μ) hw (fun _ _ h=>h.elim) (fun _ _=>⟨rfl,rfl⟩) (fun _ h=>h.elim)
 refine ⟨h.step (T:=fun _ _=>False) (U:=fun _=>False) hw (fun _ _ h=>h.elim) (fun _ _=>⟨rfl,rfl⟩) (fun _ h=>h.elim) (fun i B0 hi=>⟨B0,hi,cL.refl S _ _⟩) (fun _ _ h=>h.elim) (fun _ _ h=>h.elim) (fun _ _ h=>h.elim), ?_⟩
 rintro b o (hs | ⟨h1,h2⟩)
 · exact ⟨(xy b o hs).1,rfl⟩
 · exact ⟨⟨h2, .inr (.inr (Nat.le_trans h.i_.size h1)),fun i li hf=>absurd (mW P S (h.cm i) li hf).1 (by omega)⟩,rfl⟩
theorem JC {bx aq:Bx S.C} : ∀ {ts:List Ty} {Vs:List (Sy.V S.C)},(∀ V ∈ Vs, ∀ i ∈ aH S V,aq i=bx i)→lD S aq ts Vs=lD S bx ts Vs
 | [],[],_=>rfl
 | [],_::_,_=>rfl
 | _::_,[],_=>rfl
 | t::ts,V::Vs,h=>by
  obtain ⟨h1,h2⟩:=wU (t:=t) (h V (by simp))
  simp only [lD,h1,h2]
  rw [JC fun V hV=>h V (by simp [hV])]
theorem Ef {bx:Bx S.C} : ∀ {ts:List Ty} {Vs:List (Sy.V S.C)} {x:av S.C ts} {us:aP S.C},lD S bx ts Vs=some (x,us)→cT bx us
 | [],[],_,_,h=>by cases h; intro u hu; simp at hu
 | [],_::_,_,_,h=>by cases h
 | _::_,[],_,_,h=>by cases h
 | t::ts,V::Vs,x,us,h=>by
  simp only [lD] at h
  obtain ⟨y,hy,h⟩:=Option.bind_eq_some_iff.1 h
  obtain ⟨⟨z,u2⟩,hz,h⟩:=Option.bind_eq_some_iff.1 h
  cases h
  exact (cT.dr bx V).append (Ef hz)
theorem Eg (hS:cU S) (h:Inv P S w0 M0 s0 dq env a w μ) {US:aP S.C} (hU:cT env.bx US): ∀ {ts:List Ty} {Vs:List (Sy.V S.C)} {args:List Value} {x:av S.C ts} {us:aP S.C},
 fO P S w (aN S w0 M0 s0 env.bx μ w) μ env.bx Vs args→lD S env.bx ts Vs=some (x,us)→(∀ u ∈ us,u ∈ US)→gk S w (cC S w0 M0 s0 env.bx (aA env.bx US) μ w) ts x args
 | [],[],_,_,_,hv,h,_=>hv
 | [],_::_,_,_,_,_,h,_=>by cases h
 | _::_,[],_,_,_,_,h,_=>by cases h
 | t::ts,V::Vs,args,x,us,⟨v,r,hargs,h1,h2⟩,hx,hs=>by
  simp only [lD] at hx
  obtain ⟨y,hy,hx⟩:=Option.bind_eq_some_iff.1 hx
  obtain ⟨⟨z,u2⟩,hz,hx⟩:=Option.bind_eq_some_iff.1 hx
  cases hx
  obtain ⟨_,d2⟩:=zS hS h (Tk.refl S env.bx) h1 hy
  refine ⟨v,r,hargs, ?_, ?_⟩
  · rw [show av.head (av.cons y z)=y from by cases ts <;> rfl]
    exact d2.mono S (vV S (hU.tk (us:=dr S env.bx V) fun u hu=>hs u (by simp [hu])))
  · rw [show av.tail (av.cons y z)=z from by cases ts <;> rfl]
    exact Eg hS h hU h2 hz fun u hu=>hs u (by simp [hu])
theorem OO {s:St} {bx:Bx S.C} : ∀ {ts:List Ty} {x:av S.C ts} {us:List Value},gk S w s ts x us→aO P S w s μ bx (tK S ts x) us∧ ∀ v ∈ tK S ts x,aH S v= []∧aF S v= []
 | [],_,_,h=>⟨h,by simp [tK]⟩
 | t::ts,x,us,⟨v,r,h1,h2,h3⟩=>by
  obtain ⟨h4,h5⟩:=OO (bx:=bx) h3
  refine ⟨⟨v,r,h1,h2,h4⟩,fun u hu=> ?_⟩
  rcases List.mem_cons.1 hu with rfl | hu
  · exact ⟨rfl,rfl⟩
  · exact h5 u hu
theorem O3 (hP:bh P S au) (h:Inv P S w0 M0 s0 dq env a w μ) (hd: ∀ d,o.dst=some d→d<a.tmps.size) {f:Nat} {args:Array Value} {us:aP S.C} (hfz:cT env.bx us) {r:List Ty} {y:av S.C r}
 (hrun:(execOp a.eval o).run P w= .ok (.enter f args) w)
 (hc:Calls P f args w fun e w'=> ∃ us',e= .returned (l7 us')∧br w w' (fun _ _=>False)∧gk S w' (grown (aN S w0 M0 s0 (aA env.bx us) μ w) w w') r y us')
 (hK:Goal P S w0 M0 s0 dq env a o.dst (qZ S (tK S r y)) us K):o.wp P a w K Q:=by
 have h1:=h.tk hfz.pV
 unfold Oper.wp
 rw [hrun]
 refine Calls.mono hc ?_
 rintro en w' ⟨vs,rfl,hw,gw⟩
 obtain ⟨h2,hl⟩:=h1.world hw
 obtain ⟨h3,h4⟩:=OO (P:=P) (μ:=μ) (bx:=aA env.bx us) (gw.mono S hl)
 refine hK _ w' μ (h2.put hd (IL h3) fun j hj=> ?_) ?_
 · obtain ⟨v,hv,hj⟩:=Lw hj
   obtain ⟨e1,e2⟩:=h4 v hv
   rw [e1,e2] at hj
   simp at hj
 · cases o.dst <;> simp [Act.put]
theorem Rg (hP:bh P S au) {T:iz S} (hT: ∀ e ∈ T.es,p_ P S w0 M0 e) (hF: ∀ e ∈ T.fs,gM P S e) (h:Inv P S w0 M0 s0 dq env a w μ) (hd: ∀ d,o.dst=some d→d<a.tmps.size) {B:Nat} {ids:List Nat}
 {c:Call} (ho:o.op= .call c) {f:Operand} (hc:c.callee= .value f) {Vs:List (Sy.V S.C)} {Vf:Sy.V S.C} (hargs:c.args.toList.mapM (aX S env.tm)=some Vs) (hf:aX S env.tm f=some Vf)
 (hkn: ∀ V ∈ Vs,j0 S env.bx (restrict S env.bx ids) V) (TI:j0 S env.bx (restrict S env.bx ids) Vf) (hnew: ∀ u ∈ us,B≤u.1→u.1<B+16→env.bx u.1=none)
 (hl:(wR S T B (restrict S env.bx ids) Vs Vf).leaf (V,us)) (hK:Goal P S w0 M0 s0 dq env a o.dst V us K):o.wp P a w K Q:=by
 obtain ⟨hvs,_⟩:=zC h hargs
 obtain ⟨AH,_⟩:=bI h hf
 have uy: ∀ {ts:List Ty} {x:av S.C ts} {us:aP S.C},lD S (restrict S env.bx ids) ts Vs=some (x,us)→lD S env.bx ts Vs=some (x,us):=fun hx=>by
  rw [JC (bx:=env.bx) fun V hV i hi=>(hkn V hV i hi).1] at hx; exact hx
 cases Vf with
 | fv A R g=>
  simp only [wR] at hl
  split at hl
  · rename_i x us' hx
    obtain ⟨y,hy,hl⟩:=hl
    obtain ⟨rfl,rfl⟩:=bL hl
    have hx:=uy hx
    have hfz:=Ef hx
    have gw:=(Eg hP.tocU h hfz hvs hx fun u hu=>hu).mono S (Dh hfz.pV)
    have AH:nE P S w (aN S w0 M0 s0 env.bx μ w) A R g (a.eval f):=AH
    obtain ⟨g',first,cap,he,hok,sC⟩:=AH
    have :=sC w _ (Ow hfz.pV) (h.rV.at h.i_ fun _ _ h=>h.elim) x _ y gw hy
    refine O3 hP h hd hfz (HS ho hc he hok) ?_ hK
    rw [show (c.args.toList.map a.eval).toArray=c.args.map a.eval from by rw [← Array.toList_map,Array.toArray_toList]] at this
    exact this
  · exact hl.elim
 | fT g vs=>
  obtain ⟨cs,he,hcs⟩:=AH
  cases vs with
  | nil=>
   simp only [wR] at hl
   have E3:cs= #[]:=by have h0:cs.toList= []:=hcs; exact Array.toList_eq_nil_iff.1 h0
   subst E3
   refine Rf hP hT hF h hd (args:=c.args.map a.eval) (fun hok=> ?_) (by simpa using hvs) hkn hnew hl hK
   have :=HS (w:=w) ho hc he hok
   simpa using this
  | cons v vs=>
   simp only [wR] at hl
   split at hl
   · rename_i e hfind
     split at hl
     · rename_i y x us' hy hx
       obtain ⟨z,hz,hl⟩:=hl
       obtain ⟨rfl,rfl⟩:=bL hl
       have hx:=uy hx
       have hfz:=Ef hx
       have gw:=(Eg hP.tocU h hfz hvs hx fun u hu=>hu).mono S (Dh hfz.pV)
       have hmem:=List.mem_of_find?_eq_some hfind
       have mU:e.f=g:=by simpa using List.find?_some hfind
       obtain ⟨hok,sC⟩:=hF e hmem
       rw [mU] at hok sC
       have hy:caps S env.bx e.c (v::vs)=some y:=by
        rw [← D9 (bx:=env.bx) (aq:=restrict S env.bx ids) fun u hu i hi=>have q:=TI i (by simp only [aH,List.mem_flatMap]; exact ⟨u,hu,hi⟩); ⟨q.1,q.2.1⟩]
        exact hy
       have hcap:=D_ hP.tocU h (Tk.refl S env.bx) e.c hcs hy
       have hcap2:iu S w (aN S w0 M0 s0 (aA env.bx us) μ w) e.c y cs.toList:=by
        refine iu.mono ?_ _ _ _ hcap
        exact (vV S hfz.pV).trans (Dh hfz.pV)
       refine O3 hP h hd hfz (HS ho hc he hok) ?_ hK
       have :=sC w _ x y z (c.args.toList.map a.eval) cs.toList (h.rV.at h.i_ fun _ _ h=>h.elim) gw hcap2 hz
       rw [show (c.args.toList.map a.eval++cs.toList).toArray= #[]++c.args.map a.eval++cs from by simp] at this
       exact this
     · exact hl.elim
   · exact hl.elim
 | _=>exact hl.elim
theorem EH {bx gp:Bx S.C} : ∀ (vs:List (Sy.V S.C)) (u:Nat×dX S.C),u ∈ mO S gp vs→(∀ i B,gp i=some B→bx i=some B)→ ∃ ws,u.2= .bX ws∧bx u.1=some (.cells ws)
 | [],u,hu,_=>by simp [mO] at hu
 | v::vs,u,hu,h=>by
  cases v with
  | ptr b off=>
   simp only [mO,List.mem_append] at hu
   rcases hu with hu | hu
   · split at hu
     · rename_i ws hb
       simp at hu
       subst hu
       exact ⟨ws,rfl,h _ _ hb⟩
     · simp at hu
   · exact EH vs u hu h
  | _=>exact EH vs u hu h
theorem Kc {bx:Bx S.C} {i:Nat} : ∀ {us:aP S.C} (aq:Bx S.C),(∀ u ∈ us, ∃ ws,u.2= .bX ws∧bx u.1=some (.cells ws))→aA aq us i=aq i∨ ∃ ws,bx i=some (.cells ws)∧aA aq us i=some (.bX ws)
 | [],_,_=> .inl rfl
 | u::us,aq,h=>by
  rcases Kc (us:=us) (az aq u.1 (some u.2)) (fun v hv=>h v (by simp [hv])) with h1 | h1
  · by_cases e:i=u.1
    · right
      obtain ⟨ws,h2,h3⟩:=h u (by simp)
      refine ⟨ws,e▸h3, ?_⟩
      show aA (az aq u.1 (some u.2)) us i=_
      rw [h1,e,aZ,h2]
    · left
      show aA (az aq u.1 (some u.2)) us i=_
      rw [h1,bA _ _ e]
  · exact .inr h1
theorem Inv.Af (h:Inv P S w0 M0 s0 dq env a w μ) {aq:Bx S.C} (hk: ∀ i,aq i=env.bx i∨ ∃ ws,env.bx i=some (.cells ws)∧aq i=some (.bX ws)):Inv P S w0 M0 s0 dq { env with bx:=aq } a w μ:=by
 have hlv: ∀ i,live S aq i→aq i=env.bx i:=fun i hi=>by
  rcases hk i with e | ⟨ws,_,e⟩
  · exact e
  · unfold live at hi; rw [e] at hi; exact hi.elim
 have hf: ∀ i, ¬ aq i=env.bx i→live S aq i→False:=fun i hi hl=>hi (hlv i hl)
 have hl:b7 w (aN S w0 M0 s0 env.bx μ w) w (aN S w0 M0 s0 aq μ w):=h.later (T:=fun _ _=>False) (U:=fun i=> ¬ aq i=env.bx i) (br.refl w _) (fun _ _ h=>h.elim) (fun i hi=>⟨Classical.not_not.1 hi,rfl⟩) (fun i hi hl=>(hf i hi hl).elim)
 have hc: ∀ i B0,env.bx i=some B0→ ∃ B,aq i=some B∧cL S (μ i) (μ i) B0 B:=fun i B0 bV=>by
  rcases hk i with e | ⟨ws,e1,e2⟩
  · exact ⟨B0,e.trans bV,cL.refl S _ _⟩
  · rw [bV] at e1; cases e1
    exact ⟨_,e2,rfl⟩
 refine h.step (T:=fun _ _=>False) (U:=fun i=> ¬ aq i=env.bx i) (br.refl w _) (fun _ _ h=>h.elim) (fun i hi=>⟨Classical.not_not.1 hi,rfl⟩)
  (fun i hi hl=>(hf i hi hl).elim) hc (fun i _ hi _ _ hl=>(hf i hi hl).elim) (fun i B hi hB=> ?_) (fun i vs hi hvs v hv j hj=> ?_)
 · rcases hk i with e | ⟨ws,e1,e2⟩
   · exact absurd e hi
   · rw [e2] at hB
     cases hB
     obtain ⟨g1,g2,g3,cs,g4,g5⟩:=h.cm i _ e1
     have cn:live S env.bx i:=by unfold live; rw [e1]; trivial
     have hlen:=aO.length P S g5
     refine ⟨g1,cs,fun j u hj=>⟨g4 j u hj, ?_⟩,aO.step P S hl hc (h.l5 i ws (.inl e1)) g5⟩
     have hj':=(List.getElem?_eq_some_iff.1 hj).1
     have je:(μ i).aM (μ i).b ((μ i).o+j):=⟨rfl,by omega,by omega⟩
     refine ⟨(mW P S (h.cm i) cn je).1,(h.own i cn _ _ je).elim (fun h=> .inr (.inr h)) (fun h=> .inr (.inl h)),fun q hq uB=> ?_⟩
     refine h.dB q i (fun e=> ?_) ((eM S (hlv q hq)).1 hq) cn _ _ uB je
     subst e
     unfold live at hq; rw [e2] at hq; exact hq
 · rcases hk i with e | ⟨ws,e1,e2⟩
   · exact absurd e hi
   · rw [e2] at hvs
     rcases hvs with hvs | hvs
     · cases hvs
     · cases hvs
       have :=h.l5 i _ (.inl e1) v hv j hj
       obtain ⟨B0,bV⟩:=Option.ne_none_iff_exists'.1 this
       obtain ⟨B',iF,_⟩:=hc j B0 bV
       rw [iF]; simp
theorem IJ {s:St} {bx:Bx S.C} : ∀ {vs:List (Sy.V S.C)} {cs:List Value},vs.all (bW S)=true→fO P S w s μ bx vs cs→aO P S w s μ bx vs cs
 | [],_,_,h=>h
 | v::vs,_,hs,⟨c,r,h1,h2,h3⟩=>by
  simp only [List.all_cons,Bool.and_eq_true] at hs
  refine ⟨c,r,h1, ?_,IJ hs.2 h3⟩
  cases v <;> first | exact h2 | simp [bW] at hs
theorem VI (h:Inv P S w0 M0 s0 dq env a w μ) (hd: ∀ d,o.dst=some d→d<a.tmps.size) {f:Nat} {cs:Array Operand} {ids:List Nat} (ho:o.op= .makeFunc (.func f) #[] cs)
 (hl:(match cs.toList.mapM (aX S env.tm) with
  | some vs=>cond (vs.all (bW S)) (aI S (.fT f vs) (mO S (restrict S env.bx ids) vs)) .fail
  | none=> .fail).leaf (V,us)) (hK:Goal P S w0 M0 s0 dq env a o.dst V us K):o.wp P a w K Q:=by
 split at hl
 · rename_i vs hvs
   cases hs:vs.all (bW S) with
   | false=>rw [hs] at hl; exact hl.elim
   | true=>
    rw [hs,cond_true] at hl
    obtain ⟨rfl,rfl⟩:=bL hl
    obtain ⟨h1,h2⟩:=zC h hvs
    have h3:=IJ hs h1
    have hall: ∀ i,aA env.bx (mO S (restrict S env.bx ids) vs) i=env.bx i∨ ∃ ws,env.bx i=some (.cells ws)∧aA env.bx (mO S (restrict S env.bx ids) vs) i=some (.bX ws):=fun i=>
     Kc env.bx fun u hu=>EH vs u hu fun i B hB=>fu hB
    have hI:=h.Af hall
    have hc: ∀ i B0,env.bx i=some B0→ ∃ B,aA env.bx (mO S (restrict S env.bx ids) vs) i=some B∧cL S (μ i) (μ i) B0 B:=fun i B0 bV=>by
     rcases hall i with e | ⟨ws,e1,e2⟩
     · exact ⟨B0,e.trans bV,cL.refl S _ _⟩
     · rw [bV] at e1; cases e1
       exact ⟨_,e2,rfl⟩
    have xy:b7 w (aN S w0 M0 s0 env.bx μ w) w (aN S w0 M0 s0 (aA env.bx (mO S (restrict S env.bx ids) vs)) μ w):=fun b o ⟨q1,q2,q3⟩=>⟨⟨q1,q2,fun i hi=>q3 i (by
     rcases hall i with e | ⟨ws,_,e⟩
     · exact (eM S e).1 hi
     · unfold live at hi; rw [e] at hi; exact hi.elim)⟩,rfl⟩
    have gu: ∀ v ∈ vs, ∀ j ∈ aF S v,env.bx j≠none:=fun v hv j hj=>by
     obtain ⟨x,hx,he⟩:=h2 v hv
     refine (bI h he).2 j ?_
     cases v <;> first | exact hj | simp [aF] at hj
    unfold Oper.wp
    have hrun:(execOp a.eval o).run P w= .ok (.value (.func (.func f) #[] (cs.map a.eval))) w:=by
     unfold execOp
     simp only [ho]
     simp [Instr.makeFunc]
    rw [hrun]
    refine hK _ w μ (hI.put hd (V:= .fT f vs) ⟨_,rfl, ?_⟩ fun j hj=> ?_) ?_
    · have :=aO.step P S xy hc gu h3
      simpa using this
    · simp only [aH,List.mem_flatMap] at hj
      obtain ⟨v,hv,hj⟩:=hj
      obtain ⟨B0,bV⟩:=Option.ne_none_iff_exists'.1 (gu v hv j hj)
      obtain ⟨B',iF,_⟩:=hc j B0 bV
      dsimp only
      rw [iF]; simp
    · cases o.dst <;> simp [Act.put]
 · exact hl.elim
theorem VL (h:Inv P S w0 M0 s0 dq env a w μ) (hd: ∀ d,o.dst=some d→d<a.tmps.size) {c:Call} (ho:o.op= .call c) {b:Builtin} (hc:c.callee= .builtin b) {args:List (Sy.V S.C)}
 (hargs:c.args.toList.mapM (aX S env.tm)=some args)
 (hl:(match args with
  | [v,w]=>match v.int?,w.int? with
   | some (k,x),some (k',y)=>if k=k' then match b with
    | .min=>aI S (.d (.int k) (Min.min (α:=Int) x y)) []
    | .max=>aI S (.d (.int k) (Max.max (α:=Int) x y)) []
    | _=>Tr.fail else Tr.fail
   | _,_=>Tr.fail
  | _=>Tr.fail).leaf (V,us)) (hK:Goal P S w0 M0 s0 dq env a o.dst V us K):o.wp P a w K Q:=by
 split at hl
 · rename_i v u
   obtain ⟨xs,xx,hxs,o5,hex⟩:=I9 hargs
   have har:c.args= #[xs,xx]:=by
    have :c.args=c.args.toList.toArray:=by simp
    rw [this,hxs]
   split at hl
   · rename_i k x k' y hv hu
     split at hl
     · rename_i hkk
       subst hkk
       have e1:=ko (bI h o5).1 hv
       have e2:=ko (bI h hex).1 hu
       split at hl
       · obtain ⟨rfl,rfl⟩:=bL hl
         refine wp_pure (V:= .d (.int k) (Min.min (α:=Int) x y)) h (v:= .int k (Min.min x y)) ?_ hd (jJ ..) (by simp [aH,aF]) hK
         unfold execOp
         simp only [ho]
         simp [resolve,hc,har,e1,e2,invoke,builtin,Builtin.min_,Builtin.min2]
         split <;> first | omega | (simp; omega)
       · obtain ⟨rfl,rfl⟩:=bL hl
         refine wp_pure (V:= .d (.int k) (Max.max (α:=Int) x y)) h (v:= .int k (Max.max x y)) ?_ hd (jJ ..) (by simp [aH,aF]) hK
         unfold execOp
         simp only [ho]
         simp [resolve,hc,har,e1,e2,invoke,builtin,Builtin.max_,Builtin.max2]
         split <;> first | omega | (simp; omega)
       · exact hl.elim
     · exact hl.elim
   · exact hl.elim
 · exact hl.elim
end
end Go.Sy
namespace Go.Sy
section
variable {P:Program} {S:bf} {au:Nat→Nat}
variable {w0:World} {M0 s0:St} {dq:List Deferred} {env:Env S.C} {a:Act} {w:World} {μ:Nat→Loc} {K:Act→World→Prop} {Q:Exit→Act→World→Prop} {o:Oper} {V:V S.C} {us:aP S.C}
theorem Jb {s:St} {bx:Bx S.C} {e:Ty} (he:bG e=false) {V:Sy.V S.C} {v:Value} {x:e.den S.C} (hv:bP P S w s μ bx V v) (hx:cV S (fun _=>none) e V=some x): ∃ n,aJ S w s n e x [v]:=by
 have hd: ∀ (u:Ty) (y:u.den S.C),cz S w s u y v→eP S u e y=some x→ ∃ n,aJ S w s n e x [v]:=by
  intro u y hr hc
  obtain ⟨rfl,rfl⟩:=eK hc
  obtain ⟨h1,n,hn⟩:=hr
  rw [aJ.mI h1 he] at hn
  exact ⟨n,hn⟩
 cases V with
 | d u y=>exact hd u y hv hx
 | pr p i=>
  obtain ⟨rfl,rfl⟩:=eK hx
  cases hv
  exact ⟨1,rfl⟩
 | bu b e l=>exact hd (.sl e) l hv.1 hx
 | cH=>
  cases e with
  | sl e=>
   cases hx
   cases hv
   exact ⟨1,none,0,rfl,Nat.le_refl _, .inl rfl⟩
  | _=>cases hx
 | _=>cases hx
theorem OK {s:St} {bx:Bx S.C} : ∀ (ts:List Ty) (hts:ts.all (fun t=> !bG t)=true) {vs:List (Sy.V S.C)} {cs:List Value} {x:av S.C ts},aO P S w s μ bx vs cs→iS S (fun _=>none) ts vs=some x→ ∃ n,bN S (fun t x cs=>aJ S w s n t x cs) ts x (cs.take ts.length)
 | [],_,_,cs,_,_,_=>⟨0,by simp [bN]⟩
 | t::ts,hts,[],_,_,_,hx=>by simp [iS] at hx
 | t::ts,hts,V::vs,cs,x,⟨c,r,hcs,hv,hr⟩,hx=>by
  simp only [List.all_cons,Bool.and_eq_true,Bool.not_eq_true'] at hts
  simp only [iS] at hx
  obtain ⟨y,hy,hx⟩:=Option.bind_eq_some_iff.1 hx
  obtain ⟨z,hz,hx⟩:=Option.bind_eq_some_iff.1 hx
  cases hx
  obtain ⟨n,hn⟩:=Jb hts.1 hv hy
  obtain ⟨m,hm⟩:=OK ts hts.2 hr hz
  refine ⟨max n m,c,r.take ts.length,by simp [hcs], ?_, ?_⟩
  · rw [show av.head (av.cons y z)=y from by cases ts <;> rfl]
    exact hn.up S (by omega)
  · rw [show av.tail (av.cons y z)=z from by cases ts <;> rfl]
    exact bN.mono S (fun t x cs hr=>hr.up S (by omega)) _ _ _ hm
theorem JD (hP:bh P S au) {s:St} {bx:Bx S.C} {u:Nat} {V:Sy.V S.C} {v:Value} {x:S.C u} (hv:RV P S w s μ bx V v) (hx:datum S (fun _=>none) (.st u) V=some x): ∃ cs n,v= .agg cs∧bN S (fun t x cs=>aJ S w s n t x cs) (S.F u) (S.ex u x) cs.toList:=by
 cases V with
 | agg u' vs=>
  simp only [datum] at hx
  split at hx
  · rename_i hu
    obtain ⟨cs,g1,g2,g3,g4⟩:=hv
    simp only [jh] at hx
    obtain ⟨y,hy,hx⟩:=Option.bind_eq_some_iff.1 hx
    cases hx
    obtain ⟨n,hn⟩:=OK (S.F u) (hP.flat u) g4 hy
    have hlen:=aO.length P S g4
    rw [List.take_of_length_le (by rw [hlen,g2,hu]; exact Nat.le_refl _)] at hn
    refine ⟨cs,n,g1, ?_⟩
    rw [hP.ug]
    exact hn
  · cases hx
 | d t y=>
  simp only [datum] at hx
  obtain ⟨rfl,h2⟩:=eK hx
  cases h2
  obtain ⟨ha,n,hr⟩:=hv
  have : ∃ cs,v= .agg cs:=by
   cases v <;> first | exact ⟨_,rfl⟩ | (simp [Go.Sy.isAgg,bG] at ha)
  obtain ⟨cs,rfl⟩:=this
  cases n with
  | zero=>exact hr.elim
  | succ n=>exact ⟨cs,n,rfl,hr⟩
 | _=>cases hx
theorem zX {t:Ty} {ts:List Ty} (x y:av S.C (t::ts)):kf S (t::ts) x y↔uf S t (av.head x) (av.head y)∧kf S ts (av.tail x) (av.tail y):=by
 cases ts with
 | nil=>exact ⟨fun h=>⟨h,trivial⟩,fun h=>h.1⟩
 | cons u ts=>exact Iff.rfl
theorem Y0 (hP:bh P S au) {s:St} {n m:Nat} {t:Nat} {T:Ty} (h4:match T with | .int _=>True | .bool=>True | .str=>True | _=>False) (h3:S.ty t=some T) {x y:T.den S.C} {c c':Value} (e2:aJ S w s n T x [c]) (f2:aJ S w s m T y [c']) (d:Nat):
 ∃ b0,(Op.equalIn (d+1) t c c').run P w= .ok b0 w∧(b0=true↔uf S T x y):=by
 have hty:=(hP.ty t T h3).2
 cases n with
 | zero=>exact e2.elim
 | succ n=>
 cases m with
 | zero=>exact f2.elim
 | succ m=>
 cases T with
 | int k=>
  have e2: [c]= [Value.int k _]:=e2
  have f2: [c']= [Value.int k _]:=f2
  cases e2; cases f2
  exact ⟨_,run_equalIn_int w d t k k _ _ hty,by show _↔ @Eq Int _ _; exact beq_iff_eq⟩
 | bool=>
  have e2: [c]= [Value.bool _]:=e2
  have f2: [c']= [Value.bool _]:=f2
  cases e2; cases f2
  exact ⟨_,run_equalIn_bool' w d t _ _ hty,by show _↔ @Eq Bool _ _; exact beq_iff_eq⟩
 | str=>
  have e2: [c]= [Value.string ⟨List.toArray _⟩]:=e2
  have f2: [c']= [Value.string ⟨List.toArray _⟩]:=f2
  cases e2; cases f2
  exact ⟨_,run_equalIn_string w d t _ _ hty,by show _↔ @Eq (List UInt8) _ _; rw [ByteArray.toList_eq,ByteArray.toList_eq]; exact beq_iff_eq⟩
 | st u=>exact h4.elim
 | sl e=>exact h4.elim
 | pt=>exact h4.elim
theorem NO (hP:bh P S au) {s:St} {d:Nat} {n m:Nat} : ∀ (fs:List Field) (ts:List Ty) (i:Nat) (xs ys:Array Value) (x y:av S.C ts),wz S fs ts i→
 bN S (fun t x cs=>aJ S w s n t x cs) ts x (xs.toList.drop i)→bN S (fun t x cs=>aJ S w s m t x cs) ts y (ys.toList.drop i)→ ∃ b,(Op.eqFields (d+1) xs ys fs).run P w= .ok b w∧(b=true↔kf S ts x y)
 | [],[],_,_,_,_,_,_,_,_=>⟨true,by simp [Op.eqFields],by simp [kf]⟩
 | [],_::_,_,_,_,_,_,h,_,_=>h.elim
 | _::_,[],_,_,_,_,_,h,_,_=>h.elim
 | fd::fs,T::ts,i,xs,ys,x,y,⟨h1,h2,h3,h4,h5⟩,⟨c,r,e1,e2,e3⟩,⟨c',r',f1,f2,f3⟩=>by
  have nx:xs.toList.drop (i+1)=r:=by rw [← List.drop_drop,e1]; rfl
  have ny:ys.toList.drop (i+1)=r':=by rw [← List.drop_drop,f1]; rfl
  obtain ⟨b,g1,g2⟩:=NO hP (d:=d) fs ts (i+1) xs ys (av.tail x) (av.tail y) h5 (by rw [nx]; exact e3) (by rw [ny]; exact f3)
  have hsz:Ty.sz S T=1∧bG T=false:=by cases T <;> first | exact ⟨rfl,rfl⟩ | exact h4.elim
  have AA:i<xs.size:=by
   have :=congrArg List.length e1
   simp at this; omega
  have TQ:i<ys.size:=by
   have :=congrArg List.length f1
   simp at this; omega
  have hm: ∀ ds,ff T ds=ds.headD Go.undef:=by intro ds; cases T <;> first | rfl | exact h4.elim
  have px:=pP hP h3 (cs:=xs) (off:=i) (by rw [hsz.1]; omega) w
  have py:=pP hP h3 (cs:=ys) (off:=i) (by rw [hsz.1]; omega) w
  rw [hm,e1,hsz.1] at px
  rw [hm,f1,hsz.1] at py
  have px:(part fd.type xs i).run P w= .ok c w:=px
  have py:(part fd.type ys i).run P w= .ok c' w:=py
  have heq: ∃ b0,(Op.equalIn (d+1) fd.type c c').run P w= .ok b0 w∧(b0=true↔uf S T (av.head x) (av.head y)):=by
   have hty:=(hP.ty fd.type T h3).2
   cases n with
   | zero=>exact e2.elim
   | succ n=>
   cases m with
   | zero=>exact f2.elim
   | succ m=>
   cases T with
   | int k=>
    have e2: [c]= [Value.int k _]:=e2
    have f2: [c']= [Value.int k _]:=f2
    cases e2; cases f2
    exact ⟨_,run_equalIn_int w d fd.type k k _ _ hty,by show _↔ @Eq Int _ _; exact beq_iff_eq⟩
   | bool=>
    have e2: [c]= [Value.bool _]:=e2
    have f2: [c']= [Value.bool _]:=f2
    cases e2; cases f2
    exact ⟨_,run_equalIn_bool' w d fd.type _ _ hty,by show _↔ @Eq Bool _ _; exact beq_iff_eq⟩
   | str=>
    have e2: [c]= [Value.string ⟨List.toArray _⟩]:=e2
    have f2: [c']= [Value.string ⟨List.toArray _⟩]:=f2
    cases e2; cases f2
    exact ⟨_,run_equalIn_string w d fd.type _ _ hty,by show _↔ @Eq (List UInt8) _ _; rw [ByteArray.toList_eq,ByteArray.toList_eq]; exact beq_iff_eq⟩
   | st u=>exact h4.elim
   | sl e=>exact h4.elim
   | pt=>exact h4.elim
  obtain ⟨b0,k1,k2⟩:=heq
  rw [zX]
  simp only [Op.eqFields,h2,ne_eq,not_false_eq_true,if_true,h1,Sem.run_bind,px,py,k1,Result.andThen_ok]
  cases b0 with
  | true=>
   simp only [Bool.not_true,Bool.false_eq_true,if_false]
   exact ⟨b,g1,by rw [g2]; exact ⟨fun h=>⟨k2.1 rfl,h⟩,fun h=>h.2⟩⟩
  | false=>
   simp only [Bool.not_false,if_true,Sem.run_pure]
   exact ⟨false,rfl,fun h=>(by cases h),fun h=>(by have :=k2.2 h.1; cases this)⟩
def pX:(ts us:List Ty)→av S.C (ts++us)→av S.C ts
 | [],_,_=>()
 | _::ts,us,x=>av.cons (av.head x) (pX ts us (av.tail x))
def za:(ts us:List Ty)→av S.C (ts++us)→av S.C us
 | [],_,x=>x
 | _::ts,us,x=>za ts us (av.tail x)
theorem head_cons {t:Ty} {ts:List Ty} (x:t.den S.C) (r:av S.C ts):av.head (av.cons x r)=x:=by cases ts <;> rfl
theorem tail_cons {t:Ty} {ts:List Ty} (x:t.den S.C) (r:av S.C ts):av.tail (av.cons x r)=r:=by cases ts <;> rfl
theorem JW: ∀ (ts us:List Ty) (x y:av S.C (ts++us)),kf S (ts++us) x y↔kf S ts (pX ts us x) (pX ts us y)∧kf S us (za ts us x) (za ts us y)
 | [],us,x,y=>by
  show _↔True∧_
  rw [true_and]; rfl
 | t::ts,us,x,y=>by
  have h:=zX (S:=S) (t:=t) (ts:=ts++us) x y
  have h2:=zX (S:=S) (t:=t) (ts:=ts) (pX (t::ts) us x) (pX (t::ts) us y)
  show kf S (t::(ts++us)) x y↔_
  rw [h,h2,JW ts us]
  simp only [pX,za,head_cons,tail_cons]
  exact and_assoc.symm
theorem Dy {R:(t:Ty)→t.den S.C→List Value→Prop} : ∀ (ts us:List Ty) (x:av S.C (ts++us)) (cs:List Value),bN S R (ts++us) x cs→bN S R ts (pX ts us x) (cs.take ts.length)∧bN S R us (za ts us x) (cs.drop ts.length)∧ts.length≤cs.length
 | [],us,x,cs,h=>⟨rfl,h,Nat.zero_le _⟩
 | t::ts,us,x,cs,⟨c,r,hc,h1,h2⟩=>by
  subst hc
  obtain ⟨a,b,l⟩:=Dy ts us _ _ h2
  refine ⟨⟨c,r.take ts.length,rfl, ?_, ?_⟩,b,by simpa using l⟩
  · simp only [pX,head_cons]; exact h1
  · simp only [pX,tail_cons]; exact a
theorem HT (hP:bh P S au) {s:St} {d:Nat} {n m:Nat} : ∀ (fs:List Field) (ts:List Ty) (i:Nat) (xs ys:Array Value) (x y:av S.C ts),wA P S fs ts i→
 bN S (fun t x cs=>aJ S w s n t x cs) ts x (xs.toList.drop i)→bN S (fun t x cs=>aJ S w s m t x cs) ts y (ys.toList.drop i)→ ∃ b,(Op.eqFields (d+3) xs ys fs).run P w= .ok b w∧(b=true↔kf S ts x y)
 | [],ts,_,_,_,_,_,h,_,_=>by
  have h:ts= []:=h
  subst h
  exact ⟨true,by simp [Op.eqFields],by simp [kf]⟩
 | fd::fs,ts,i,xs,ys,x,y,⟨h1,h2,h3⟩,hx,hy=>by
  have step: ∀ (b0 b:Bool) (c c':Value) (A B:Prop),(part fd.type xs i).run P w= .ok c w→(part fd.type ys i).run P w= .ok c' w→(Op.equalIn (d+3) fd.type c c').run P w= .ok b0 w→(b0=true↔A)→(Op.eqFields (d+3) xs ys fs).run P w= .ok b w→(b=true↔B)→
   ∃ b,(Op.eqFields (d+3) xs ys (fd::fs)).run P w= .ok b w∧(b=true↔A∧B):=by
   intro b0 b c c' A B px py k1 k2 g1 g2
   simp only [Op.eqFields,h2,ne_eq,not_false_eq_true,if_true,h1,Sem.run_bind,px,py,k1,Result.andThen_ok]
   cases b0 with
   | true=>
    simp only [Bool.not_true,Bool.false_eq_true,if_false]
    exact ⟨b,g1,by rw [g2]; exact ⟨fun h=>⟨k2.1 rfl,h⟩,fun h=>h.2⟩⟩
   | false=>
    simp only [Bool.not_false,if_true,Sem.run_pure]
    exact ⟨false,rfl,fun h=>(by cases h),fun h=>(by have :=k2.2 h.1; cases this)⟩
  rcases h3 with ⟨T,r,rfl,hty,hsc,h5⟩ | ⟨v,r,gs,rfl,hty,hu,hsi,hpos,hfl,h5⟩
  · obtain ⟨c,cr,e1,e2,e3⟩:=hx
    obtain ⟨c',Rs,f1,f2,f3⟩:=hy
    have nx:xs.toList.drop (i+1)=cr:=by rw [← List.drop_drop,e1]; rfl
    have ny:ys.toList.drop (i+1)=Rs:=by rw [← List.drop_drop,f1]; rfl
    obtain ⟨b,g1,g2⟩:=HT hP (d:=d) fs r (i+1) xs ys (av.tail x) (av.tail y) h5 (by rw [nx]; exact e3) (by rw [ny]; exact f3)
    have h1f:wz S [fd] [T] i:=⟨h1,h2,hty,hsc,trivial⟩
    have hsz:Ty.sz S T=1∧bG T=false:=by cases T <;> first | exact ⟨rfl,rfl⟩ | exact hsc.elim
    have AA:i<xs.size:=by
     have :=congrArg List.length e1
     simp at this; omega
    have TQ:i<ys.size:=by
     have :=congrArg List.length f1
     simp at this; omega
    have hm: ∀ ds,ff T ds=ds.headD Go.undef:=by intro ds; cases T <;> first | rfl | exact hsc.elim
    have px:=pP hP hty (cs:=xs) (off:=i) (by rw [hsz.1]; omega) w
    have py:=pP hP hty (cs:=ys) (off:=i) (by rw [hsz.1]; omega) w
    rw [hm,e1,hsz.1] at px
    rw [hm,f1,hsz.1] at py
    have px:(part fd.type xs i).run P w= .ok c w:=px
    have py:(part fd.type ys i).run P w= .ok c' w:=py
    obtain ⟨b0,k1,k2⟩:=Y0 (w:=w) hP hsc hty e2 f2 (d+2)
    rw [zX]
    exact step b0 b c c' _ _ px py k1 k2 g1 g2
  · obtain ⟨x1,x2,lx⟩:=Dy (S.F v) r x _ hx
    obtain ⟨y1,y2,ly⟩:=Dy (S.F v) r y _ hy
    rw [List.drop_drop] at x2 y2
    obtain ⟨b,g1,g2⟩:=HT hP (d:=d) fs r (i+(S.F v).length) xs ys _ _ h5 x2 y2
    rw [List.length_drop] at lx ly
    have px:=pP hP hty (cs:=xs) (off:=i) (by show i+(S.F v).length≤_; have :xs.toList.length=xs.size:=Array.length_toList; omega) w
    have py:=pP hP hty (cs:=ys) (off:=i) (by show i+(S.F v).length≤_; have :ys.toList.length=ys.size:=Array.length_toList; omega) w
    have hfo:P.underlying fd.type=some (.struct (P.fieldsOf fd.type)):=by unfold Program.fieldsOf; rw [hu]
    have E7:P.fieldsOf fd.type=gs:=by unfold Program.fieldsOf; rw [hu]
    obtain ⟨b0,k1,k2⟩:=NO hP (d:=d+1) gs.toList (S.F v) 0 ((xs.toList.drop i).take (S.F v).length).toArray ((ys.toList.drop i).take (S.F v).length).toArray _ _ hfl (by simpa using x1) (by simpa using y1)
    rw [JW]
    refine step b0 b (.agg ((xs.toList.drop i).take (S.F v).length).toArray) (.agg ((ys.toList.drop i).take (S.F v).length).toArray) _ _ px py ?_ k2 g1 g2
    rw [run_equalIn_agg w (d+2) fd.type _ _ hfo hsi,E7]
    exact k1
theorem ZL (hP:bh P S au) (h:Inv P S w0 M0 s0 dq env a w μ) (hd: ∀ d,o.dst=some d→d<a.tmps.size) {op:BinOp} {t t':TypeId} {x y:Operand} (ho:o.op= .binOp op t x y t') (he:S.eq t=true)
 (hl:(match aX S env.tm x,aX S env.tm y with
  | some p,some q=>structEq S op t p q
  | _,_=> .fail).leaf (V,us)) (hK:Goal P S w0 M0 s0 dq env a o.dst V us K):o.wp P a w K Q:=by
 obtain ⟨u,ht,⟨fs,hu,hfl⟩,hsi,hgt⟩:=hP.eq t he
 have hfo:P.underlying t=some (.struct (P.fieldsOf t)):=by unfold Program.fieldsOf; rw [hu]
 have E7:P.fieldsOf t=fs:=by unfold Program.fieldsOf; rw [hu]
 split at hl
 · rename_i p q hx hy
   obtain ⟨hv1,_⟩:=bI h hx
   obtain ⟨gZ,_⟩:=bI h hy
   unfold structEq at hl
   rw [ht] at hl
   dsimp only at hl
   split at hl
   · rename_i c d hc hd'
     obtain ⟨xs,n,e1,r1⟩:=JD hP hv1 hc
     obtain ⟨ys,m,e2,r2⟩:=JD hP gZ hd'
     obtain ⟨b,g1,g2⟩:=HT hP (d:=9996) fs.toList (S.F u) 0 xs ys _ _ hfl (by simpa using r1) (by simpa using r2)
     have hrun:(Op.equalIn 10000 t (.agg xs) (.agg ys)).run P w= .ok b w:=by
      rw [run_equalIn_agg w 9999 t xs ys hfo hsi,E7]
      exact g1
     have fin: ∀ (z:Bool),(binOp op t (.agg xs) (.agg ys)).run P w= .ok (.bool z) w→RV P S w (aN S w0 M0 s0 env.bx μ w) μ env.bx V (.bool z)→aH S V= []→us= []→o.wp P a w K Q:=by
      rintro z hz hr hi rfl
      refine wp_pure h (v:= .bool z) ?_ hd hr (by simp [hi]) hK
      unfold execOp
      simp only [ho,e1,e2]
      simp [run_eqGuard_agg w op t x y xs ys hgt,hz]
     split at hl
     · obtain ⟨rfl,rfl⟩:=bL hl
       refine fin b (by rw [run_eql_struct,hrun]; rfl) ?_ rfl rfl
       show Value.bool b=Value.bool (@decide _ (wZ S _ _ _))
       congr 1
       cases hb:b with
       | true=>exact (@decide_eq_true _ (_) (g2.1 hb)).symm
       | false=>exact (@decide_eq_false _ (_) (fun hq=>by rw [g2.2 hq] at hb; cases hb)).symm
     · obtain ⟨rfl,rfl⟩:=bL hl
       refine fin (!b) (by rw [run_neq_struct,hrun]; rfl) ?_ rfl rfl
       show Value.bool (!b)=Value.bool (@decide _ (@instDecidableNot _ (wZ S _ _ _)))
       congr 1
       cases hb:b with
       | true=>exact (@decide_eq_false _ (_) (fun hq=>hq (g2.1 hb))).symm
       | false=>exact (@decide_eq_true _ (_) (fun hq=>by rw [g2.2 hq] at hb; cases hb)).symm
     · exact hl.elim
   · exact hl.elim
 · exact hl.elim
theorem CB {s:St} {bx:Bx S.C} {e:Ty} (he:bG e=false): ∀ {vs:List (Sy.V S.C)} {cs:List Value} {l:List (e.den S.C)},aO P S w s μ bx vs cs→rowOf S e vs=some l→l.length=vs.length∧
 ∀ (j:Nat) (x:e.den S.C),l[j]? =some x→ ∃ c n,cs[j]? =some c∧aJ S w s n e x [c]
 | [],_,_,_,hl=>by
  cases hl
  exact ⟨rfl,fun j x h=>by simp at h⟩
 | v::vs,_,l,⟨c,r,rfl,h1,h2⟩,hl=>by
  simp only [rowOf] at hl
  obtain ⟨x,hx,hl⟩:=Option.bind_eq_some_iff.1 hl
  obtain ⟨l',hl',hl⟩:=Option.bind_eq_some_iff.1 hl
  cases hl
  obtain ⟨h3,h4⟩:=CB he h2 hl'
  refine ⟨by simp [h3],fun j y hj=> ?_⟩
  cases j with
  | zero=>
   simp at hj
   subst hj
   obtain ⟨n,hn⟩:=Jb he h1 hx
   exact ⟨c,n,rfl,hn⟩
  | succ j=>
   obtain ⟨c',n,h5,h6⟩:=h4 j y (by simpa using hj)
   exact ⟨c',n,by simpa using h5,h6⟩
theorem DX (hP:bh P S au) {t n u:Nat} {e:Ty} (h:qe S t=some (n,e,u)): ∃ te,S.ty t=some (.st u)∧P.underlying t=some (.array n te)∧S.ty te=some e∧Ty.sz S e=1∧bG e=false∧S.F u=List.replicate n e:=by
 unfold qe at h
 cases ha:S.ar t with
 | none=>rw [ha] at h; cases h
 | some p=>
  obtain ⟨n',e'⟩:=p
  rw [ha] at h
  dsimp only at h
  split at h
  · cases h
  · rename_i u' TY hu
    cases h
    obtain ⟨_,_,h3⟩:=hP.ty t _ hu
    rw [ha] at h3
    obtain ⟨te,h4,h5,h6,_⟩:=h3
    rcases h6 with ⟨h6,h7,h8⟩ | ⟨w,rfl,_⟩
    · exact ⟨te,hu,h4,h5,h6,h7,h8⟩
    · exact absurd rfl (TY w)
  · cases h
theorem QH (hP:bh P S au) {t n m u:Nat} (h:zE S t=some (n,m,u)): ∃ te,S.ty t=some (.st u)∧P.underlying t=some (.array n te)∧S.ty te=some (.st m):=by
 unfold zE at h
 cases ha:S.ar t with
 | none=>rw [ha] at h; cases h
 | some p=>
  obtain ⟨n',e'⟩:=p
  rw [ha] at h
  dsimp only at h
  split at h
  · rename_i w u' hu
    cases h
    obtain ⟨_,_,h3⟩:=hP.ty t _ hu
    rw [ha] at h3
    obtain ⟨te,h4,h5,_⟩:=h3
    exact ⟨te,hu,h4,h5⟩
  · cases h
theorem Y4 (hP:bh P S au) {t n te:Nat} {e:Ty} (hu:P.underlying t=some (.array n te)) (he:S.ty te=some e) (h1:Ty.sz S e=1) {b o':Nat} {k:IntKind} {i:Int} (h0:0≤i) (hi:i<(n:Int)) (w:World):
 (Instr.indexAt t (.pointer (some ⟨b,o',none⟩)) (.int k i)).run P w= .ok (.pointer (some ⟨b,o'+i.toNat,none⟩)) w:=by
 simp [Instr.indexAt,asIntOf,run_underlying hu,h0,hi,hP.size he w,Addr.add_mid,h1,Instr.sureAddr]
theorem Y2 (hP:bh P S au) {t n te:Nat} {e:Ty} (hu:P.underlying t=some (.array n te)) (he:S.ty te=some e) (h1:Ty.sz S e=1) (hst:bG e=false) {cs:Array Value} {c:Value} {k:IntKind} {i:Int} (h0:0≤i) (hi:i<(n:Int)) (hc:cs.toList[i.toNat]? =some c) (w:World):
 (Instr.index t (.agg cs) (.int k i)).run P w= .ok c w:=by
 have hlt:i.toNat<cs.size:=by
  have :=(List.getElem?_eq_some_iff.1 hc).1
  simpa using this
 have :=pP hP he (cs:=cs) (off:=i.toNat) (by rw [h1]; omega) w
 rw [h1] at this
 simp only [Instr.index,asIntOf,Sem.run_bind,Sem.run_pure,Result.andThen_ok,run_underlying hu]
 simp only [h0,hi,and_self,if_true,Sem.run_bind,hP.size he w,Result.andThen_ok,h1,Nat.mul_one,this]
 congr 1
 have hm: ∀ ds,ff e ds=ds.headD Go.undef:=by intro ds; cases e <;> first | rfl | simp [bG] at hst
 have sD:cs.toList[i.toNat]=c:=by
  have :=(List.getElem?_eq_some_iff.1 hc).2
  exact this
 rw [hm,List.drop_eq_getElem_cons (by simpa using hlt),sD]
 rfl
theorem aaQ (h:Inv P S w0 M0 s0 dq env a w μ) {o:Oper} {K:Act→World→Prop} {Q:Exit→Act→World→Prop} {V:Sy.V S.C} {v:Value} {us:aP S.C}
 (hrun:(execOp a.eval o).run P w= .ok (.value v) w) (hd: ∀ d,o.dst=some d→d<a.tmps.size) (hk: ∀ i,aA env.bx us i=env.bx i∨ ∃ ws,env.bx i=some (.cells ws)∧aA env.bx us i=some (.bX ws))
 (hv:Inv P S w0 M0 s0 dq { env with bx:=aA env.bx us } a w μ→RV P S w (aN S w0 M0 s0 (aA env.bx us) μ w) μ (aA env.bx us) V v) (hr: ∀ i ∈ aH S V,aA env.bx us i≠none)
 (hK: ∀ a' w' μ',Inv P S w0 M0 s0 dq (env.apply o.dst V us) a' w' μ'→a'.tmps.size=a.tmps.size→K a' w'):o.wp P a w K Q:=by
 unfold Oper.wp
 rw [hrun]
 have hI:=h.Af hk
 refine hK _ w μ (hI.put hd (hv hI) hr) ?_
 cases o.dst <;> simp [Act.put]
theorem QE (hP:bh P S au) (h:Inv P S w0 M0 s0 dq env a w μ) (hd: ∀ d,o.dst=some d→d<a.tmps.size) {t:TypeId} {x i:Operand} {ids:List Nat} {n u:Nat} {e:Ty} (ho:o.op= .indexAddr t x i) (hte:qe S t=some (n,e,u))
 (hl:(match aX S env.tm x,aX S env.tm i with
  | some v,some w=>match w.int? with
   | some (_,j)=>DY S n e u (restrict S env.bx ids) j v
   | none=> .fail
  | _,_=> .fail).leaf (V,us)) (hK:Goal P S w0 M0 s0 dq env a o.dst V us K):o.wp P a w K Q:=by
 obtain ⟨te,ht,hu,he,h1,hst,hF⟩:=DX hP hte
 split at hl
 · rename_i v wv hx hi
   obtain ⟨hv,dH⟩:=bI h hx
   obtain ⟨o8,_⟩:=bI h hi
   split at hl
   · rename_i k j hn
     have hin:=ko o8 hn
     have run: ∀ (b off:Nat),a.eval x= .pointer (some ⟨b,off,none⟩)→0≤j→j<(n:Int)→(execOp a.eval o).run P w= .ok (.value (.pointer (some ⟨b,off+j.toNat,none⟩))) w:=by
      intro b off he' h0 hj
      unfold execOp
      simp only [ho,he',hin]
      simp [Y4 hP hu he h1 h0 hj]
     unfold DY at hl
     split at hl
     · rename_i b off
       have main: ∀ (vs:List (Sy.V S.C)),(env.bx b=some (.cells vs)∨env.bx b=some (.bX vs))→(match rowOf S e ((vs.drop off).take n) with
        | some l=> .gd (eL j l.length) (aI S (.dF e (iE S e l j)) [(b, .bX vs)])
        | none=> .fail:Rt S).leaf (V,us)→o.wp P a w K Q:=by
        intro vs hb cv
        clear hl
        split at cv
        · rename_i l hrow
          obtain ⟨hg,rfl,rfl⟩:=gq cv
          have g0:0≤j:=hg ⟨0≤j,inferInstance⟩ (by simp [eL,gd])
          have g1:j<(l.length:Int):=hg ⟨j<(l.length:Int),inferInstance⟩ (by simp [eL,gd])
          have hk: ∀ i,aA env.bx [(b,dX.bX vs)] i=env.bx i∨ ∃ ws,env.bx i=some (.cells ws)∧aA env.bx [(b,dX.bX vs)] i=some (.bX ws):=by
           intro i
           by_cases e':i=b
           · subst e'
             rcases hb with hb | hb
             · exact .inr ⟨vs,hb,aZ ..⟩
             · exact .inl ((aZ ..).trans hb.symm)
           · exact .inl (bA _ _ e')
          have hlen:l.length≤n∧l.length≤vs.length - off:=by
           have : ∀ (e:Ty) (vs:List (Sy.V S.C)) (l:List (e.den S.C)),rowOf S e vs=some l→l.length=vs.length:=by
            intro e vs
            induction vs with
            | nil=>intro l hl; cases hl; rfl
            | cons v vs ih=>
             intro l hl
             simp only [rowOf] at hl
             obtain ⟨x,hx,hl⟩:=Option.bind_eq_some_iff.1 hl
             obtain ⟨l',hl',hl⟩:=Option.bind_eq_some_iff.1 hl
             cases hl
             simp [ih l' hl']
           have :=this e _ l hrow
           rw [List.length_take,List.length_drop] at this
           omega
          have Fy:a.eval x= .pointer (some ⟨(μ b).b,(μ b).o+off,none⟩):=hv
          refine aaQ (V:= .dF e (iE S e l j)) h (run _ _ Fy g0 (by omega)) hd hk (fun hI=> ?_) (by simp [aH,aF]) hK
          have mS:aA env.bx [(b,dX.bX vs)] b=some (.bX vs):=aZ ..
          obtain ⟨_,cs,cN,cW⟩:=hI.cm b _ mS
          obtain ⟨_,fU⟩:=CB hst (aO.take P S n (aO.drop P S off cW)) hrow
          obtain ⟨c,m,hc,hr⟩:=fU j.toNat _ (uu g0 g1)
          refine ⟨(μ b).b,(μ b).o+off+j.toNat,[c],rfl,fun q u hq=> ?_,by rw [h1]; rfl,m,hr⟩
          cases q with
          | zero=>
           simp at hq
           subst hq
           rw [List.getElem?_take] at hc
           split at hc
           · rw [List.getElem?_drop] at hc
             have :=cN (off+j.toNat) c hc
             rw [Nat.add_zero,Nat.add_assoc]
             exact this
           · cases hc
          | succ q=>simp at hq
        · exact cv.elim
       split at hl
       · rename_i vs hb; exact main vs (.inl (fu hb)) hl
       · rename_i vs hb; exact main vs (.inr (fu hb)) hl
       · exact hl.elim
     · rename_i t' y
       split at hl
       · rename_i y' hc
         obtain ⟨rfl,rfl⟩:=eK hc
         split at hl
         · rename_i l hrow
           obtain ⟨hg,rfl,rfl⟩:=gq hl
           have g0:0≤j:=hg ⟨0≤j,inferInstance⟩ (by simp [eL,gd])
           have g1:j<(l.length:Int):=hg ⟨j<(l.length:Int),inferInstance⟩ (by simp [eL,gd])
           obtain ⟨b,o',ds,Fy,cN,hlen,m,hr⟩:=hv
           obtain ⟨cW,_⟩:=nP (P:=P) hP.tocU μ env.bx hr
           obtain ⟨qt,fU⟩:=CB hst (aO.take P S n cW) hrow
           rw [List.length_take] at qt
           obtain ⟨c,m',hc,hr'⟩:=fU j.toNat _ (uu g0 g1)
           refine wp_pure (V:= .dF e (iE S e l j)) h (run _ _ Fy g0 (by omega)) hd ⟨b,o'+j.toNat,[c],rfl,fun q u hq=> ?_,by rw [h1]; rfl,m',hr'⟩ (by simp [aH,aF]) hK
           cases q with
           | zero=>
            simp at hq
            subst hq
            rw [List.getElem?_take] at hc
            split at hc
            · have :=cN j.toNat c hc
              rw [Nat.add_zero]
              exact this
            · cases hc
           | succ q=>simp at hq
         · exact hl.elim
       · exact hl.elim
     · exact hl.elim
   · exact hl.elim
 · exact hl.elim
theorem ZJ (hP:bh P S au) (h:Inv P S w0 M0 s0 dq env a w μ) (hd: ∀ d,o.dst=some d→d<a.tmps.size) {t:TypeId} {x y:Operand} {ids:List Nat} {n u:Nat} {e:Ty} (ho:o.op= .store t x y) (hte:qe S t=some (n,e,u))
 (gu: ∀ V,aX S env.tm y=some V→ ∀ i ∈ aH S V,restrict S env.bx ids i=env.bx i)
 (hl:(match aX S env.tm x,aX S env.tm y with
  | some p,some v=>Ii S u (restrict S env.bx ids) v p
  | _,_=> .fail).leaf (V,us)) (hK:Goal P S w0 M0 s0 dq env a o.dst V us K):o.wp P a w K Q:=by
 obtain ⟨te,ht,_⟩:=DX hP hte
 split at hl
 · rename_i p v hx hy
   unfold Ii at hl
   split at hl
   · rename_i b off
     split at hl
     · rename_i vs hb
       cases hf:fits S (cellsOf S v) (Ty.sz S (.st u))&&Nat.ble (off+Ty.sz S (.st u)) vs.length with
       | false=>rw [hf] at hl; exact hl.elim
       | true=>
        rw [hf] at hl
        obtain ⟨rfl,rfl⟩:=bL hl
        refine Ou hP h hd (V:= .skip) (us:= [(b, .cells (setCells S vs off (cellsOf S v)))]) ho gu ?_ fun a' w' μ' hI hsz=> ?_
        · rw [ht,hx,hy]
          simp only [y8]
          rw [hb]
          dsimp only
          rw [hf]
          rfl
        · have hfr:=hI.Af (aq:=aA env.bx [(b, .bX (setCells S vs off (cellsOf S v)))]) fun i=>by
           by_cases e':i=b
           · subst e'
             exact .inr ⟨_,aZ ..,aZ ..⟩
           · exact .inl ((bA _ _ e').trans (bA _ _ e').symm)
          exact hK a' w' μ' hfr hsz
     · exact hl.elim
   · exact hl.elim
 · exact hl.elim
theorem QG (hP:bh P S au) (h:Inv P S w0 M0 s0 dq env a w μ) (hd: ∀ d,o.dst=some d→d<a.tmps.size) {t:TypeId} {x i:Operand} {n u:Nat} {e:Ty} (ho:o.op= .index t x i) (hte:qe S t=some (n,e,u))
 (hl:(match aX S env.tm x,aX S env.tm i with
  | some v,some w=>match w.int? with
   | some (_,j)=>DZ S n e u j v
   | none=> .fail
  | _,_=> .fail).leaf (V,us)) (hK:Goal P S w0 M0 s0 dq env a o.dst V us K):o.wp P a w K Q:=by
 obtain ⟨te,ht,hu,he,h1,hst,hF⟩:=DX hP hte
 split at hl
 · rename_i v wv hx hi
   obtain ⟨hv,dH⟩:=bI h hx
   obtain ⟨o8,_⟩:=bI h hi
   split at hl
   · rename_i k j hn
     have hin:=ko o8 hn
     unfold DZ at hl
     split at hl
     · rename_i vs hcells
       split at hl
       · rename_i l hrow
         obtain ⟨hg,rfl,rfl⟩:=gq hl
         have g0:0≤j:=hg ⟨0≤j,inferInstance⟩ (by simp [eL,gd])
         have g1:j<(l.length:Int):=hg ⟨j<(l.length:Int),inferInstance⟩ (by simp [eL,gd])
         have Fp: ∃ cs,a.eval x= .agg cs∧aO P S w (aN S w0 M0 s0 env.bx μ w) μ env.bx vs cs.toList:=by
          unfold wP at hcells
          split at hcells
          · rename_i u' vs'
            cases hb:Nat.beq u u' with
            | false=>rw [hb] at hcells; cases hcells
            | true=>
             rw [hb] at hcells
             cases hcells
             obtain ⟨cs,g1,g2,g3,g4⟩:=hv
             exact ⟨cs,g1,g4⟩
          · rename_i t' y
            obtain ⟨y',hc,hcells⟩:=Option.bind_eq_some_iff.1 hcells
            cases hcells
            obtain ⟨rfl,rfl⟩:=eK hc
            obtain ⟨ha,m,hr⟩:=hv
            have : ∃ cs,a.eval x= .agg cs:=by
             cases e':a.eval x <;> rw [e'] at ha <;> first | exact ⟨_,rfl⟩ | (simp [Go.Sy.isAgg,bG] at ha)
            obtain ⟨cs,hcs⟩:=this
            rw [hcs] at hr
            exact ⟨cs,hcs,(nP (P:=P) hP.tocU μ env.bx hr).1⟩
          · cases hcells
         obtain ⟨cs,hcs,cW⟩:=Fp
         obtain ⟨qt,fU⟩:=CB hst (aO.take P S n cW) hrow
         rw [List.length_take] at qt
         obtain ⟨c,m',hc,hr'⟩:=fU j.toNat _ (uu g0 g1)
         have iH:cs.toList[j.toNat]? =some c:=by
          rw [List.getElem?_take] at hc
          split at hc
          · exact hc
          · cases hc
         refine wp_pure (V:= .d e (iE S e l j)) h (v:=c) ?_ hd ?_ (by simp [aH,aF]) hK
         · unfold execOp
           simp only [ho,hcs,hin]
           simp [Y2 hP hu he h1 hst g0 (by omega:j<(n:Int)) iH]
         · have :=A5 hr'
           have hm: ∀ ds,ff e ds=ds.headD Go.undef:=by intro ds; cases e <;> first | rfl | simp [bG] at hst
           rw [hm] at this
           exact this
       · exact hl.elim
     · exact hl.elim
   · exact hl.elim
 · exact hl.elim
theorem I_ {w k:Nat} {j:Int} {vs:List (Sy.V S.C)} : ∀ {i m:Nat},(zD S w k j vs i m).leaf (V,us)→ ∃ q,i≤q∧q<i+m∧j=(q:Int)∧V= .agg w ((vs.drop (q*k)).take k)∧us= []
 | _,0,h=>h.elim
 | i,m+1,h=>by
  rcases h with ⟨hj,h⟩ | ⟨_,h⟩
  · obtain ⟨rfl,rfl⟩:=bL h
    exact ⟨i,Nat.le_refl _,by omega,hj,rfl,rfl⟩
  · obtain ⟨q,h1,h2,h3⟩:=I_ h
    exact ⟨q,by omega,by omega,h3⟩
theorem Y3 (hP:bh P S au) {t n te m:Nat} (hu:P.underlying t=some (.array n te)) (he:S.ty te=some (.st m)) {cs:Array Value} {k:IntKind} {q:Nat} (hi:q<n) (hle:q*(S.F m).length+(S.F m).length≤cs.size) (w:World):
 (Instr.index t (.agg cs) (.int k (q:Int))).run P w= .ok (ff (.st m) ((cs.toList.drop (q*(S.F m).length)).take (S.F m).length)) w:=by
 have :=pP hP he (cs:=cs) (off:=q*(S.F m).length) hle w
 have h0:(0:Int)≤(q:Int):=by omega
 have hi':(q:Int)<(n:Int):=by omega
 have hsz:Ty.sz S (.st m)=(S.F m).length:=rfl
 rw [hsz] at this
 simp only [Instr.index,asIntOf,Sem.run_bind,Sem.run_pure,Result.andThen_ok,run_underlying hu]
 simp only [h0,hi',and_self,if_true,Sem.run_bind,hP.size he w,Result.andThen_ok,hsz,Int.toNat_natCast,this]
theorem QF (hP:bh P S au) (h:Inv P S w0 M0 s0 dq env a w μ) (hd: ∀ d,o.dst=some d→d<a.tmps.size) {t:TypeId} {x i:Operand} {n m u:Nat} (ho:o.op= .index t x i) (hte:zE S t=some (n,m,u))
 (hl:(match aX S env.tm x,aX S env.tm i with
  | some v,some w=>match wP S u v,w.int? with
   | some vs,some (_,j)=>cond (Nat.beq vs.length (n*(S.F m).length)) (zD S m (S.F m).length j vs 0 n) .fail
   | _,_=> .fail
  | _,_=> .fail).leaf (V,us)) (hK:Goal P S w0 M0 s0 dq env a o.dst V us K):o.wp P a w K Q:=by
 obtain ⟨te,ht,hu,he⟩:=QH hP hte
 split at hl
 · rename_i v wv hx hi
   obtain ⟨hv,dH⟩:=bI h hx
   obtain ⟨o8,_⟩:=bI h hi
   split at hl
   · rename_i vs k j hcells hn
     have hin:=ko o8 hn
     cases hb:Nat.beq vs.length (n*(S.F m).length) with
     | false=>rw [hb] at hl; exact hl.elim
     | true=>
      rw [hb,cond_true] at hl
      have hlen:=Nat.eq_of_beq_eq_true hb
      obtain ⟨q,_,hq,rfl,rfl,rfl⟩:=I_ hl
      have Fp: ∃ cs:Array Value,a.eval x= .agg cs∧vs.all (bW S)=true∧aO P S w (aN S w0 M0 s0 env.bx μ w) μ env.bx vs cs.toList∧ ∀ V ∈ vs, ∀ i ∈ aF S V,env.bx i≠none:=by
       unfold wP at hcells
       split at hcells
       · rename_i u' vs'
         cases hb:Nat.beq u u' with
         | false=>rw [hb] at hcells; cases hcells
         | true=>
          rw [hb] at hcells
          cases hcells
          obtain ⟨cs,g1,g2,g3,g4⟩:=hv
          exact ⟨cs,g1,g3,g4,fun V hV i hi=>dH i (by simp only [aH,List.mem_flatMap]; exact ⟨V,hV,hi⟩)⟩
       · rename_i t' y
         obtain ⟨y',hc,hcells⟩:=Option.bind_eq_some_iff.1 hcells
         cases hcells
         obtain ⟨rfl,rfl⟩:=eK hc
         obtain ⟨ha,r,hr⟩:=hv
         have : ∃ cs,a.eval x= .agg cs:=by
          cases e':a.eval x <;> rw [e'] at ha <;> first | exact ⟨_,rfl⟩ | (simp [Go.Sy.isAgg,bG] at ha)
         obtain ⟨cs,hcs⟩:=this
         rw [hcs] at hr
         obtain ⟨x1,x2,x3⟩:=nP (P:=P) hP.tocU μ env.bx hr
         exact ⟨cs,hcs,x2,x1,fun V hV i hi=>by rw [x3 V hV] at hi; simp at hi⟩
       · cases hcells
      obtain ⟨cs,hcs,qv,cW,gu⟩:=Fp
      have hcl:cs.size=n*(S.F m).length:=by
       have :=aO.length P S cW
       rw [hlen] at this
       simpa using this
      have hle:q*(S.F m).length+(S.F m).length≤n*(S.F m).length:=by
       have :(q+1)*(S.F m).length≤n*(S.F m).length:=Nat.mul_le_mul_right _ (by omega)
       rw [Nat.add_mul,Nat.one_mul] at this
       exact this
      have hvl:((vs.drop (q*(S.F m).length)).take (S.F m).length).length=(S.F m).length:=by
       rw [List.length_take,List.length_drop]; omega
      refine wp_pure (V:= .agg m ((vs.drop (q*(S.F m).length)).take (S.F m).length)) h (v:= .agg ((cs.toList.drop (q*(S.F m).length)).take (S.F m).length).toArray) ?_ hd
       ⟨_,rfl,hvl, ?_,by rw [List.toList_toArray]; exact aO.take P S _ (aO.drop P S _ cW)⟩ (fun i hi=> ?_) hK
      · unfold execOp
        simp only [ho,hcs,hin]
        simp [Y3 hP hu he (cs:=cs) (k:=k) (by omega:q<n) (by omega),ff]
      · rw [List.all_eq_true] at qv ⊢
        exact fun V hV=>qv V (List.mem_of_mem_drop (List.mem_of_mem_take hV))
      · simp only [aH,List.mem_flatMap] at hi
        obtain ⟨V,hV,hi⟩:=hi
        exact gu V (List.mem_of_mem_drop (List.mem_of_mem_take hV)) i hi
   · exact hl.elim
 · exact hl.elim
end
end Go.Sy
namespace Go.Sy
section
variable {P:Program} {S:bf} {au:Nat→Nat}
variable {w0:World} {M0 s0:St} {dq:List Deferred} {env:Env S.C} {a:Act} {w:World} {μ:Nat→Loc} {K:Act→World→Prop} {Q:Exit→Act→World→Prop} {o:Oper} {V:V S.C} {us:aP S.C}
theorem Vv {x y:Operand} {n:Nat} (h:A2 x y=some n):x= .const (.int .i64 (n:Int))∧y= .const (.int .i64 (n:Int))∧n≤8:=by
 unfold A2 at h
 split at h
 · rename_i p q
   cases hc:Nat.beq p q&&Nat.ble p 8 with
   | false=>rw [hc] at h; cases h
   | true=>
    rw [hc,cond_true] at h
    cases h
    rw [Bool.and_eq_true] at hc
    have e1:=Nat.eq_of_beq_eq_true hc.1
    subst e1
    exact ⟨rfl,rfl,Nat.le_of_ble_eq_true hc.2⟩
 · cases h
theorem IK {s:St} {bx:Bx S.C} : ∀ (n:Nat) (cs:List Value),cs=List.replicate n (Value.slice none 0 0)→aO P S w s μ bx (List.replicate n (.cH:Sy.V S.C)) cs
 | 0,_,h=>h
 | n+1,_,h=>⟨.slice none 0 0,List.replicate n (.slice none 0 0),h,rfl,IK n _ rfl⟩
theorem VH (hP:bh P S au) (h:Inv P S w0 M0 s0 dq env a w μ) (hd: ∀ d,o.dst=some d→d<a.tmps.size) {vw:Bool} {B:Nat} {t:TypeId} {x y:Operand} (ho:o.op= .makeSlice t x y)
 (hnew: ∀ u ∈ us,B≤u.1→u.1<B+16→env.bx u.1=none)
 (hl:(match e9 S t,aX S env.tm x,aX S env.tm y with
  | some e,some v,some w=>match cond (vw&&FM e&&Nat.ble (au t) 64) (A2 x y) none with
   | some n=>aI S (.cD B n) [(B, .cells (List.replicate n .cH))]
   | none=>match v.int?,w.int? with
    | some (.i64,n),some (.i64,m)=>Tr.gd [gd (0≤n),gd (n≤m),gd (m*au t≤limit)] (aI S (.aY (B)) [(B, .arr e (List.replicate n.toNat (Ty.zero S e)))])
    | _,_=>Tr.fail
  | _,_,_=>Tr.fail).leaf (V,us)) (hK:Goal P S w0 M0 s0 dq env a o.dst V us K):o.wp P a w K Q:=by
 split at hl
 · rename_i e v u ht hx hy
   split at hl
   · rename_i n hn
     cases hc:(vw&&FM e&&Nat.ble (au t) 64) with
     | false=>rw [hc] at hn; cases hn
     | true=>
     rw [hc,cond_true] at hn
     simp only [Bool.and_eq_true] at hc
     obtain ⟨⟨_,gX⟩,dR⟩:=hc
     have dR:=Nat.le_of_ble_eq_true dR
     obtain ⟨hex,Tu,hn8⟩:=Vv hn
     obtain ⟨rfl,rfl⟩:=bL hl
     obtain ⟨e1,rfl⟩: ∃ e1,e= .sl e1:=by
      cases e with
      | sl e1=>exact ⟨e1,rfl⟩
      | _=>cases gX
     have ht':=oV ht
     obtain ⟨te,ie,z,hu,hte,hie,hby,gr,_⟩:=hP.sl ht'
     obtain ⟨⟨i,z,h1,h2,h3,h4,h5⟩,_⟩:=hP.ty te _ hte
     rw [hie] at h1
     cases h1
     have hz:z.cells.toList= [.slice none 0 0]:=h5
     have hsz:ie.size=1:=h2
     have hbig:(n:Int)*au t≤512:=by
      have q1:(au t:Int)≤64:=by omega
      have q2:(n:Int)≤8:=by omega
      exact Int.le_trans (Int.mul_le_mul q2 q1 (by omega) (by omega)) (by decide)
     have hrun:=run_make (P:=P) w t te ie z hu hie h3 .i64 .i64 n n (by omega) (Int.le_refl _) (by rw [hby,Int.mul_comm]; omega) (by omega)
     have hB:=hnew _ (List.mem_singleton.2 rfl) (Nat.le_refl _) (by show B<B+16; omega)
     have hcells:(madeCells z.cells (n*1)).toList=List.replicate n (Value.slice none 0 0):=by
      have hzs:z.cells= #[.slice none 0 0]:=by
       have :z.cells=z.cells.toList.toArray:=by simp
       rw [this,hz]
      rw [hzs,Nat.mul_one]
      unfold madeCells
      apply List.ext_getElem
      · simp
      · intro j Ax hj2
        simp [Nat.mod_one]
     have nt:=qB (w:=w) (cs:=madeCells z.cells (n*1)) (t:=te)
     rw [size_madeCells,Nat.mul_one] at nt
     refine rj (i:=B) (B:= .cells (List.replicate n .cH)) (V:= .cD B n) (v:= .slice (some ⟨w.heap.size,0,none⟩) n n) (L:=⟨w.heap.size,0,n,0,false⟩) (w':=w.alloc (.cells (madeCells z.cells (n*1)) te)) h ?_ hd (br.alloc w _ _) hB (fun b o' hf=>Nat.le_of_eq hf.1.symm)
      (fun hl _ h3=>⟨⟨?_, ?_, ?_,_, ?_,IK n _ hcells⟩, ?_⟩) (fun vs hvs v hv j hj=> ?_) (fun j hj=> .inl (by simpa [aH,aF] using hj)) hK
     · unfold execOp
       simp only [ho,hex,Tu]
       have :(Instr.makeSlice t (.int .i64 (n:Int)) (.int .i64 (n:Int))).run P w= .ok (.slice (some ⟨w.heap.size,0,none⟩) n n) (w.alloc (.cells (madeCells z.cells (n*1)) te)):=by
        rw [hrun,hsz]; rfl
       simp [this,Act.eval]
     · rw [List.all_eq_true]
       intro v hv
       rw [List.eq_of_mem_replicate hv]; rfl
     · simp
     · simpa using nt.1
     · simpa using nt.2
     · show Value.slice _ n n= .slice (some ⟨(az μ B _ B).b,(az μ B _ B).o,none⟩) n n
       rw [aZ]
     · have :v= .cH:=by
        rcases hvs with hvs | hvs
        · cases hvs; exact List.eq_of_mem_replicate hv
        · cases hvs
       rw [this] at hj
       simp [aF] at hj
   · exact VJ hP h hd ho hnew (by rw [ht,hx,hy]; exact hl) hK
 · exact hl.elim
theorem OI {e:Ty} : ∀ {vs:List (Sy.V S.C)} {l:List (List (e.den S.C))},vZ S e vs=some l→l.length=vs.length
 | [],l,h=>by cases h; rfl
 | v::vs,l,h=>by
  cases v with
  | bu b e' x=>
   simp only [vZ] at h
   obtain ⟨y,hy,h⟩:=Option.bind_eq_some_iff.1 h
   obtain ⟨r,hr,h⟩:=Option.bind_eq_some_iff.1 h
   cases h
   show (y::r).length=_
   simp only [List.length_cons]
   exact congrArg (· +1) (OI hr)
  | _=>cases h
theorem OH {s:St} {bx:Bx S.C} {e:Ty} : ∀ {vs:List (Sy.V S.C)} {l:List (List (e.den S.C))} {cs:List Value},vZ S e vs=some l→aO P S w s μ bx vs cs→ ∀ (i:Nat) (x:List (e.den S.C)),l[i]? =some x→ ∃ c,cs[i]? =some c∧cz S w s (.sl e) x c
 | [],l,cs,h,_,i,x,hx=>by cases h; simp at hx
 | v::vs,l,cs,h,⟨c,r,hc,h1,h2⟩,i,x,hx=>by
  cases v with
  | bu b e' y=>
   simp only [vZ] at h
   obtain ⟨z,hz,h⟩:=Option.bind_eq_some_iff.1 h
   obtain ⟨q,hq,h⟩:=Option.bind_eq_some_iff.1 h
   cases h
   subst hc
   cases i with
   | zero=>
    have hx:some z=some x:=hx
    cases hx
    refine ⟨c,rfl, ?_⟩
    obtain ⟨he,hz⟩:=eK hz
    cases he
    cases hz
    exact h1.1
   | succ i=>
    have hx:q[i]? =some x:=hx
    exact OH hq h2 i x hx
  | _=>cases h
theorem QJ {nl:Bool} (h:Inv P S w0 M0 s0 dq env a w μ) (hd: ∀ d,o.dst=some d→d<a.tmps.size) {x:Operand} {B:Nat} {ids:List Nat} (ho:execOp a.eval o=pure (.value (a.eval x)))
 (hnew: ∀ u ∈ us,B≤u.1→u.1<B+16→env.bx u.1=none)
 (hl:(match aX S env.tm x with
  | some .cH=>cond nl (aI S .cH []) (match e9 S o.type with
   | some e=>aI S (.bu B e []) [(B, .tail)]
   | none=> .fail)
  | some (.cD b n)=>settle S (e9 S o.type) (restrict S env.bx ids) b n
  | some v=>aI S v []
  | none=> .fail).leaf (V,us)) (hK:Goal P S w0 M0 s0 dq env a o.dst V us K):o.wp P a w K Q:=by
 have hrun:(execOp a.eval o).run P w= .ok (.value (a.eval x)) w:=by rw [ho]; rfl
 split at hl
 · rename_i hx
   exact F9 (nl:=nl) h hd (x:=x) (B:=B) ho hnew (by rw [hx]; exact hl) hK
 · rename_i b n hx
   obtain ⟨hv,hr⟩:=bI h hx
   unfold settle at hl
   split at hl
   · rename_i vs hb
     have hb:=fu hb
     split at hl
     · obtain ⟨rfl,rfl⟩:=bL hl
       exact wp_pure h hrun hd hv hr hK
     · split at hl
       · rename_i e he
         split at hl
         · rename_i l hlr
           cases hn:Nat.beq n vs.length with
           | false=>rw [hn] at hl; exact hl.elim
           | true=>
            rw [hn,cond_true] at hl
            have hn:=Nat.eq_of_beq_eq_true hn
            obtain ⟨rfl,rfl⟩:=bL hl
            have hall: ∀ i,aA env.bx [(b,dX.bX vs)] i=env.bx i∨ ∃ ws,env.bx i=some (.cells ws)∧aA env.bx [(b,dX.bX vs)] i=some (.bX ws):=fun i=>by
             by_cases e:i=b
             · subst e; exact .inr ⟨vs,hb,aZ _ _ _⟩
             · exact .inl (bA _ _ e)
            have hI:=h.Af hall
            obtain ⟨_,cs,cN,cW⟩:=hI.cm b (.bX vs) (aZ _ _ _)
            have qt:=OI hlr
            have hv:a.eval x= .slice (some ⟨(μ b).b,(μ b).o,none⟩) n n:=hv
            unfold Oper.wp
            rw [hrun]
            refine hK _ w μ (hI.put hd (V:= .d (.sl (.sl e)) l) ?_ (by simp [aH,aF])) ?_
            · rw [hv,hn, ← qt]
              refine Ic (Nat.le_refl _) fun i y hy=> ?_
              obtain ⟨c,hc,ha,m,hm⟩:=OH hlr cW i y hy
              refine ⟨[c],rfl,fun j u hj=> ?_,m, ?_⟩
              · cases j with
                | zero=>
                 simp at hj
                 subst hj
                 have :=cN i c hc
                 rw [show i*Ty.sz S (.sl e)=i from Nat.mul_one i]
                 exact this
                | succ j=>simp at hj
              · rwa [aJ.mI ha rfl] at hm
            · cases o.dst <;> simp [Act.put]
         · exact hl.elim
       · exact hl.elim
   · exact hl.elim
 · rename_i v TW aa_ hx
   refine F9 (nl:=nl) h hd (x:=x) (B:=B) ho hnew ?_ hK
   rw [hx]
   cases v with
   | cH=>exact absurd rfl TW
   | _=>exact hl
 · exact hl.elim
theorem RQ (hP:bh P S au) (h:Inv P S w0 M0 s0 dq env a w μ) (hd: ∀ d,o.dst=some d→d<a.tmps.size) {op:BinOp} {t t':TypeId} {x:Operand} (ho:o.op= .binOp op t x (.const .nilIface) t')
 (hl:(match aX S env.tm x with
  | some (.err b)=>cond (S.qx t) (match op with
   | .eql=>aI S (.d .bool b) []
   | .neq=>aI S (.d .bool (Bool.not b)) []
   | _=> .fail) .fail
  | _=> .fail).leaf (V,us)) (hK:Goal P S w0 M0 s0 dq env a o.dst V us K):o.wp P a w K Q:=by
 split at hl
 · rename_i b hx
   obtain ⟨hv,_⟩:=bI h hx
   have hv:wB b (a.eval x):=hv
   cases hi:S.qx t with
   | false=>rw [hi] at hl; exact hl.elim
   | true=>
    rw [hi,cond_true] at hl
    obtain ⟨ms,hu⟩:=hP.qx t hi
    have hif:P.isIface t=true:=by unfold Program.isIface; rw [hu]
    have hg:(eqGuard op t x (.const .nilIface) (a.eval x) .nilIface).run P w= .ok () w:=by
     cases b with
     | true=>
      have hv:a.eval x= .nilIface:=hv
      rw [hv,eqGuard_nil_constR]; rfl
     | false=>
      obtain ⟨u,p,hv⟩:=hv
      rw [hv]
      exact Es rfl w
    have fin: ∀ r:Bool,V= .d .bool r→us= []→(binOp op t (a.eval x) .nilIface).run P w= .ok (.bool r) w→o.wp P a w K Q:=by
     rintro r rfl rfl hr
     refine wp_pure h (V:= .d .bool r) (v:= .bool r) ?_ hd (oU ..) (by simp [aH,aF]) hK
     unfold execOp
     simp only [ho]
     have e:a.eval (.const .nilIface)= .nilIface:=rfl
     rw [e]
     simp [hg,hr]
    split at hl
    · obtain ⟨h1,h2⟩:=bL hl
      refine fin b h1 h2 ?_
      cases b with
      | true=>
       have hv:a.eval x= .nilIface:=hv
       rw [hv]; exact run_eql_nil_nil_at w t hif
      | false=>
       obtain ⟨u,p,hv⟩:=hv
       rw [hv]; exact run_eql_iface_nil w t hif u p
    · obtain ⟨h1,h2⟩:=bL hl
      refine fin (Bool.not b) h1 h2 ?_
      cases b with
      | true=>
       have hv:a.eval x= .nilIface:=hv
       rw [hv]; exact run_neq_nil_nil_at w t hif
      | false=>
       obtain ⟨u,p,hv⟩:=hv
       rw [hv]; exact run_neq_iface_nil w t hif u p
    · exact hl.elim
 · exact hl.elim
theorem Gh {T:iz S} {B:Nat} {op:BinOp} {t t' ty:TypeId} {x y:Operand} {tm:Nat→Sy.V S.C} {bx:Bx S.C} (hy:y≠ .const .nilIface):
 cO S T au B (.binOp op t x y t') ty tm bx=cond (S.eq t) (match aX S tm x,aX S tm y with
 | some a,some b=>structEq S op t a b
 | _,_=> .fail) (match aX S tm x,aX S tm y with
 | some a,some b=>match zL S op t a b with
  | some (gs,v)=> .gd gs (aI S v [])
  | none=> .fail
 | _,_=> .fail):=by
 cases y with
 | const v=>cases v <;> first | rfl | exact absurd rfl hy
 | _=>rfl
end
end Go.Sy
namespace Go.Sy
section
variable {P:Program} {S:bf} {au:Nat→Nat}
variable {w0:World} {M0 s0:St} {dq:List Deferred} {env:Env S.C} {a:Act} {w:World} {μ:Nat→Loc} {K:Act→World→Prop} {Q:Exit→Act→World→Prop} {o:Oper} {V:V S.C} {us:aP S.C}
theorem Vd {B:Nat} {fp:List Nat} {bx:Bx S.C} (h:n6 S bx B fp us=true): ∀ u ∈ us,B≤u.1→u.1<B+16→bx u.1=none:=by
 intro u hu h1 h2
 have :=List.all_eq_true.1 h u hu
 rw [Bool.and_eq_true,show Nat.ble B u.1=true from Nat.ble_eq_true_of_le h1,show Nat.blt u.1 (B+16)=true from Nat.ble_eq_true_of_le h2] at this
 exact Option.isNone_iff_eq_none.1 (by simpa using this.2)
theorem ur {o:Op} {tm:Nat→Sy.V S.C} {x:Operand} (hx:x ∈ o.operands.toList) {V:Sy.V S.C} (hV:aX S tm x=some V) {i:Nat} (hi:i ∈ aH S V):
 i ∈ o.operands.toList.flatMap (uU S tm):=
 List.mem_flatMap.2 ⟨x,hx,by unfold uU; rw [hV]; exact hi⟩
theorem tA {bx:Bx S.C} {ids:List Nat} {i:Nat} (h:i ∈ ids):restrict S bx ids i=bx i:=by
 unfold restrict
 rw [List.contains_iff_mem.2 h]; rfl
theorem JG {bx:Bx S.C} {ids more:List Nat} {V:Sy.V S.C} (h: ∀ i ∈ aH S V,i ∈ ids):j0 S bx (restrict S bx (deep S bx ids++more)) V:=fun i hi=>
 ⟨tA (List.mem_append.2 (.inl (List.mem_append.2 (.inl (h i hi))))),fun vs hvs v hv j hj=>tA (List.mem_append.2 (.inl (List.mem_append.2 (.inr (List.mem_flatMap.2 ⟨i,h i hi,by
  rcases hvs with hvs | hvs <;> · rw [hvs]; exact List.mem_flatMap.2 ⟨v,hv,hj⟩⟩))))),
  fun j hj=>tA (List.mem_append.2 (.inl (List.mem_append.2 (.inr (List.mem_flatMap.2 ⟨i,h i hi,by rw [hj]; simp⟩)))))⟩
theorem V_ (hP:bh P S au) {T:iz S} (hT: ∀ e ∈ T.es,p_ P S w0 M0 e) (hF: ∀ e ∈ T.fs,gM P S e) (h:Inv P S w0 M0 s0 dq env a w μ) (hd: ∀ d,o.dst=some d→d<a.tmps.size) {B:Nat}
 (hl:(cO S T au B o.op o.type env.tm (restrict S env.bx (aM S T.vw B o.op env.tm env.bx).1)).leaf (V,us)) (AG:n6 S env.bx B (aM S T.vw B o.op env.tm env.bx).2 us=true)
 (hK:Goal P S w0 M0 s0 dq env a o.dst V us K):o.wp P a w K Q:=by
 have hnew:=Vd AG
 clear AG
 cases ho:o.op with
 | move x=>rw [ho] at hl; exact F9 h hd (x:=x) (by unfold execOp; simp only [ho]) hnew hl hK
 | assign x=>rw [ho] at hl; exact QJ h hd (x:=x) (by unfold execOp; simp only [ho]) hnew hl hK
 | pick c x y=>rw [ho] at hl; exact Wu h hd ho hl hK
 | alloc t=>rw [ho] at hl; exact Qt hP h hd ho hnew hl hK
 | box t x=>rw [ho] at hl; exact Q7 hP h hd ho hnew hl hK
 | build t ps=>rw [ho] at hl; exact Q_ hP h hd ho hl hK
 | buildSlice t len ps=>
  rw [ho] at hl
  unfold cO at hl
  dsimp only at hl
  split at hl
  rotate_left
  · exact hl.elim
  rename_i e het
  cases hv:(T.vw&&Nat.beq len 0) with
  | true=>
   rw [hv,cond_true] at hl
   have h0:=Nat.eq_of_beq_eq_true (Bool.and_eq_true_iff.1 hv).2
   subst h0
   exact RM hP h hd ho het hnew hl hK
  | false=>
  rw [hv,cond_false] at hl
  refine Q9 hP h hd ho (fun i x hm V hV j hj=> ?_) hnew (by rw [het]; exact hl) hK
  exact tA (List.mem_append.2 (.inl (ur (x:=x) (by simp only [Op.operands]; exact List.mem_map.2 ⟨(i,x),hm,rfl⟩) hV hj)))
 | load t x=>rw [ho] at hl; exact Vz hP h hd ho hl hK
 | store t x y=>
  rw [ho] at hl
  unfold cO at hl
  dsimp only at hl
  split at hl
  · rename_i n e u hte
    refine ZJ hP h hd ho hte (fun V hV j hj=> ?_) hl hK
    exact tA (List.mem_append.2 (.inl (ur (x:=y) (by simp [Op.operands]) hV hj)))
  · refine Ou hP h hd ho (fun V hV j hj=> ?_) hl hK
    exact tA (List.mem_append.2 (.inl (ur (x:=y) (by simp [Op.operands]) hV hj)))
 | nilCheck x=>rw [ho] at hl; exact VR h hd ho hl hK
 | binOp op t x y t'=>
  rw [ho] at hl
  by_cases hy:y= .const .nilIface
  · subst hy
    exact RQ hP h hd ho hl hK
  rw [Gh hy] at hl
  cases he:S.eq t with
  | true=>rw [he,cond_true] at hl; exact ZL hP h hd ho he hl hK
  | false=>rw [he,cond_false] at hl; exact QU hP h hd ho hl hK
 | unOp op t x=>rw [ho] at hl; exact aaG h hd ho hl hK
 | convert s t x=>rw [ho] at hl; exact Rr hP h hd ho hl hK
 | makeFunc fn first cs=>
  rw [ho] at hl
  cases fn with
  | func f=>
   obtain ⟨l⟩:=first
   cases l with
   | nil=>exact VI h hd ho hl hK
   | cons x r=>exact hl.elim
  | _=>exact hl.elim
 | makeSlice t x y=>rw [ho] at hl; exact VH hP h hd ho hnew hl hK
 | slice t x lo hi m=>
  rw [ho] at hl
  cases m with
  | none=>exact Zw hP h hd ho hl hK
  | some m=>
   cases lo with
   | none=>exact hl.elim
   | some lo=>
    cases hi with
    | none=>exact hl.elim
    | some hi=>exact Zv hP h hd ho hl hK
 | fieldAddr t x f=>rw [ho] at hl; exact Sk hP h hd ho hl hK
 | field t x f=>rw [ho] at hl; exact Sl hP h hd ho hl hK
 | indexAddr t x i=>
  rw [ho] at hl
  unfold cO at hl
  dsimp only at hl
  split at hl
  · rename_i n e u hte; exact QE hP h hd ho hte hl hK
  · exact Ux hP h hd ho hl hK
 | index t x i=>
  rw [ho] at hl
  unfold cO at hl
  dsimp only at hl
  split at hl
  · rename_i n e u hte; exact QG hP h hd ho hte hl hK
  · split at hl
    · rename_i n m u hte; exact QF hP h hd ho hte hl hK
    · exact Uz hP h hd ho hl hK
 | extract x i=>rw [ho] at hl; exact Si h hd ho hl hK
 | call c=>
  rw [ho] at hl
  unfold cO at hl
  dsimp only at hl
  split at hl
  · exact hl.elim
  · rename_i args hargs
    obtain ⟨callee,wS,Jz⟩:=c
    have hmem: ∀ V ∈ args, ∃ x ∈ wS.toList,aX S env.tm x=some V:=(zC h hargs).2
    cases callee with
    | builtin b=>
     cases b with
     | len=>exact Vb hP h hd ho rfl hargs hl hK
     | append=>
      refine Qz hP h hd ho rfl hargs (fun V hV j hj=> ?_) hnew hl hK
      obtain ⟨x,hx,he⟩:=hmem V hV
      exact tA (List.mem_append.2 (.inl (ur (x:=x) (by simp only [Op.operands,Call.operands]; simpa using hx) he hj)))
     | clear=>exact Rl hP h hd ho rfl hargs hl hK
     | _=>exact VL h hd ho rfl hargs hl hK
    | value f=>
     dsimp only at hl
     split at hl
     · rename_i Vf hf
       refine Rg hP hT hF h hd ho rfl hargs hf (fun V hV=> ?_) ?_ hnew hl hK
       · obtain ⟨x,hx,he⟩:=hmem V hV
         exact JG fun i hi=>ur (x:=x) (by simp only [Op.operands,Call.operands]; simp; right; simpa using hx) he hi
       · exact JG fun i hi=>ur (x:=f) (by simp only [Op.operands,Call.operands]; simp) hf hi
     · exact hl.elim
    | invoke r n=>exact hl.elim
 | _=>rw [ho] at hl; exact hl.elim
end
end Go.Sy
namespace Go.Sy
section
variable {P:Program} {S:bf} {au:Nat→Nat} {T:iz S}
variable {w0:World} {M0 s0:St} {dq:List Deferred} {env:Env S.C} {a:Act} {w:World} {μ:Nat→Loc}
theorem Ot {R:Type} {B:Nat} {dst:Option Nat} {o:Op} {ty:Nat} {k:Env S.C→Option R} {r:R} (h:Ih S T au B dst o ty env k=some r):
 ∃ V us,(cO S T au B o ty env.tm (restrict S env.bx (aM S T.vw B o env.tm env.bx).1)).leaf (V,us)∧n6 S env.bx B (aM S T.vw B o env.tm env.bx).2 us=true∧k (env.apply dst V us)=some r:=by
 unfold Ih at h
 obtain ⟨⟨V,us⟩,h1,h2⟩:=Tr.tG _ h
 dsimp only at h2
 cases hl:n6 S env.bx B (aM S T.vw B o env.tm env.bx).2 us with
 | false=>rw [hl] at h2; cases h2
 | true=>rw [hl] at h2; exact ⟨V,us,h1,hl,h2⟩
def rz (V:Sy.V S.C) (x:Bool):Prop:=(V= .d .bool x)∨ ∃ p i,V= .pr p i∧ @decide p i=x
theorem rz.val {s:St} {bx:Bx S.C} {V:Sy.V S.C} {x:Bool} (h:rz V x) {v:Value} (hv:RV P S w s μ bx V v):v= .bool x:=by
 rcases h with rfl | ⟨p,i,rfl,rfl⟩
 · exact rC hv
 · exact hv
theorem Ie {R:Type} {g:Bool} {dst:Option Nat} {k:Env S.C→Option R} {r:R} (h:splitK S g dst env k=some r):
 (g=false∧k env=some r)∨ ∃ t x,g=true∧dst=some t∧rz (env.tm t) x∧k { env with tm:=az env.tm t (.d .bool x) } =some r:=by
 cases g with
 | false=>exact .inl ⟨rfl,h⟩
 | true=>
  right
  cases dst with
  | none=>cases h
  | some t=>
   simp only [splitK] at h
   split at h
   · rename_i x ht
     cases x with
     | true=>exact ⟨t,true,rfl,rfl, .inl ht,h⟩
     | false=>exact ⟨t,false,rfl,rfl, .inl ht,h⟩
   · rename_i p i ht
     by_cases hp:p
     · rw [if_pos hp] at h
       exact ⟨t,true,rfl,rfl, .inr ⟨p,i,ht,decide_eq_true hp⟩,h⟩
     · rw [if_neg hp] at h
       exact ⟨t,false,rfl,rfl, .inr ⟨p,i,ht,decide_eq_false hp⟩,h⟩
   · cases h
theorem Inv.HM (h:Inv P S w0 M0 s0 dq env a w μ) {t:Nat} {x:Bool} (hk:rz (env.tm t) x):Inv P S w0 M0 s0 dq { env with tm:=az env.tm t (.d .bool x) } a w μ:=by
 have hv:=hk.val (h.kJ t)
 refine ⟨fun u=> ?_,h.cm,h.dB,h.own,fun u i hi=> ?_,h.l5,h.i_,h.ue,h.rV⟩
 · by_cases e:u=t
   · subst e
     show RV P S w _ μ env.bx (az env.tm u (.d .bool x) u) _
     rw [aZ,hv]
     exact oU ..
   · show RV P S w _ μ env.bx (az env.tm t (.d .bool x) u) _
     rw [bA _ _ e]
     exact h.kJ u
 · have hi':i ∈ aH S (az env.tm t (.d .bool x) u):=hi
   by_cases e:u=t
   · subst e
     rw [aZ] at hi'
     simp [aH,aF] at hi'
   · rw [bA _ _ e] at hi'
     exact h.ref u i hi'
theorem SC {a:Act} {t:Nat} {x:Bool} (h:a.tmps.getD t Go.undef= .bool x):a.tmps[t]? =some (.bool x):=by
 rw [Array.getD_eq_getD_getElem?] at h
 cases e:a.tmps[t]? with
 | none=>rw [e] at h; cases h
 | some v=>rw [e] at h; exact congrArg some h
theorem Ir {ops:Array Oper} {o:Oper} {b:Bool} (h:Inv P S w0 M0 s0 dq env a w μ) (hw:oK S ops o env.tm=some b):Region.wanted o (yielded ops a.tmps)=b:=by
 unfold oK at hw
 unfold Region.wanted
 split at hw
 · rename_i hg
   rw [hg]
   exact Option.some.inj hw
 · rename_i j want hg
   rw [hg]
   dsimp only
   split at hw
   · cases hw
   · rename_i t ht
     unfold yielded
     rw [ht]
     simp only [Option.bind_some]
     split at hw
     · rename_i x hx
       have hv:=h.kJ t
       rw [hx] at hv
       rw [SC (rC hv)]
       cases hw
       cases x <;> cases want <;> rfl
     · rename_i hx
       have hv:=h.kJ t
       rw [hx] at hv
       have hv:a.tmps.getD t Go.undef=Go.undef:=hv
       cases hw
       rw [Array.getD_eq_getD_getElem?] at hv
       cases e:a.tmps[t]? with
       | none=>rfl
       | some v=>
        rw [e] at hv
        have hv:v=Go.undef:=hv
        rw [hv]
        rfl
     · cases hw
theorem WH (a:Act) (dst:Option Nat) (v:Value):(a.put dst v).tmps.size=a.tmps.size:=by cases dst <;> simp [Act.put]
theorem Inv.skip (h:Inv P S w0 M0 s0 dq env a w μ) {dst:Option Nat} (hd: ∀ d,dst=some d→d<a.tmps.size):Inv P S w0 M0 s0 dq (env.apply dst .skip []) (a.put dst undef) w μ:=
 h.put hd (V:= .skip) (v:=undef) rfl (by simp [aH,aF])
theorem O5 {o:Oper} {K:Act→World→Prop} {Q:Exit→Act→World→Prop} (h:o.wp P a w K Q):o.wp P a w (fun a' w'=>K a' w'∧ ∃ v d,a'=({ a with defers:=d } :Act).put o.dst v) Q:=by
 unfold Oper.wp at *
 generalize (execOp a.eval o).run P w=r at *
 cases r with
 | ok n w'=>
  cases n <;> simp only [Oper.upon] at h ⊢ <;>
   first
    | exact ⟨h,_,_,rfl⟩
    | exact Calls.mono h (fun e w'' he=>by cases e <;> first | exact ⟨he,_,a.defers,rfl⟩ | exact he)
    | exact Rows.mono h (fun _ _ he=>⟨he,_,a.defers,rfl⟩)
 | halt x w'=>cases x <;> simp only [Oper.upon] at h ⊢ <;> exact h
theorem Mh (hP:bh P S au) (hT: ∀ e ∈ T.es,p_ P S w0 M0 e) (hF: ∀ e ∈ T.fs,gM P S e) (h:Inv P S w0 M0 s0 dq env a w μ) {o:Oper} (hd: ∀ d,o.dst=some d→d<a.tmps.size) {B:Nat} {V:Sy.V S.C} {us:aP S.C} {K:Act→World→Prop} {Q:Exit→Act→World→Prop}
 (hl:(cO S T au B o.op o.type env.tm (restrict S env.bx (aM S T.vw B o.op env.tm env.bx).1)).leaf (V,us)) (AG:n6 S env.bx B (aM S T.vw B o.op env.tm env.bx).2 us=true)
 (hK: ∀ a' w' μ',Inv P S w0 M0 s0 dq (env.apply o.dst V us) a' w' μ'→(∃ v d,a'=({ a with defers:=d } :Act).put o.dst v)→K a' w'):o.wp P a w K Q:=
 Oper.wp_mono (fun a' w' ⟨⟨μ',hI⟩,hv⟩=>hK a' w' μ' hI hv) (O5 (V_ hP hT hF h hd hl AG (K:=fun a' w'=> ∃ μ',Inv P S w0 M0 s0 dq (env.apply o.dst V us) a' w' μ') fun a' w' μ' hI _=>⟨μ',hI⟩))
structure zp (ops:Array Oper) (Z:Act→Prop):Prop where
 dst: ∀ a,Z a→ ∀ o ∈ ops.toList, ∀ d,o.dst=some d→d<a.tmps.size
 put: ∀ a,Z a→ ∀ o ∈ ops.toList, ∀ v d,Z (({ a with defers:=d } :Act).put o.dst v)
theorem Ql {R:Type} {a b:Option R} {r:R} (h:agree a b=some r):a=some r∧b=some r:=by
 unfold agree at h
 split at h
 · rename_i e; exact ⟨h,e▸h⟩
 · cases h
theorem YZ (d:Nat) {t te:TypeId} (hu:P.underlying t=some (.slice te)) (a:Option Addr) (n c:Nat) (w:World):(Op.equalIn (d+1) t (.slice a n c) (.slice none 0 0)).run P w= .ok a.isNone w:=by
 unfold Op.equalIn
 cases a <;> simp [run_underlying hu]
theorem NS {t te:TypeId} (hu:P.underlying t=some (.slice te)) (a:Option Addr) (n c:Nat) (w:World):(Op.equal t (.slice a n c) (.slice none 0 0)).run P w= .ok a.isNone w:=YZ 9999 hu a n c w
theorem VS (hP:bh P S au) (h:Inv P S w0 M0 s0 dq env a w μ) {o:Oper} (hd: ∀ d,o.dst=some d→d<a.tmps.size) {m:Nat} {v:Bool} (hn:yc S o.op env.tm=some (m,v)) {Q:Exit→Act→World→Prop} :
 ∃ x:Bool,(x=v∨m=0)∧ ∀ K:Act→World→Prop,(∀ a' w' μ',Inv P S w0 M0 s0 dq (env.apply o.dst (.d .bool x) []) a' w' μ'→(∃ v d,a'=({ a with defers:=d } :Act).put o.dst v)→K a' w')→o.wp P a w K Q:=by
 unfold yc at hn
 split at hn
 · rename_i op t x ty ho
   split at hn
   · rename_i e het
     obtain ⟨te,_,_,hu,_⟩:=hP.sl (oV het)
     split at hn
     · rename_i e' l hx
       obtain ⟨hv,_⟩:=bI h hx
       obtain ⟨ad,cap,e1,e2,e3⟩:=mC hv
       have go: ∀ (y:Bool),(binOp op t (.slice ad l.length cap) (.slice none 0 0)).run P w= .ok (.bool y) w→ ∀ K:Act→World→Prop,(∀ a' w' μ',Inv P S w0 M0 s0 dq (env.apply o.dst (.d .bool y) []) a' w' μ'→(∃ v d,a'=({ a with defers:=d } :Act).put o.dst v)→K a' w')→o.wp P a w K Q:=by
        intro y hrun K hK
        refine Oper.wp_mono (fun a' w' ⟨⟨μ',hI⟩,hv⟩=>hK a' w' μ' hI hv) (O5 (wp_pure (K:=fun a' w'=> ∃ μ',Inv P S w0 M0 s0 dq (env.apply o.dst (.d .bool y) []) a' w' μ') (V:= .d .bool y) (v:= .bool y) h ?_ hd (oU ..) (by simp [aH,aF]) fun a' w' μ' hI _=>⟨μ',hI⟩))
        unfold execOp
        simp only [ho,e1]
        have hg:(eqGuard op t x (.const (.slice none 0 0)) (.slice ad l.length cap) (.slice none 0 0)).run P w= .ok () w:=Es rfl w
        have hev:a.eval (.const (.slice none 0 0))= .slice none 0 0:=rfl
        simp [hg,hrun,hev]
       have hlen:ad=none→List.length l=0:=by
        intro h0
        rcases e3 with e3 | ⟨b,o',n',e3,_⟩
        · exact e3
        · rw [h0] at e3; cases e3
       split at hn <;> cases hn
       · refine ⟨ad.isNone, ?_,go _ (by simp [binOp,NS hu])⟩
         cases ad with
         | none=>exact .inr (hlen rfl)
         | some _=>exact .inl rfl
       · refine ⟨!ad.isNone, ?_,go _ (by simp [binOp,NS hu])⟩
         cases ad with
         | none=>exact .inr (hlen rfl)
         | some _=>exact .inl rfl
     · cases hn
   · cases hn
 · cases hn
def zn (T:iz S) (dq:List Deferred) (Z:Act→Prop):Prop:=
 ∀ f ops,T.dc=some (f,ops)→ ∀ a,Z a→dq= [⟨.fn (.func f) #[],(ops.map a.eval).toArray⟩]
theorem Zf (h:Inv P S w0 M0 s0 dq env a w μ) {x y:Operand} (hs:H6 S env.tm x y=true):a.eval x=a.eval y:=by
 unfold H6 at hs
 split at hs
 · rw [Bool.and_eq_true,decide_eq_true_eq,decide_eq_true_eq] at hs
   rw [hs.1,hs.2]
 · rename_i t u
   split at hs
   · rename_i b o b' o' h1 h2
     rw [Bool.and_eq_true] at hs
     have e1:=Nat.eq_of_beq_eq_true hs.1
     have e2:=Nat.eq_of_beq_eq_true hs.2
     have r1:=h.kJ t
     have r2:=h.kJ u
     rw [h1] at r1
     rw [h2] at r2
     have r1:a.tmps.getD t undef=_:=r1
     have r2:a.tmps.getD u undef=_:=r2
     show a.tmps.getD t undef=a.tmps.getD u undef
     rw [r1,r2,e1,e2]
   · cases hs
 · cases hs
theorem N7 (h:Inv P S w0 M0 s0 dq env a w μ): ∀ {xs ys:List Operand},C9 S env.tm xs ys=true→xs.map a.eval=ys.map a.eval
 | [],[],_=>rfl
 | x::xs,y::ys,hs=>by
  simp only [C9,Bool.and_eq_true] at hs
  rw [List.map_cons,List.map_cons,Zf h hs.1,N7 h hs.2]
 | [],_::_,h=>by cases h
 | _::_,[],h=>by cases h
theorem Rw (h:Inv P S w0 M0 s0 dq env a w μ) {Z:Act→Prop} (hD:zn T dq Z) (hN:Z a) {o:Oper} (hd: ∀ d,o.dst=some d→d<a.tmps.size) (hi:AI o.op=true) (hdf:env.df=false) (hk:zU S env.tm T.dc o.op=true)
 {K:Act→World→Prop} {Q:Exit→Act→World→Prop} (hK: ∀ ds,Inv P S w0 M0 s0 dq { env.apply o.dst .skip [] with df:=true } (({ a with defers:=ds } :Act).put o.dst undef) w μ→K (({ a with defers:=ds } :Act).put o.dst undef) w):o.wp P a w K Q:=by
 cases ho:o.op <;> rw [ho] at hi <;> try (cases hi; done)
 rename_i c
 rw [ho] at hk
 obtain ⟨callee,args,tys⟩:=c
 cases callee with
 | builtin b=>cases hk
 | invoke r n=>cases hk
 | value fo=>
  cases fo with
  | func f=>
   unfold zU at hk
   cases hdc:T.dc with
   | none=>rw [hdc] at hk; cases hk
   | some p=>
    obtain ⟨g,ops⟩:=p
    rw [hdc] at hk
    dsimp only at hk
    rw [Bool.and_eq_true] at hk
    have hfg:=Nat.eq_of_beq_eq_true hk.1
    subst hfg
    have hq:=hD f ops hdc a hN
    have hargs:(ops.map a.eval).toArray=args.map a.eval:=by
     rw [← N7 h hk.2]
     apply Array.ext'
     simp
    have h0:a.defers= []:=by rw [h.ue,hdf]; rfl
    unfold Oper.wp
    have hrun:(execOp a.eval o).run P w= .ok (.defer ⟨.fn (.func f) #[],args.map a.eval⟩) w:=by
     unfold execOp
     simp only [ho]
     simp [resolve,Deferred.ofValue,Act.eval]
    rw [hrun]
    show K _ _
    refine hK _ ?_
    have hs:=h.skip hd
    refine ⟨?_,hs.cm,hs.dB,hs.own,hs.ref,hs.l5,hs.i_, ?_,hs.rV⟩
    · intro t
      have :=hs.kJ t
      cases KV:o.dst <;> rw [KV] at this <;> exact this
    · rw [hargs] at hq
      cases KV:o.dst <;> (show (_::a.defers)=dq; rw [h0,hq])
  | _=>cases hk
theorem tw (hP:bh P S au) (hT: ∀ e ∈ T.es,p_ P S w0 M0 e) (hF: ∀ e ∈ T.fs,gM P S e) {R:Type} {cQ:Nat} {ops:Array Oper} {eI:Array Nat} {draw:Bool} {k:Env S.C→Option R} {r:R} {Z:Act→Prop} {Q:Exit→Act→World→Prop}
 (hZ:zp ops Z) (hD:zn T dq Z) (hQ: ∀ env' a' w' μ',k env'=some r→Inv P S w0 M0 s0 dq env' a' w' μ'→Z a'→Q .normal a' w'):
 ∀ (l:List Oper) (n:Nat) (dj:List (Nat×Option (List Nat×List Nat))) (env:Env S.C) (a:Act) (w:World) (μ:Nat→Loc),l=ops.toList.drop n→kH S T au cQ ops draw eI k l n dj env=some r→
 Inv P S w0 M0 s0 dq env a w μ→Z a→wpOps P ops Q (List.range' n l.length) a w
 | [],n,dj,env,a,w,μ,hl,hr,h,hN=>by
  simp only [kH] at hr
  cases hc:(!draw||(oT ops eI dj&&zf ops)) with
  | false=>rw [hc] at hr; cases hr
  | true=>rw [hc] at hr; exact hQ env a w μ hr h hN
 | o::l,n,dj,env,a,w,μ,hl,hr,h,hN=>by
  have fU:ops[n]? =some o:=by
   have :=congrArg (·[0]?) hl
   simp at this
   simpa using this.symm
  have hmem:o ∈ ops.toList:=by
   have :o ∈ ops.toList.drop n:=by rw [← hl]; simp
   exact List.mem_of_mem_drop this
  have hd: ∀ d,o.dst=some d→d<a.tmps.size:=hZ.dst a hN o hmem
  have hl':l=ops.toList.drop (n+1):=by
   rw [← List.drop_drop, ← hl]; rfl
  rw [List.length_cons,List.range'_succ,wpOps_cons]
  unfold wpOp
  rw [fU]
  dsimp only
  simp only [kH] at hr
  cases hw:oK S ops o env.tm with
  | none=>rw [hw] at hr; cases hr
  | some b=>
   rw [hw] at hr
   rw [Ir h hw]
   cases b with
   | false=>
    rw [if_neg (by simp)]
    exact tw hP hT hF hZ hD hQ l (n+1) _ _ _ w μ hl' hr (h.skip hd) (hZ.put a hN o hmem undef a.defers)
   | true=>
    rw [if_pos rfl]
    left
    dsimp only at hr
    cases hdf:AI o.op with
    | true=>
     rw [hdf] at hr
     dsimp only at hr
     cases hc:(draw||env.df|| !zU S env.tm T.dc o.op) with
     | true=>rw [hc] at hr; cases hr
     | false=>
      rw [hc,cond_false] at hr
      simp only [Bool.or_eq_false_iff,Bool.not_eq_false'] at hc
      exact Rw h hD hN hd hdf hc.1.2 hc.2 fun ds hI=>tw hP hT hF hZ hD hQ l (n+1) _ _ _ w μ hl' hr hI (hZ.put a hN o hmem undef ds)
    | false=>
    rw [hdf] at hr
    dsimp only at hr
    cases hn:yc S o.op env.tm with
    | some p=>
     obtain ⟨m,v⟩:=p
     rw [hn] at hr
     cases mT:draw with
     | true=>rw [mT] at hr; cases hr
     | false=>
     rw [mT] at hr
     simp only [cond_false] at hr
     obtain ⟨x,Uo,TB⟩:=VS (Q:=Q) hP h hd hn
     have Tm:splitK S (xQ ops n) o.dst (env.apply o.dst (.d .bool x) []) (fun e=>kH S T au cQ ops false eI k l (n+1) ((n,some ([],[]))::dj) e)=some r:=by
      by_cases hm:m=0
      · rw [if_pos hm] at hr
        obtain ⟨r1,r2⟩:=Ql hr
        cases x <;> cases v <;> first | exact r1 | exact r2
      · rw [if_neg hm] at hr
        rcases Uo with rfl | h0
        · exact hr
        · exact absurd h0 hm
     refine TB _ fun a' w' μ' hI ⟨v,d,hs⟩=> ?_
     rcases Ie Tm with ⟨_,h4⟩ | ⟨t,y,_,_,hk,h4⟩
     · exact tw hP hT hF hZ hD hQ l (n+1) _ _ a' w' μ' hl' h4 hI (hs▸hZ.put a hN o hmem v d)
     · exact tw hP hT hF hZ hD hQ l (n+1) _ _ a' w' μ' hl' h4 (hI.HM hk) (hs▸hZ.put a hN o hmem v d)
    | none=>
    rw [hn] at hr
    obtain ⟨V,us,h1,h2,h3⟩:=Ot hr
    refine Mh hP hT hF h hd h1 h2 fun a' w' μ' hI ⟨v,d,hs⟩=> ?_
    rcases Ie h3 with ⟨_,h4⟩ | ⟨t,x,_,_,hk,h4⟩
    · exact tw hP hT hF hZ hD hQ l (n+1) _ _ a' w' μ' hl' h4 hI (hs▸hZ.put a hN o hmem v d)
    · exact tw hP hT hF hZ hD hQ l (n+1) _ _ a' w' μ' hl' h4 (hI.HM hk) (hs▸hZ.put a hN o hmem v d)
end
end Go.Sy
namespace Go.Sy
theorem QM (ops:List Oper): ∀ (acc:Array Nat), ∃ b:Array Nat,(ops.foldl (init:=acc) fun acc o=>acc.push (o.after.foldl (fun s e=>if Region.binds .any e then s ||| 2 ^ e.on ||| acc.getD e.on 0 else s) 0))=b∧
 (∀ j,j<acc.size→b.getD j 0=acc.getD j 0)∧b.size=acc.size+ops.length∧
 ∀ j o,ops[j]? =some o→ ∀ i,(b.getD (acc.size+j) 0).testBit i=true→ ∃ e ∈ o.after.toList,Region.binds .any e=true∧(e.on=i∨(e.on<acc.size+j∧(b.getD e.on 0).testBit i=true)):=by
 induction ops with
 | nil=>intro acc; exact ⟨acc,rfl,fun _ _=>rfl,rfl,fun j o h=>by simp at h⟩
 | cons o ops ih=>
  intro acc
  obtain ⟨b,h1,h2,h3,h4⟩:=ih (acc.push (o.after.foldl (fun s e=>if Region.binds .any e then s ||| 2 ^ e.on ||| acc.getD e.on 0 else s) 0))
  refine ⟨b,h1,fun j hj=> ?_,by rw [h3]; simp; omega,fun j o' hj i hi=> ?_⟩
  · rw [h2 j (by simp; omega)]
    simp only [Array.getD_eq_getD_getElem?]
    rw [Array.getElem?_push_lt hj]
    simp [hj]
  · cases j with
    | zero=>
     simp at hj
     subst hj
     rw [Nat.add_zero] at hi ⊢
     rw [h2 acc.size (by simp)] at hi
     simp only [Array.getD_eq_getD_getElem?,Array.getElem?_push_size,Option.getD_some] at hi
     rw [← Array.foldl_toList] at hi
     have : ∀ (l:List Edge) (s:Nat),(l.foldl (fun s e=>if Region.binds .any e then s ||| 2 ^ e.on ||| (acc[e.on]?.getD 0) else s) s).testBit i=true→s.testBit i=true∨ ∃ e ∈ l,Region.binds .any e=true∧(e.on=i∨(acc[e.on]?.getD 0).testBit i=true):=by
      intro l
      induction l with
      | nil=>intro s h; exact .inl h
      | cons e l ih2=>
       intro s h
       rcases ih2 _ h with h | ⟨e',he',h⟩
       · dsimp only at h
         by_cases hb:Region.binds .any e=true
         · rw [if_pos hb,Nat.testBit_or,Nat.testBit_or,Bool.or_eq_true,Bool.or_eq_true,Nat.testBit_two_pow] at h
           rcases h with (h | h) | h
           · exact .inl h
           · exact .inr ⟨e,by simp,hb, .inl (by simpa using h)⟩
           · exact .inr ⟨e,by simp,hb, .inr h⟩
         · rw [if_neg hb] at h; exact .inl h
       · exact .inr ⟨e',by simp [he'],h⟩
     rcases this _ _ hi with h | ⟨e,he,hb,h⟩
     · simp at h
     · refine ⟨e,he,hb,h.imp id fun h=> ?_⟩
       have hlt:e.on<acc.size:=by
        rcases Nat.lt_or_ge e.on acc.size with hlt | hge
        · exact hlt
        · rw [Array.getElem?_eq_none hge] at h; simp at h
       refine ⟨hlt, ?_⟩
       rw [h2 e.on (by simp; omega)]
       simp only [Array.getD_eq_getD_getElem?]
       rw [Array.getElem?_push_lt hlt]
       simpa [hlt] using h
    | succ j=>
     have hs:(acc.push (o.after.foldl (fun s e=>if Region.binds .any e then s ||| 2 ^ e.on ||| acc.getD e.on 0 else s) 0)).size+j=acc.size+(j+1):=by simp; omega
     have :=h4 j o' (by simpa using hj) i (by rw [hs]; exact hi)
     rw [hs] at this
     exact this
theorem Jg {ops:Array Oper} {j:Nat} {o:Oper} (hj:ops[j]? =some o) {i:Nat} (hi:((Region.before ops).getD j 0).testBit i=true):
 ∃ e ∈ o.after.toList,Region.binds .any e=true∧(e.on=i∨(e.on<j∧((Region.before ops).getD e.on 0).testBit i=true)):=by
 obtain ⟨b,h1,h2,h3,h4⟩:=QM ops.toList #[]
 have hb:Region.before ops=b:=by
  rw [← h1]
  unfold Region.before
  rw [← Array.foldl_toList]
 rw [hb] at hi ⊢
 have :=h4 j o (by simpa using hj) i (by simpa using hi)
 simpa using this
def wo (ops:Array Oper) (D:Nat→Bool):Prop:= ∀ j o,D j=true→ops[j]? =some o→ ∀ e ∈ o.after.toList,Region.binds .any e=true→D e.on=true
theorem wo.before {ops:Array Oper} {D:Nat→Bool} (h:wo ops D) (hn: ∀ j,D j=true→j<ops.size): ∀ (j i:Nat),D j=true→((Region.before ops).getD j 0).testBit i=true→D i=true:=by
 intro j
 induction j using Nat.strongRecOn with
 | _ j ih=>
  intro i hj hi
  have hlt:=hn j hj
  obtain ⟨e,he,hb,h1⟩:=Jg (ops:=ops) (j:=j) (o:=ops[j]) (by simp [hlt]) hi
  have :=h j ops[j] hj (by simp [hlt]) e he hb
  rcases h1 with rfl | ⟨h1,h2⟩
  · exact this
  · exact ih e.on h1 i this h2
theorem Xh {ops:Array Oper} {D:Nat→Bool} (h:wo ops D) (hn: ∀ j,D j=true→j<ops.size) {j:Nat} {o:Oper} (hj:ops[j]? =some o) (hr: ∀ e ∈ o.after.toList,Region.binds .any e=true→D e.on=true) {i:Nat}
 (hi:((Region.before ops).getD j 0).testBit i=true):D i=true:=by
 obtain ⟨e,he,hb,h1⟩:=Jg hj hi
 rcases h1 with rfl | ⟨h1,h2⟩
 · exact hr e he hb
 · exact h.before hn e.on i (hr e he hb) h2
def cnt (D:Nat→Bool):Nat→Nat
 | 0=>0
 | n+1=>cnt D n+cond (D n) 0 1
theorem Jv {D:Nat→Bool} {i:Nat} : ∀ {n:Nat},n≤i→cnt (az D i true) n=cnt D n
 | 0,_=>rfl
 | n+1,h=>by
  simp only [cnt]
  rw [Jv (by omega),bA _ _ (by omega)]
theorem Jw {D:Nat→Bool} {i:Nat} (hi:D i=false): ∀ {n:Nat},i<n→cnt (az D i true) n+1=cnt D n
 | 0,h=>by omega
 | n+1,h=>by
  simp only [cnt]
  by_cases e:i=n
  · subst e
    rw [Jv (Nat.le_refl _),aZ,hi]
    rfl
  · rw [bA _ _ (Ne.symm e)]
    have :=Jw hi (n:=n) (by omega)
    omega
theorem Jx {D:Nat→Bool} : ∀ {n:Nat},cnt D n=0→ ∀ i,i<n→D i=true
 | 0,_,i,h=>by omega
 | n+1,hc,i,h=>by
  simp only [cnt] at hc
  by_cases e:i=n
  · subst e
    cases hd:D i with
    | true=>rfl
    | false=>rw [hd] at hc; simp at hc
  · exact Jx (D:=D) (n:=n) (by omega) i (by omega)
end Go.Sy
namespace Go.Sy
section
variable {P:Program} {S:bf} {au:Nat→Nat} {T:iz S}
theorem mapM_congr {α β:Type} {f g:α→Option β} : ∀ {l:List α},(∀ x ∈ l,f x=g x)→l.mapM f=l.mapM g
 | [],_=>rfl
 | x::l,h=>by
  rw [List.mapM_cons,List.mapM_cons,h x (by simp),mapM_congr fun y hy=>h y (by simp [hy])]
theorem V9 {B:Nat} {o:Op} {ty:Nat} {tm nv:Nat→V S.C} {bx:Bx S.C} (h: ∀ x ∈ o.operands.toList,aX S tm x=aX S nv x):cO S T au B o ty tm bx=cO S T au B o ty nv bx:=by
 have h1: ∀ x,o.operands.toList= [x]→aX S tm x=aX S nv x:=fun x e=>h x (by rw [e]; simp)
 cases o with
 | move x=>simp only [cO,h1 x (by simp [Op.operands])]
 | assign x=>simp only [cO,h1 x (by simp [Op.operands])]
 | pick c x y=>simp only [cO,h c (by simp [Op.operands]),h x (by simp [Op.operands]),h y (by simp [Op.operands])]
 | alloc t=>rfl
 | box t x=>simp only [cO,h1 x (by simp [Op.operands])]
 | build t ps=>
  simp only [cO]
  rw [mapM_congr (l:=ps.toList) fun p hp=>by rw [h p.2 (by simp only [Op.operands]; exact List.mem_map.2 ⟨p,hp,rfl⟩)]]
 | buildSlice t len ps=>
  simp only [cO]
  rw [mapM_congr (l:=ps.toList) fun p hp=>by rw [h p.2 (by simp only [Op.operands]; exact List.mem_map.2 ⟨p,hp,rfl⟩)]]
 | load t x=>simp only [cO,h1 x (by simp [Op.operands])]
 | store t x y=>simp only [cO,h x (by simp [Op.operands]),h y (by simp [Op.operands])]
 | nilCheck x=>simp only [cO,h1 x (by simp [Op.operands])]
 | binOp op t x y t'=>
  have hx:=h x (by simp [Op.operands])
  have hy:=h y (by simp [Op.operands])
  by_cases e:y= .const .nilIface
  · subst e
    simp only [cO,hx]
  · rw [Gh e,Gh e,hx,hy]
 | unOp op t x=>simp only [cO,h1 x (by simp [Op.operands])]
 | convert s t x=>simp only [cO,h1 x (by simp [Op.operands])]
 | makeFunc fn first cs=>
  cases fn with
  | func f=>
   obtain ⟨l⟩:=first
   cases l with
   | nil=>
    simp only [cO]
    rw [mapM_congr (l:=cs.toList) fun x hx=>h x (by simpa [Op.operands] using hx)]
   | cons x r=>rfl
  | _=>rfl
 | makeSlice t x y=>simp only [cO,h x (by simp [Op.operands]),h y (by simp [Op.operands])]
 | slice t x lo hi m=>
  cases m with
  | some m=>
   cases lo with
   | none=>rfl
   | some lo=>
    cases hi with
    | none=>rfl
    | some hi=>simp only [cO,h x (by simp [Op.operands]),h lo (by simp [Op.operands]),h hi (by simp [Op.operands]),h m (by simp [Op.operands])]
  | none=>
   have e1:ku S tm lo=ku S nv lo:=by
    cases lo with
    | none=>rfl
    | some y=>simp only [ku]; rw [h y (by simp [Op.operands])]
   have e2:ku S tm hi=ku S nv hi:=by
    cases hi with
    | none=>rfl
    | some y=>simp only [ku]; rw [h y (by simp [Op.operands])]
   simp only [cO,h x (by simp [Op.operands]),e1,e2]
 | fieldAddr t x f=>simp only [cO,h1 x (by simp [Op.operands])]
 | field t x f=>simp only [cO,h1 x (by simp [Op.operands])]
 | indexAddr t x i=>simp only [cO,h x (by simp [Op.operands]),h i (by simp [Op.operands])]
 | index t x i=>simp only [cO,h x (by simp [Op.operands]),h i (by simp [Op.operands])]
 | extract x i=>simp only [cO,h1 x (by simp [Op.operands])]
 | call c=>
  obtain ⟨callee,wS,Jz⟩:=c
  have ha:wS.toList.mapM (aX S tm)=wS.toList.mapM (aX S nv):=mapM_congr fun x hx=>h x (by simp only [Op.operands,Call.operands]; simp; right; simpa using hx)
  unfold cO
  dsimp only
  rw [ha]
  cases callee with
  | builtin b=>cases b <;> rfl
  | value f=>
   dsimp only
   rw [h f (by simp [Op.operands,Call.operands])]
  | invoke r n=>rfl
 | _=>rfl
theorem EE {α β:Type} {f g:α→List β} : ∀ {l:List α},(∀ x ∈ l,f x=g x)→l.flatMap f=l.flatMap g
 | [],_=>rfl
 | x::l,h=>by rw [List.flatMap_cons,List.flatMap_cons,h x (by simp),EE fun y hy=>h y (by simp [hy])]
theorem Rv {bx aq:Bx S.C} {ids:List Nat} (h: ∀ i ∈ ids,aq i=bx i):deep S aq ids=deep S bx ids:=by
 unfold deep
 congr 1
 exact EE fun i hi=>by rw [h i hi]
theorem Ss {B:Nat} {o:Op} {tm nv:Nat→V S.C} {bx aq:Bx S.C} (h: ∀ x ∈ o.operands.toList,aX S nv x=aX S tm x) (hb: ∀ i ∈ (aM S T.vw B o tm bx).1,aq i=bx i):aM S T.vw B o nv aq=aM S T.vw B o tm bx:=by
 have hi:o.operands.toList.flatMap (uU S nv)=o.operands.toList.flatMap (uU S tm):=
  EE fun x hx=>by unfold uU; rw [h x hx]
 have h1: ∀ x,o.operands.toList= [x]→aX S nv x=aX S tm x:=fun x e=>h x (by rw [e]; simp)
 cases o with
 | move x=>simp only [aM,h1 x (by simp [Op.operands])]
 | assign x=>simp only [aM,h1 x (by simp [Op.operands])]
 | call c=>
  obtain ⟨callee,wS,Jz⟩:=c
  cases callee with
  | builtin b=>
   cases b with
   | len=>simp only [aM]; rw [hi]
   | _=>simp only [aM]; rw [hi]
  | value f=>
   simp only [aM]
   rw [hi,Rv fun i hm=>hb i (by simp only [aM]; exact List.mem_append.2 (.inl (List.mem_append.2 (.inl hm))))]
  | invoke r n=>simp only [aM]; rw [hi]
 | _=>simp only [aM] <;> rw [hi]
structure dO (S:bf) where
 dst:Option Nat
 W:V S.C
 us:aP S.C
 fp:Option (List Nat×List Nat)
def dO.put (e:dO S) (env:Env S.C):Env S.C:=env.apply e.dst e.W e.us
def bZ (D:Nat→Bool):List (dO S)→Nat→Env S.C→Env S.C
 | [],_,env=>env
 | e::es,n,env=>bZ D es (n+1) (cond (D n) (e.put env) env)
def Spec (T:iz S) (au:Nat→Nat) (cQ:Nat) (ops:Array Oper) (env:Env S.C) (n:Nat) (o:Oper) (e:dO S):Prop:=
 e.dst=o.dst∧((oK S ops o env.tm=some false∧e.W= .skip∧e.us= []∧e.fp=none)∨
  (oK S ops o env.tm=some true∧e.fp=some (aM S T.vw (mG cQ n o.dst) o.op env.tm env.bx)∧n6 S env.bx (mG cQ n o.dst) (aM S T.vw (mG cQ n o.dst) o.op env.tm env.bx).2 e.us=true∧
   ∃ V,(cO S T au (mG cQ n o.dst) o.op o.type env.tm (restrict S env.bx (aM S T.vw (mG cQ n o.dst) o.op env.tm env.bx).1)).leaf (V,e.us)∧
    (e.W=V∨ ∃ t x,o.dst=some t∧rz V x∧e.W= .d .bool x)))
def tR (T:iz S) (au:Nat→Nat) (cQ:Nat) (ops:Array Oper):List Oper→Nat→Env S.C→List (dO S)→Prop
 | [],_,_,es=>es= []
 | o::l,n,env,es=> ∃ e r,es=e::r∧Spec T au cQ ops env n o e∧tR T au cQ ops l (n+1) (e.put env) r
def xd:List (dO S)→Nat→List (Nat×Option (List Nat×List Nat))→List (Nat×Option (List Nat×List Nat))
 | [],_,dj=>dj
 | e::es,n,dj=>xd es (n+1) ((n,e.fp)::dj)
theorem RO (es:List (dO S)) (n:Nat) (env:Env S.C): ∀ {D:Nat→Bool},(∀ i,n≤i→i<n+es.length→D i=true)→bZ D es n env=es.foldl (fun env e=>e.put env) env:=by
 induction es generalizing n env with
 | nil=>intro D _; rfl
 | cons e es ih=>
  intro D h
  simp only [bZ,List.foldl_cons]
  rw [h n (Nat.le_refl _) (by simp),cond_true]
  exact ih (n+1) _ fun i h1 h2=>h i (by omega) (by simp; omega)
theorem JS (es:List (dO S)) (n:Nat) (env:Env S.C) {D:Nat→Bool} (h: ∀ i,n≤i→D i=false):bZ D es n env=env:=by
 induction es generalizing n env with
 | nil=>rfl
 | cons e es ih=>
  simp only [bZ]
  rw [h n (Nat.le_refl _),cond_false]
  exact ih (n+1) _ fun i hi=>h i (by omega)
theorem OY {α:Type} (f:Nat→α) (k:Nat) (v u:α):az (az f k v) k u=az f k u:=by
 funext i
 by_cases e:i=k
 · subst e; rw [aZ,aZ]
 · rw [bA _ _ e,bA _ _ e,bA _ _ e]
theorem Cz {R:Type} {cQ:Nat} {ops:Array Oper} {eI:Array Nat} {draw:Bool} {k:Env S.C→Option R} {r:R} :
 ∀ (l:List Oper) (n:Nat) (dj:List (Nat×Option (List Nat×List Nat))) (env:Env S.C),kH S T au cQ ops draw eI k l n dj env=some r→
 draw=true→ ∃ es,tR T au cQ ops l n env es∧k (es.foldl (fun env e=>e.put env) env)=some r∧(draw=true→oT ops eI (xd es n dj)=true∧zf ops=true)
 | [],n,dj,env,hr,mT=>by
  simp only [kH] at hr
  cases hc:(!draw||(oT ops eI dj&&zf ops)) with
  | false=>rw [hc] at hr; cases hr
  | true=>
   rw [hc] at hr
   refine ⟨[],rfl,hr,fun hd=> ?_⟩
   rw [hd] at hc
   simpa [xd] using hc
 | o::l,n,dj,env,hr,mT=>by
  simp only [kH] at hr
  cases hw:oK S ops o env.tm with
  | none=>rw [hw] at hr; cases hr
  | some b=>
   rw [hw] at hr
   cases b with
   | false=>
    obtain ⟨es,h1,h2,h3⟩:=Cz l (n+1) _ _ hr mT
    exact ⟨⟨o.dst, .skip,[],none⟩::es,⟨_,_,rfl,⟨rfl, .inl ⟨hw,rfl,rfl,rfl⟩⟩,h1⟩,h2,h3⟩
   | true=>
    dsimp only at hr
    cases hdf:AI o.op with
    | true=>rw [hdf,mT] at hr; cases hr
    | false=>
    rw [hdf] at hr
    dsimp only at hr
    cases hn:yc S o.op env.tm with
    | some p=>rw [hn,mT] at hr; cases hr
    | none=>
    rw [hn] at hr
    obtain ⟨V,us,h1,h2,h3⟩:=Ot hr
    rcases Ie h3 with ⟨_,h4⟩ | ⟨t,x,_,ht,hk,h4⟩
    · obtain ⟨es,g1,g2,g3⟩:=Cz l (n+1) _ _ h4 mT
      exact ⟨⟨o.dst,V,us,_⟩::es,⟨_,_,rfl,⟨rfl, .inr ⟨hw,rfl,h2,V,h1, .inl rfl⟩⟩,g1⟩,g2,g3⟩
    · have TH:rz V x:=by
       have e:(env.apply o.dst V us).tm t=V:=by
        rw [ht]
        exact aZ _ _ _
       rw [e] at hk
       exact hk
      have he:({ env.apply o.dst V us with tm:=az (env.apply o.dst V us).tm t (.d .bool x) } :Env S.C)=dO.put ⟨o.dst, .d .bool x,us,some (aM S T.vw (mG cQ n o.dst) o.op env.tm env.bx)⟩ env:=by
       simp only [dO.put,Env.apply,ht,vQ]
       rw [OY]
      rw [he] at h4
      obtain ⟨es,g1,g2,g3⟩:=Cz l (n+1) _ _ h4 mT
      exact ⟨_::es,⟨_,_,rfl,⟨rfl, .inr ⟨hw,rfl,h2,V,h1, .inr ⟨t,x,ht,TH,rfl⟩⟩⟩,g1⟩,g2,g3⟩
theorem tR.at {cQ:Nat} {ops:Array Oper} : ∀ {l:List Oper} {n:Nat} {env:Env S.C} {es:List (dO S)},tR T au cQ ops l n env es→es.length=l.length∧ ∀ j o,l[j]? =some o→
 ∃ e,es[j]? =some e∧Spec T au cQ ops (bZ (fun i=>Nat.blt i (n+j)) es n env) (n+j) o e
 | [],n,env,es,h=>by cases h; exact ⟨rfl,fun j o hj=>by simp at hj⟩
 | o::l,n,env,es,⟨e,r,he,h1,h2⟩=>by
  subst he
  obtain ⟨h3,h4⟩:=tR.at h2
  refine ⟨by simp [h3],fun j o' hj=> ?_⟩
  cases j with
  | zero=>
   simp at hj
   subst hj
   refine ⟨e,rfl, ?_⟩
   rw [JS _ _ _ fun i hi=> ?_]
   · exact h1
   · cases hb:Nat.blt i (n+0) with
     | false=>rfl
     | true=>have :=Nat.le_of_ble_eq_true hb; omega
  | succ j=>
   obtain ⟨e',h5,h6⟩:=h4 j o' (by simpa using hj)
   refine ⟨e',by simpa using h5, ?_⟩
   simp only [bZ]
   rw [show Nat.blt n (n+(j+1))=true from Nat.ble_eq_true_of_le (by omega),cond_true,show n+(j+1)=n+1+j from by omega]
   exact h6
def Du (ops:Array Oper) (eI:Array Nat) (i j:Nat) (fi fj:Option (List Nat×List Nat)):Prop:=
 (eI.getD j 0).testBit i=true∨(Oper.apart ops (ops.getD i default) (ops.getD j default)=true∧ ∀ a b,fi=some a→fj=some b→meets a b=false)
theorem I7 {ops:Array Oper} {eI:Array Nat} : ∀ (es:List (dO S)) (n:Nat) (dj:List (Nat×Option (List Nat×List Nat))),oT ops eI (xd es n dj)=true→
 (∀ i j ei ej,i<j→es[i]? =some ei→es[j]? =some ej→Du ops eI (n+i) (n+j) ei.fp ej.fp)∧(∀ p ∈ dj, ∀ j ej,es[j]? =some ej→Du ops eI p.1 (n+j) p.2 ej.fp)∧oT ops eI dj=true
 | [],n,dj,h=>⟨fun i j ei ej _ h1=>by simp at h1,fun p _ j ej h1=>by simp at h1,h⟩
 | e::es,n,dj,h=>by
  obtain ⟨h1,h2,h3⟩:=I7 es (n+1) ((n,e.fp)::dj) h
  simp only [oT,Bool.and_eq_true] at h3
  have h4: ∀ p ∈ dj,Du ops eI p.1 n p.2 e.fp:=fun p hp=>by
   have :=List.all_eq_true.1 h3.2 p hp
   rw [Bool.or_eq_true,Bool.and_eq_true] at this
   refine this.imp id fun h=>⟨h.1,fun a b ha hb=> ?_⟩
   have h2:=h.2
   rw [ha,hb] at h2
   simpa using h2
  refine ⟨fun i j ei ej hij hi hj=> ?_,fun p hp j ej hj=> ?_,h3.1⟩
  · cases j with
    | zero=>omega
    | succ j=>
     rw [show n+(j+1)=n+1+j from by omega]
     cases i with
     | zero=>
      simp at hi
      subst hi
      exact h2 (n,e.fp) (by simp) j ej (by simpa using hj)
     | succ i=>
      rw [show n+(i+1)=n+1+i from by omega]
      exact h1 i j ei ej (by omega) (by simpa using hi) (by simpa using hj)
  · cases j with
    | zero=>
     simp at hj
     subst hj
     exact h4 p hp
    | succ j=>
     rw [show n+(j+1)=n+1+j from by omega]
     exact h2 p (by simp [hp]) j ej (by simpa using hj)
theorem uY {e:dO S} {env:Env S.C} {t:Nat} (h:e.dst≠some t):(e.put env).tm t=env.tm t:=by
 unfold dO.put Env.apply vQ
 cases hd:e.dst with
 | none=>rfl
 | some d=>exact bA _ _ fun he=>h (by rw [hd,he])
theorem uZ {e:dO S} {env:Env S.C} {t:Nat} (h:e.dst=some t):(e.put env).tm t=e.W:=by
 unfold dO.put Env.apply vQ
 rw [h]
 exact aZ _ _ _
theorem yj {e:dO S} {env:Env S.C} {b:Nat} (h: ∀ u ∈ e.us,u.1≠b):(e.put env).bx b=env.bx b:=v_ _ _ h
theorem JT {D D':Nat→Bool} {t:Nat} : ∀ {es:List (dO S)} {n:Nat} {env env':Env S.C},env.tm t=env'.tm t→(∀ i e,es[i]? =some e→e.dst=some t→D (n+i)=D' (n+i))→(bZ D es n env).tm t=(bZ D' es n env').tm t
 | [],_,_,_,h,_=>h
 | e::es,n,env,env',h,hd=>by
  refine JT (es:=es) (n:=n+1) ?_ fun i e' hi he=>by
   have :=hd (i+1) e' (by simpa using hi) he
   rw [show n+1+i=n+(i+1) from by omega]; exact this
  by_cases he:e.dst=some t
  · have :=hd 0 e rfl he
    rw [Nat.add_zero] at this
    rw [this]
    cases D' n with
    | true=>rw [cond_true,cond_true,uZ he,uZ he]
    | false=>exact h
  · cases D n <;> cases D' n <;> simp only [cond_true,cond_false,uY he] <;> exact h
theorem JR {D D':Nat→Bool} {b:Nat} : ∀ {es:List (dO S)} {n:Nat} {env env':Env S.C},env.bx b=env'.bx b→(∀ i e,es[i]? =some e→(∃ u ∈ e.us,u.1=b)→D (n+i)=D' (n+i))→(bZ D es n env).bx b=(bZ D' es n env').bx b
 | [],_,_,_,h,_=>h
 | e::es,n,env,env',h,hd=>by
  refine JR (es:=es) (n:=n+1) ?_ fun i e' hi he=>by
   have :=hd (i+1) e' (by simpa using hi) he
   rw [show n+1+i=n+(i+1) from by omega]; exact this
  by_cases he: ∃ u ∈ e.us,u.1=b
  · have :=hd 0 e rfl he
    rw [Nat.add_zero] at this
    rw [this]
    cases D' n with
    | true=>exact (ri e.us h.symm).symm
    | false=>exact h
  · have he: ∀ u ∈ e.us,u.1≠b:=fun u hu e'=>he ⟨u,hu,e'⟩
    cases D n <;> cases D' n <;> simp only [cond_true,cond_false,yj he] <;> exact h
theorem Env.ext' {e e':Env S.C} (h1: ∀ t,e.tm t=e'.tm t) (h2: ∀ b,e.bx b=e'.bx b) (h3:e.df=e'.df):e=e':=by
 cases e; cases e'
 congr
 · funext t; exact h1 t
 · funext b; exact h2 b
theorem RP {D:Nat→Bool} {es:List (dO S)} {j:Nat} {ej:dO S} {env:Env S.C} (hj:es[j]? =some ej) (hD:D j=false)
 (xz: ∀ i e,j<i→es[i]? =some e→D i=true→(∀ t,ej.dst=some t→e.dst≠some t)∧ ∀ u ∈ ej.us, ∀ u' ∈ e.us,u'.1≠u.1):
 bZ (az D j true) es 0 env=ej.put (bZ D es 0 env):=by
 have TK: ∀ (es:List (dO S)) (n:Nat) (env:Env S.C),(∀ i e,es[i]? =some e→D (n+i)=true→(∀ t,ej.dst=some t→e.dst≠some t)∧ ∀ u ∈ ej.us, ∀ u' ∈ e.us,u'.1≠u.1)→bZ D es n (ej.put env)=ej.put (bZ D es n env):=by
  intro es
  induction es with
  | nil=>intro n env _; rfl
  | cons e es ih=>
   intro n env h
   simp only [bZ]
   rw [← ih (n+1) _ fun i e' hi hd=>by
    have :=h (i+1) e' (by simpa using hi)
    rw [show n+(i+1)=n+1+i from by omega] at this
    exact this hd]
   congr 1
   cases hn:D n with
   | false=>rfl
   | true=>
    simp only [cond_true]
    obtain ⟨c1,c2⟩:=h 0 e rfl (by rw [Nat.add_zero]; exact hn)
    refine Env.ext' (fun t=> ?_) (fun b=> ?_) rfl
    · by_cases h1:ej.dst=some t
      · rw [uY (c1 t h1),uZ h1,uZ h1]
      · rw [uY h1]
        by_cases h2:e.dst=some t
        · rw [uZ h2,uZ h2]
        · rw [uY h2,uY h2,uY h1]
    · by_cases h1: ∃ u ∈ ej.us,u.1=b
      · obtain ⟨u,hu,rfl⟩:=h1
        have h2: ∀ u' ∈ e.us,u'.1≠u.1:=c2 u hu
        rw [yj h2]
        exact ri ej.us (yj h2).symm
      · have h1: ∀ u ∈ ej.us,u.1≠b:=fun u hu e'=>h1 ⟨u,hu,e'⟩
        rw [yj h1]
        exact ri e.us (yj h1)
 have key: ∀ (es:List (dO S)) (n:Nat) (env:Env S.C),n≤j→es[j - n]? =some ej→(∀ i e,j<n+i→es[i]? =some e→D (n+i)=true→(∀ t,ej.dst=some t→e.dst≠some t)∧ ∀ u ∈ ej.us, ∀ u' ∈ e.us,u'.1≠u.1)→
  bZ (az D j true) es n env=ej.put (bZ D es n env):=by
  intro es
  induction es with
  | nil=>intro n env _ h; simp at h
  | cons e es ih=>
   intro n env hn h hl
   simp only [bZ]
   by_cases e':n=j
   · subst e'
     rw [Nat.sub_self] at h
     simp at h
     subst h
     rw [aZ,hD,cond_true,cond_false]
     rw [← TK es (n+1) env fun i e hi hd=>hl (i+1) e (by omega) (by simpa using hi) (by rw [show n+(i+1)=n+1+i from by omega]; exact hd)]
     have : ∀ (es:List (dO S)) (m:Nat) (env:Env S.C),n<m→bZ (az D n true) es m env=bZ D es m env:=by
      intro es
      induction es with
      | nil=>intro m env _; rfl
      | cons e es ih=>
       intro m env hm
       simp only [bZ]
       rw [bA _ _ (by omega)]
       exact ih (m+1) _ (by omega)
     exact this es (n+1) _ (by omega)
   · rw [bA _ _ e']
     refine ih (n+1) _ (by omega) ?_ fun i e hi he hd=>hl (i+1) e (by omega) (by simpa using he) (by rw [show n+(i+1)=n+1+i from by omega]; exact hd)
     rw [show j - n=(j - (n+1))+1 from by omega] at h
     simpa using h
 exact key es 0 env (Nat.zero_le _) (by simpa using hj) fun i e hi he hd=>xz i e (by omega) he (by simpa using hd)
end
end Go.Sy
namespace Go.Sy
section
variable {P:Program} {S:bf} {au:Nat→Nat} {T:iz S}
variable {w0:World} {M0 s0:St} {dq:List Deferred}
theorem xT {a b:List Nat} (h:xS a b=false) {x:Nat} (h1:x ∈ a) (h2:x ∈ b):False:=by
 have :xS a b=true:=List.any_eq_true.2 ⟨x,h1,List.contains_iff_mem.2 h2⟩
 rw [h] at this; cases this
theorem LS {B:Nat} {fp:List Nat} {bx:Bx S.C} {us:aP S.C} (h:n6 S bx B fp us=true): ∀ u ∈ us,u.1 ∈ fp:=fun u hu=>by
 have :=List.all_eq_true.1 h u hu
 rw [Bool.and_eq_true] at this
 exact List.contains_iff_mem.1 this.1
theorem Vc {B:Nat} {fp:List Nat} {bx aq:Bx S.C} {us:aP S.C} (h:n6 S bx B fp us=true) (hb: ∀ i ∈ fp,aq i=bx i):n6 S aq B fp us=true:=by
 refine List.all_eq_true.2 fun u hu=> ?_
 have h1:=List.all_eq_true.1 h u hu
 rw [hb u.1 (LS h u hu)]
 exact h1
theorem YF {bx aq:Bx S.C} {ids:List Nat} (hb: ∀ i ∈ ids,aq i=bx i):restrict S aq ids=restrict S bx ids:=by
 funext i
 unfold restrict
 cases e:ids.contains i with
 | true=>exact hb i (List.contains_iff_mem.1 e)
 | false=>rfl
theorem YC (hP:bh P S au) (hT: ∀ e ∈ T.es,p_ P S w0 M0 e) (hF: ∀ e ∈ T.fs,gM P S e) {R:Type} {cQ:Nat} {ops:Array Oper} {k:Env S.C→Option R} {r:R} {Z:Act→Prop} {Q:Exit→Act→World→Prop}
 (hZ:zp ops Z) (hQ: ∀ env' a' w' μ',k env'=some r→Inv P S w0 M0 s0 dq env' a' w' μ'→Z a'→Q .normal a' w')
 {dQ:Env S.C} {es:List (dO S)} (T_:tR T au cQ ops ops.toList 0 dQ es) (hk:k (es.foldl (fun env e=>e.put env) dQ)=some r) (hap:oT ops (Region.before ops) (xd es 0 [])=true) (FA:zf ops=true):
 ∀ (fuel:Nat) (listed:Array Bool) (a:Act) (w:World) (μ:Nat→Loc),listed.size=ops.size→wo ops (fun i=>listed.getD i false)→Inv P S w0 M0 s0 dq (bZ (fun i=>listed.getD i false) es 0 dQ) a w μ→Z a→
  cnt (fun i=>listed.getD i false) ops.size≤fuel→wpAny P .any ops Q fuel listed a w:=by
 obtain ⟨hlen,cN⟩:=T_.at
 have hlen:es.length=ops.size:=by rw [hlen]; simp
 have Ll:=(I7 es 0 [] hap).1
 have fU: ∀ (j:Nat) (o:Oper),ops[j]? =some o→ops.getD j default=o:=fun j o h=>by
  rw [Array.getD_eq_getD_getElem?,h]; rfl
 have hspec: ∀ (j:Nat) (o:Oper),ops[j]? =some o→ ∃ e,es[j]? =some e∧Spec T au cQ ops (bZ (fun i=>Nat.blt i j) es 0 dQ) j o e:=fun j o h=>by
  have :=cN j o (by simpa using h)
  simpa using this
 have o5: ∀ (j:Nat) (e:dO S),es[j]? =some e→ ∃ o,ops[j]? =some o∧e.dst=o.dst∧ ∀ u ∈ e.us, ∃ f,e.fp=some f∧u.1 ∈ f.2:=fun j e h=>by
  have hj:j<ops.size:=by rw [← hlen]; exact (List.getElem?_eq_some_iff.1 h).1
  obtain ⟨e',h1,h2,h3⟩:=hspec j ops[j] (by simp [hj])
  rw [h] at h1
  cases h1
  refine ⟨ops[j],by simp [hj],h2,fun u hu=> ?_⟩
  rcases h3 with ⟨_,_,h3,_⟩ | ⟨_,h3,h4,_⟩
  · rw [h3] at hu; simp at hu
  · exact ⟨_,h3,LS h4 u hu⟩
 have FA: ∀ (j:Nat) (o:Oper),ops[j]? =some o→ ∀ e ∈ o.after.toList,Region.binds .any e=true→e.on<j:=fun j o h e he hb=>by
  have h1:=List.all_eq_true.1 FA (o,j) (List.mem_zipIdx_iff_getElem?.2 (by simpa using h))
  have h2:=List.all_eq_true.1 h1 e he
  rw [hb] at h2
  exact Nat.le_of_ble_eq_true h2
 have S_: ∀ (listed:Array Bool),listed.size=ops.size→Region.ready .any ops listed= []→ ∀ i,i<ops.size→listed.getD i false=true:=by
  intro listed hsz hr i
  induction i using Nat.strongRecOn with
  | _ i ih=>
   intro hi
   cases hd:listed.getD i false with
   | true=>rfl
   | false=>
    exfalso
    have :i ∈ Region.ready .any ops listed:=by
     unfold Region.ready
     refine List.mem_filter.2 ⟨List.mem_range.2 hi, ?_⟩
     have h1:listed.getD i true=false:=by
      rw [Array.getD_eq_getD_getElem?] at hd ⊢
      have hi':i<listed.size:=by omega
      simp [hi'] at hd ⊢
      exact hd
     rw [h1]
     simp only [Bool.not_false,Bool.true_and]
     rw [show ops[i]? =some ops[i] from by simp [hi]]
     simp only [Option.map_some,Option.getD_some]
     rw [← Array.all_toList]
     refine List.all_eq_true.2 fun e he=> ?_
     cases hb:Region.binds .any e with
     | false=>rfl
     | true=>
      have hlt:=FA i ops[i] (by simp [hi]) e he hb
      rw [ih e.on hlt (by omega)]
      rfl
    rw [hr] at this
    simp at this
 have KT: ∀ (listed:Array Bool) (a:Act) (w:World) (μ:Nat→Loc),Inv P S w0 M0 s0 dq (bZ (fun i=>listed.getD i false) es 0 dQ) a w μ→Z a→(∀ i,i<ops.size→listed.getD i false=true)→Q .normal a w:=by
  intro listed a w μ hI hN hall
  rw [RO es 0 dQ fun i _ h2=>hall i (by omega)] at hI
  exact hQ _ a w μ hk hI hN
 intro fuel
 induction fuel with
 | zero=>
  intro listed a w μ hsz hcl hI hN hc
  have hall:=Jx (Nat.le_zero.1 hc)
  refine ⟨?_,KT listed a w μ hI hN hall⟩
  cases hr:Region.ready .any ops listed with
  | nil=>rfl
  | cons i r=>
   have hm:i ∈ Region.ready .any ops listed:=by rw [hr]; simp
   unfold Region.ready at hm
   obtain ⟨h1,h2⟩:=List.mem_filter.1 hm
   have hi:=List.mem_range.1 h1
   have :=hall i hi
   rw [Bool.and_eq_true] at h2
   rw [Array.getD_eq_getD_getElem?] at this h2
   have hi':i<listed.size:=by omega
   simp [hi'] at this h2
   rw [this] at h2
   simp at h2
 | succ fuel ih=>
  intro listed a w μ hsz hcl hI hN hc
  refine ⟨fun hr=>KT listed a w μ hI hN (S_ listed hsz hr),fun i hi=> ?_⟩
  unfold Region.ready at hi
  obtain ⟨h1,h2⟩:=List.mem_filter.1 hi
  have hi:=List.mem_range.1 h1
  have hi':i<listed.size:=by omega
  rw [Bool.and_eq_true] at h2
  obtain ⟨h2,h3⟩:=h2
  have hD:listed.getD i false=false:=by
   rw [Array.getD_eq_getD_getElem?] at h2 ⊢
   simp [hi'] at h2 ⊢
   exact h2
  have ho:ops[i]? =some ops[i]:=by simp [hi]
  generalize ops[i]=o at ho
  rw [ho] at h3
  simp only [Option.map_some,Option.getD_some] at h3
  rw [← Array.all_toList] at h3
  have KJ: ∀ e ∈ o.after.toList,Region.binds .any e=true→listed.getD e.on false=true:=fun e he hb=>by
   have :=List.all_eq_true.1 h3 e he
   rw [hb] at this
   exact this
  have hlt: ∀ j,listed.getD j false=true→j<ops.size:=fun j hj=>by
   rcases Nat.lt_or_ge j ops.size with h | h
   · exact h
   · rw [Array.getD_eq_getD_getElem?,Array.getElem?_eq_none (by omega)] at hj; cases hj
  have hmem:o ∈ ops.toList:=by
   have :=Array.mem_of_getElem? ho
   simpa using this
  obtain ⟨ei,Av,Au,hsi⟩:=hspec i o ho
  have KX: ∀ q eq,q<i→es[q]? =some eq→((∃ t,eq.dst=some t∧t ∈ o.looksAt ops)∨ ∃ f fi,ei.fp=some fi∧eq.fp=some f∧ ∃ b,b ∈ f.2∧(b ∈ fi.1∨b ∈ fi.2))→listed.getD q false=true:=by
   intro q eq hq heq hh
   obtain ⟨oq,g1,g2,_⟩:=o5 q eq heq
   have hp:=Ll q i eq ei hq heq Av
   rw [Nat.zero_add,Nat.zero_add] at hp
   rcases hp with hp | ⟨sH,kQ⟩
   · exact Xh hcl hlt ho KJ hp
   · exfalso
     rw [fU q oq g1,fU i o ho] at sH
     rcases hh with ⟨t,t1,t2⟩ | ⟨f,fi,f1,f2,b,b1,b2⟩
     · exact (Oper.apart_spec sH).1 t (g2▸t1) t2
     · have hm:=kQ f fi f2 f1
       unfold meets at hm
       simp only [Bool.or_eq_false_iff] at hm
       rcases b2 with b2 | b2
       · exact xT hm.1.1 b1 b2
       · exact xT hm.1.2 b1 b2
  have xz: ∀ q eq,i<q→es[q]? =some eq→listed.getD q false=true→Oper.apart ops o (ops.getD q default)=true∧ops.getD q default ∈ ops.toList∧eq.dst=(ops.getD q default).dst∧ ∀ f fi,ei.fp=some fi→eq.fp=some f→meets fi f=false:=by
   intro q eq hq heq hl
   obtain ⟨oq,g1,g2,_⟩:=o5 q eq heq
   have hp:=Ll i q ei eq hq Av heq
   rw [Nat.zero_add,Nat.zero_add] at hp
   rcases hp with hp | ⟨sH,kQ⟩
   · have :=hcl.before hlt q i hl hp
     rw [hD] at this
     cases this
   · rw [fU i o ho] at sH
     refine ⟨sH, ?_,by rw [fU q oq g1]; exact g2,fun f fi h1 h2=>kQ fi f h1 h2⟩
     rw [fU q oq g1]
     have :=Array.mem_of_getElem? g1
     simpa using this
  have qw: ∀ t,t ∈ o.looksAt ops→(bZ (fun i=>listed.getD i false) es 0 dQ).tm t=(bZ (fun q=>Nat.blt q i) es 0 dQ).tm t:=by
   intro t ht
   refine JT rfl fun q eq heq hd=> ?_
   rw [Nat.zero_add]
   rcases Nat.lt_trichotomy q i with h | h | h
   · rw [KX q eq h heq (.inl ⟨t,hd,ht⟩)]
     exact (Nat.ble_eq_true_of_le h).symm
   · subst h
     rw [hD]
     cases hb:Nat.blt q q with
     | false=>rfl
     | true=>exact absurd (Nat.le_of_ble_eq_true hb) (by omega)
   · have hf:Nat.blt q i=false:=by
      cases hb:Nat.blt q i with
      | false=>rfl
      | true=>exact absurd (Nat.le_of_ble_eq_true hb) (by omega)
     rw [hf]
     cases hl:listed.getD q false with
     | false=>rfl
     | true=>
      obtain ⟨a1,_,a2,_⟩:=xz q eq h heq hl
      exact absurd ht ((Oper.apart_spec a1).2.2 t (a2▸hd))
  have mS: ∀ fi,ei.fp=some fi→ ∀ b,(b ∈ fi.1∨b ∈ fi.2)→(bZ (fun i=>listed.getD i false) es 0 dQ).bx b=(bZ (fun q=>Nat.blt q i) es 0 dQ).bx b:=by
   intro fi K0 b hb
   refine JR rfl fun q eq heq hd=> ?_
   rw [Nat.zero_add]
   obtain ⟨u,hu,rfl⟩:=hd
   obtain ⟨_,_,_,E9⟩:=o5 q eq heq
   obtain ⟨f,uA,sE⟩:=E9 u hu
   rcases Nat.lt_trichotomy q i with h | h | h
   · rw [KX q eq h heq (.inr ⟨f,fi,K0,uA,u.1,sE,hb⟩)]
     exact (Nat.ble_eq_true_of_le h).symm
   · subst h
     rw [hD]
     cases hb:Nat.blt q q with
     | false=>rfl
     | true=>exact absurd (Nat.le_of_ble_eq_true hb) (by omega)
   · have hf:Nat.blt q i=false:=by
      cases hb:Nat.blt q i with
      | false=>rfl
      | true=>exact absurd (Nat.le_of_ble_eq_true hb) (by omega)
     rw [hf]
     cases hl:listed.getD q false with
     | false=>rfl
     | true=>
      exfalso
      obtain ⟨_,_,_,a3⟩:=xz q eq h heq hl
      have hm:=a3 f fi K0 uA
      unfold meets at hm
      simp only [Bool.or_eq_false_iff] at hm
      rcases hb with hb | hb
      · exact xT hm.2 sE hb
      · exact xT hm.1.2 hb sE
  have hev: ∀ x ∈ o.op.operands.toList,aX S (bZ (fun i=>listed.getD i false) es 0 dQ).tm x=aX S (bZ (fun q=>Nat.blt q i) es 0 dQ).tm x:=by
   intro x hx
   cases x with
   | tmp t=>exact congrArg some (qw t (List.mem_append.2 (.inl (List.mem_filterMap.2 ⟨.tmp t,hx,rfl⟩))))
   | _=>rfl
  have Lt:oK S ops o (bZ (fun i=>listed.getD i false) es 0 dQ).tm=oK S ops o (bZ (fun q=>Nat.blt q i) es 0 dQ).tm:=by
   unfold oK
   split
   · rfl
   · rename_i j want hg
     split
     · rfl
     · rename_i t ht
       rw [qw t (List.mem_append.2 (.inr (by rw [hg]; simp [ht])))]
  have EM:(fun q=>(listed.setIfInBounds i true).getD q false)=az (fun q=>listed.getD q false) i true:=by
   funext q
   by_cases e:q=i
   · subst e
     rw [aZ]
     simp [Array.getD_eq_getD_getElem?,hi']
   · rw [bA _ _ e]
     simp [Array.getD_eq_getD_getElem?,Array.getElem?_setIfInBounds_ne (Ne.symm e)]
  have AB:bZ (fun q=>(listed.setIfInBounds i true).getD q false) es 0 dQ=ei.put (bZ (fun i=>listed.getD i false) es 0 dQ):=by
   rw [EM]
   refine RP Av hD fun q eq hq heq hl=> ?_
   obtain ⟨a1,_,a2,a3⟩:=xz q eq hq heq hl
   refine ⟨fun t ht=> ?_,fun u hu u' aW e=> ?_⟩
   · rw [a2]
     exact (Oper.apart_spec a1).2.1 t (Au▸ht)
   · obtain ⟨_,_,_,E9⟩:=o5 q eq heq
     obtain ⟨_,_,_,TA⟩:=o5 i ei Av
     obtain ⟨f,uA,sE⟩:=E9 u' aW
     obtain ⟨fi,hi1,hi2⟩:=TA u hu
     have hm:=a3 f fi hi1 uA
     unfold meets at hm
     simp only [Bool.or_eq_false_iff] at hm
     exact xT hm.1.2 hi2 (e▸sE)
  have KP:wo ops (fun q=>(listed.setIfInBounds i true).getD q false):=by
   rw [EM]
   intro j oj hj Fj e he hb
   by_cases e1:e.on=i
   · rw [e1,aZ]
   · rw [bA _ _ e1]
     by_cases e2:j=i
     · subst e2
       rw [ho] at Fj
       cases Fj
       exact KJ e he hb
     · rw [bA _ _ e2] at hj
       exact hcl j oj hj Fj e he hb
  have iH:cnt (fun q=>(listed.setIfInBounds i true).getD q false) ops.size≤fuel:=by
   rw [EM]
   have :=Jw (D:=fun q=>listed.getD q false) hD (n:=ops.size) hi
   omega
  have hd: ∀ d,o.dst=some d→d<a.tmps.size:=hZ.dst a hN o hmem
  unfold wpOp
  rw [ho]
  dsimp only
  rcases hsi with ⟨s1,s2,s3,s4⟩ | ⟨s1,s2,s3,V,s4,s5⟩
  · rw [Ir hI (Lt.trans s1),if_neg (by simp)]
    refine ih _ _ w μ (by simp [hsz]) KP ?_ (hZ.put a hN o hmem undef a.defers) iH
    rw [AB]
    have :ei.put (bZ (fun i=>listed.getD i false) es 0 dQ)=(bZ (fun i=>listed.getD i false) es 0 dQ).apply o.dst .skip []:=by
     unfold dO.put
     rw [s2,s3,Au]
    rw [this]
    exact hI.skip hd
  · rw [Ir hI (Lt.trans s1),if_pos rfl]
    left
    have hft:=Ss (B:=mG cQ i o.dst) hev fun b hb=>mS _ s2 b (.inl hb)
    have hlf:(cO S T au (mG cQ i o.dst) o.op o.type (bZ (fun i=>listed.getD i false) es 0 dQ).tm (restrict S (bZ (fun i=>listed.getD i false) es 0 dQ).bx (aM S T.vw (mG cQ i o.dst) o.op (bZ (fun i=>listed.getD i false) es 0 dQ).tm (bZ (fun i=>listed.getD i false) es 0 dQ).bx).1)).leaf (V,ei.us):=by
     rw [hft,YF fun b hb=>mS _ s2 b (.inl hb),V9 hev]
     exact s4
    refine Mh hP hT hF hI hd hlf (by rw [hft]; exact Vc s3 fun b hb=>mS _ s2 b (.inr hb)) fun a' w' μ' Ak ⟨v,d,hs⟩=> ?_
    refine ih _ a' w' μ' (by simp [hsz]) KP ?_ (hs▸hZ.put a hN o hmem v d) iH
    rw [AB]
    rcases s5 with s5 | ⟨t,x,t1,t2,t3⟩
    · have :ei.put (bZ (fun i=>listed.getD i false) es 0 dQ)=(bZ (fun i=>listed.getD i false) es 0 dQ).apply o.dst V ei.us:=by
       unfold dO.put
       rw [s5,Au]
      rw [this]
      exact Ak
    · have hkn:rz (((bZ (fun i=>listed.getD i false) es 0 dQ).apply o.dst V ei.us).tm t) x:=by
       have e:((bZ (fun i=>listed.getD i false) es 0 dQ).apply o.dst V ei.us).tm t=V:=by
        rw [t1]; exact aZ _ _ _
       rw [e]; exact t2
      have h4:=Ak.HM hkn
      have he:({ (bZ (fun i=>listed.getD i false) es 0 dQ).apply o.dst V ei.us with tm:=az ((bZ (fun i=>listed.getD i false) es 0 dQ).apply o.dst V ei.us).tm t (.d .bool x) } :Env S.C)=ei.put (bZ (fun i=>listed.getD i false) es 0 dQ):=by
       unfold dO.put
       rw [Au,t1,t3]
       simp only [Env.apply,vQ]
       rw [OY]
      rw [← he]
      exact h4
end
end Go.Sy
