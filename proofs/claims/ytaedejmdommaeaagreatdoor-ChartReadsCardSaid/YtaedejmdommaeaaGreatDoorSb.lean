import Derived.Laws.MakeOwn
import Derived.Great.BuildSlice
import Derived.Deep.Upon
import Derived.Laws.StructEq
import Derived.Stop.IfaceNil
import Derived.Laws.Entries
import Derived.Orders
import Derived.Test.YtaedejmdommaeaaGreatDoorSa
set_option linter.unusedVariables false
set_option linter.unusedSimpArgs false
namespace Go.Sy
section
variable {P:Program} {S:bg} {au:Nat→Nat}
variable {w0:World} {M0 s0:St} {dq:List Deferred} {env:Env S.C} {a:Act} {w:World} {μ:Nat→Loc} {K:Act→World→Prop} {Q:Exit→Act→World→Prop} {o:Oper} {V:V S.C} {us:aR S.C}
theorem n4 {α β:Type} {f:α→Option β} {x:α} {r:List α} {ys:List β} (h:(x::r).mapM f=some ys): ∃ y zs,f x=some y∧r.mapM f=some zs∧ys=y::zs:=by
 rw [List.mapM_cons] at h
 cases hx:f x with
 | none=>rw [hx] at h; cases h
 | some y=>
  rw [hx] at h
  cases hr:r.mapM f with
  | none=>rw [hr] at h; cases h
  | some zs=>rw [hr] at h; cases h; exact ⟨y,zs,rfl,rfl,rfl⟩
def Aw (P:Program) (S:bg) (w:World) (s:St) (μ:Nat→Loc) (bx:Bx S.C):List (Nat×Sy.V S.C)→List (Nat×Value)→Prop
 | [],qs=>qs= []
 | p::ps,qs=> ∃ v r,qs=(p.1,v)::r∧RV P S w s μ bx p.2 v∧Aw P S w s μ bx ps r
theorem GO (h:Inv P S w0 M0 s0 dq env a w μ): ∀ {parts:List (Nat×Operand)} {ps:List (Nat×Sy.V S.C)},parts.mapM (fun (p:Nat×Operand)=>(aX S env.tm p.2).map fun v=>(p.1,v))=some ps→
 Aw P S w (aO S w0 M0 s0 env.bx μ w) μ env.bx ps (parts.map fun (i,x)=>(i,a.eval x))∧ ∀ p ∈ ps, ∃ x i,(i,x) ∈ parts∧aX S env.tm x=some p.2
 | [],ps,hp=>by cases hp; exact ⟨rfl,by simp⟩
 | (i,x)::r,ps,hp=>by
  obtain ⟨y,zs,h1,h2,rfl⟩:=n4 hp
  obtain ⟨h3,h4⟩:=GO h h2
  cases hx:aX S env.tm x with
  | none=>rw [hx] at h1; cases h1
  | some v=>
   rw [hx] at h1
   cases h1
   refine ⟨⟨a.eval x,_,rfl,(bD h hx).1,h3⟩,fun p hp=> ?_⟩
   rcases List.mem_cons.1 hp with rfl | hp
   · exact ⟨x,i,by simp,hx⟩
   · obtain ⟨x',i',h5,h6⟩:=h4 p hp
     exact ⟨x',i',by simp [h5],h6⟩
theorem AG (h:Inv P S w0 M0 s0 dq env a w μ): ∀ {xs:List Operand} {vs:List (Sy.V S.C)},xs.mapM (aX S env.tm)=some vs→
 fT P S w (aO S w0 M0 s0 env.bx μ w) μ env.bx vs (xs.map a.eval)∧ ∀ v ∈ vs, ∃ x ∈ xs,aX S env.tm x=some v
 | [],vs,hp=>by cases hp; exact ⟨rfl,by simp⟩
 | x::r,ps,hp=>by
  obtain ⟨y,zs,h1,h2,rfl⟩:=n4 hp
  obtain ⟨h3,h4⟩:=AG h h2
  refine ⟨⟨a.eval x,_,rfl,(bD h h1).1,h3⟩,fun p hp=> ?_⟩
  rcases List.mem_cons.1 hp with rfl | hp
  · exact ⟨x,by simp,h1⟩
  · obtain ⟨x',h5,h6⟩:=h4 p hp
    exact ⟨x',by simp [h5],h6⟩
theorem KQ (off:Nat): ∀ (l:List Value) (k:Nat) (cells:Array Value),off+k+l.length≤cells.size→
 ((l.zipIdx k).foldl (fun cs p=>cs.setIfInBounds (off+p.2) p.1) cells).toList=cells.toList.take (off+k)++l++cells.toList.drop (off+k+l.length)
 | [],k,cells,h=>by simp
 | v::l,k,cells,h=>by
  simp only [List.zipIdx_cons,List.foldl_cons]
  simp only [List.length_cons] at h
  rw [KQ off l (k+1) _ (by simp; omega)]
  have hc:(cells.setIfInBounds (off+k) v).toList=cells.toList.set (off+k) v:=by simp
  have hlen:cells.toList.length=cells.size:=by simp
  rw [hc,show off+(k+1)=off+k+1 from rfl,List.drop_set_of_lt (by omega)]
  have ht:(cells.toList.set (off+k) v).take (off+k+1)=cells.toList.take (off+k)++ [v]:=by
   rw [List.take_add_one,List.take_set_of_le (Nat.le_refl _),List.getElem?_set_self (by omega)]
   rfl
  rw [ht,List.length_cons]
  simp [show off+k+1+l.length=off+k+(l.length+1) from by omega]
theorem KN (place:Nat→Option (Nat×Nat)) {i off size:Nat} (hp:place i=some (off,size)) {v:Value} (hv:v.cells.size=size) {cells:Array Value} (hle:off+size≤cells.size) (rest:List (Nat×Value)):
 ∃ cells',cells'.toList=cells.toList.take off++v.cells.toList++cells.toList.drop (off+v.cells.toList.length)∧Instr.fill place cells ((i,v)::rest)=Instr.fill place cells' rest:=by
 refine ⟨v.cells.zipIdx.foldl (fun cs (c,j)=>cs.setIfInBounds (off+j) c) cells, ?_, ?_⟩
 · have :=KQ off v.cells.toList 0 cells (by simp; omega)
   simp only [Nat.add_zero] at this
   rw [← this]
   congr 1
   rw [← Array.foldl_toList]
   simp
 · simp only [Instr.fill,hp]
   rw [if_neg]
   simp only [hv]
   simp
   omega
theorem KJ (hS:dm S) {s:St} {bx:Bx S.C} {u:Nat} {place:Nat→Option (Nat×Nat)} (hp: ∀ f o T,S.fe u f=some (o,T)→place f=some (o,Ty.sz S T)):
 ∀ {ps:List (Nat×Sy.V S.C)} {qs:List (Nat×Value)} {vs vs':List (Sy.V S.C)} {cells:Array Value},Aw P S w s μ bx ps qs→aQ P S w s μ bx vs cells.toList→vs.all (bS S)=true→yz S u vs ps=some vs'→
 ∃ cells',Instr.fill place cells qs=some cells'∧aQ P S w s μ bx vs' cells'.toList∧vs'.all (bS S)=true∧vs'.length=vs.length∧ ∀ v ∈ vs',v ∈ vs∨ ∃ p ∈ ps, ∀ j ∈ aG S v,j ∈ aI S p.2
 | [],qs,vs,vs',cells,h1,h2,h3,h4=>by
  cases h1; cases h4
  exact ⟨cells,rfl,h2,h3,rfl,fun v hv=> .inl hv⟩
 | (i,W)::ps,qs,vs,vs',cells,⟨v,r,hq,hv,hr⟩,h2,h3,h4=>by
  subst hq
  simp only [yz] at h4
  split at h4
  · rename_i off T hf
    cases hc:fits S (cellsOf S W) (Ty.sz S T)&&Nat.ble (off+Ty.sz S T) vs.length with
    | false=>rw [hc] at h4; cases h4
    | true=>
     rw [hc,cond_true] at h4
     rw [Bool.and_eq_true] at hc
     obtain ⟨f1,f2⟩:=E7 hc.1
     have f3:=Nat.le_of_ble_eq_true hc.2
     obtain ⟨c1,c2⟩:=Em hS f2 hv
     have l1:=aQ.length P S c1
     have l2:=aQ.length P S h2
     obtain ⟨cells',e1,e2⟩:=KN place (hp _ _ _ hf) (v:=v) (cells:=cells) (by rw [← f1, ← l1]; simp) (by rw [← l2] at f3; simpa using f3) r
     obtain ⟨El,g1,g2,g3,g4,g5⟩:=KJ hS hp (cells:=cells') hr (by rw [e1]; exact HZ h2 c1) (OM h3 f2) h4
     refine ⟨El,by rw [e2]; exact g1,g2,g3,by rw [g4,ON (by omega)],fun v hv=> ?_⟩
     rcases g5 v hv with hv | ⟨p,hp,hv⟩
     · rcases OO hv with hv | hv
       · exact .inl hv
       · exact .inr ⟨(i,W),by simp,c2 v hv⟩
     · exact .inr ⟨p,by simp [hp],hv⟩
  · cases h4
theorem RZ (hP:bf P S au) (h:Inv P S w0 M0 s0 dq env a w μ) (hd: ∀ d,o.dst=some d→d<a.tmps.size) {t:TypeId} {parts:Array (Nat×Operand)} (ho:o.op= .build t parts)
 (hl:(match S.ty t with
  | some (.st u)=>match parts.toList.mapM (fun (p:Nat×Operand)=>(aX S env.tm p.2).map fun v=>(p.1,v)) with
   | some ps=>match yz S u (zeroCells S (.st u)) ps with
    | some vs=>aL S (.agg u vs) []
    | none=> .fail
   | none=> .fail
  | _=> .fail).leaf (V,us)) (hK:Goal P S w0 M0 s0 dq env a o.dst V us K):o.wp P a w K Q:=by
 split at hl
 · rename_i u ht
   split at hl
   · rename_i ps hps
     split at hl
     · rename_i vs hvs
       obtain ⟨rfl,rfl⟩:=bF hl
       obtain ⟨p1,p2⟩:=GO h hps
       obtain ⟨⟨i,z,h1,h2,h3,h4,h5⟩,⟨hzz,UG⟩,BA⟩:=hP.ty t _ ht
       obtain ⟨b0,hb0⟩:=Option.isSome_iff_exists.1 UG
       obtain ⟨z1,z2,z3⟩:=P1 (P:=P) (w:=w) (μ:=μ) hP.todm (s:=aO S w0 M0 s0 env.bx μ w) (bx:=env.bx) (.st u)
       have UH: ∃ place:Nat→Option (Nat×Nat),(∀ qs,P.built t qs=Instr.fill place z.cells qs)∧ ∀ f o T,S.fe u f=some (o,T)→place f=some (o,Ty.sz S T):=by
        cases har:S.ar t with
        | some p=>
         rw [har] at BA
         obtain ⟨te,hu,hte,_,hfl⟩:=BA
         obtain ⟨⟨ie,ze,e1,e2,_⟩,_⟩:=hP.ty te _ hte
         refine ⟨fun i=>some (i*ie.size,ie.size),fun qs=> ?_,fun f o' T hf=> ?_⟩
         · unfold Program.built
           simp only [h1,hu,h3,e1]
         · obtain ⟨rfl,rfl,_⟩:=hfl f o' T hf
           simp [e2]
        | none=>
        rw [har] at BA
        obtain ⟨fs,hu,pH⟩:=BA
        unfold Program.built at hb0
        simp only [h1,hu,h3] at hb0
        cases hpl:fs.toList.mapM (fun f=>(P.info? f.type).map fun i=>(f.offset,i.size)) with
        | none=>rw [hpl] at hb0; cases hb0
        | some places=>
         refine ⟨(places.toArray[·]?),fun qs=> ?_,fun f o' T hf=> ?_⟩
         · unfold Program.built
           simp only [h1,hu,h3,hpl]
         · obtain ⟨fd,d1,d2,d3,d4,d5⟩:=pH f o' T hf
           obtain ⟨⟨i',z',e1,e2,_⟩,_⟩:=hP.ty _ _ d3
           have jw: ∀ (l:List Field) (ys:List (Nat×Nat)) (k:Nat) (fd:Field),l.mapM (fun f=>(P.info? f.type).map fun i=>(f.offset,i.size))=some ys→l[k]? =some fd→ ∃ y,ys[k]? =some y∧(P.info? fd.type).map (fun i=>(fd.offset,i.size))=some y:=by
            intro l
            induction l with
            | nil=>intro ys k fd _ hk; simp at hk
            | cons x l ih=>
             intro ys k fd hys hk
             obtain ⟨y,zs,q1,q2,rfl⟩:=n4 hys
             cases k with
             | zero=>simp at hk; subst hk; exact ⟨y,by simp,q1⟩
             | succ k=>
              obtain ⟨y',q3,q4⟩:=ih zs k fd q2 (by simpa using hk)
              exact ⟨y',by simpa using q3,q4⟩
           obtain ⟨y,q1,q2⟩:=jw fs.toList places f fd hpl (by simpa using d1)
           rw [e1] at q2
           simp at q2
           simp [q1, ← q2,d2,e2]
       obtain ⟨place,g1,g2⟩:=UH
       obtain ⟨cells',k1,k2,k3,k4,k5⟩:=KJ hP.todm g2 (cells:=z.cells) p1 (by rw [h5]; exact z1) z2 hvs
       refine wp_pure (V:= .agg u vs) h (v:= .agg cells') ?_ hd ⟨cells',rfl, ?_,k3,k2⟩ (fun j hj=> ?_) hK
       · unfold execOp
         simp only [ho]
         have :=run_build (P:=P) w t (parts.map fun (i,x)=>(i,a.eval x)) cells' (by rw [g1,Array.toList_map]; exact k1)
         simp [this]
       · rw [k4]; simp [zeroCells]
       · simp only [aI,List.mem_flatMap] at hj
         obtain ⟨v,hv,hj⟩:=hj
         rcases k5 v hv with hv | ⟨p,hp,hv⟩
         · rw [z3 v hv] at hj; simp at hj
         · obtain ⟨x,i',_,hx⟩:=p2 p hp
           exact (bD h hx).2 j (hv j hj)
     · exact hl.elim
   · exact hl.elim
 · exact hl.elim
end
end Go.Sy
namespace Go.Sy
section
variable {P:Program} {S:bg} {au:Nat→Nat}
variable {w0:World} {M0 s0:St} {dq:List Deferred} {env:Env S.C} {a:Act} {w:World} {μ:Nat→Loc} {K:Act→World→Prop} {Q:Exit→Act→World→Prop} {o:Oper} {V:V S.C} {us:aR S.C}
def dj (bx:Bx S.C) (us:aR S.C):Prop:= ∀ u ∈ us, ∃ e l,u.2= .bM e l∧bx u.1=some (.arr e l)
theorem dj.append {bx:Bx S.C} {us vs:aR S.C} (h1:dj bx us) (h2:dj bx vs):dj bx (us++vs):=fun u hu=>(List.mem_append.1 hu).elim (h1 u) (h2 u)
theorem dj.at {bx:Bx S.C} : ∀ {us:aR S.C} (aq:Bx S.C),dj bx us→ ∀ i,(aD aq us i=aq i∧ ∀ u ∈ us,u.1≠i)∨((∃ u ∈ us,u.1=i)∧ ∃ e l,bx i=some (.arr e l)∧aD aq us i=some (.bM e l))
 | [],aq,_,i=> .inl ⟨rfl,by simp⟩
 | u::us,aq,h,i=>by
  rcases dj.at (us:=us) (aC aq u.1 (some u.2)) (fun v hv=>h v (by simp [hv])) i with ⟨h1,h2⟩ | ⟨⟨v,hv,h1⟩,h2⟩
  · by_cases e:u.1=i
    · right
      refine ⟨⟨u,by simp,e⟩, ?_⟩
      obtain ⟨e',l,h3,h4⟩:=h u (by simp)
      refine ⟨e',l,e▸h4, ?_⟩
      show aD (aC aq u.1 (some u.2)) us i=_
      rw [h1, ← e,aY,h3]
    · left
      refine ⟨?_,fun v hv=> ?_⟩
      · show aD (aC aq u.1 (some u.2)) us i=_
        rw [h1,br _ _ (Ne.symm e)]
      · rcases List.mem_cons.1 hv with rfl | hv
        · exact e
        · exact h2 v hv
  · exact .inr ⟨⟨v,by simp [hv],h1⟩,h2⟩
theorem dj.tk {bx:Bx S.C} {us US:aR S.C} (h:dj bx US) (hs: ∀ u ∈ us,u ∈ US):Tk S (aD bx us) (aD bx US):=by
 intro i
 have h0:dj bx us:=fun u hu=>h u (hs u hu)
 rcases dj.at bx h i with ⟨h1,h2⟩ | ⟨_,e,l,h1,h2⟩
 · rcases dj.at bx h0 i with ⟨h3,_⟩ | ⟨⟨u,hu,h3⟩,_⟩
   · exact .inl (h1.trans h3.symm)
   · exact absurd h3 (h2 u (hs u hu))
 · rcases dj.at bx h0 i with ⟨h3,_⟩ | ⟨_,e',l',h3,h4⟩
   · exact .inr (.inr ⟨e,l,h3.trans h1,h2⟩)
   · rw [h1] at h3; cases h3
     exact .inl (h2.trans h4.symm)
theorem dj.qu {bx:Bx S.C} {US:aR S.C} (h:dj bx US):Tk S bx (aD bx US):=dj.tk (us:= []) h (by simp)
theorem dj.cY (bx:Bx S.C) (V:Sy.V S.C):dj bx (cY S bx V):=by
 cases V with
 | aS b=>
  unfold Sy.cY
  dsimp only
  split
  · rename_i e l hb
    intro u hu
    simp at hu
    subst hu
    exact ⟨e,l,rfl,hb⟩
  · intro u hu; simp at hu
 | _=>intro u hu; simp [Sy.cY] at hu
theorem dj.dH (bx:Bx S.C) (V:Sy.V S.C):dj bx (dH S bx V):=by
 cases V with
 | agg u vs=>
  intro x hx
  simp only [Sy.dH,List.mem_flatMap] at hx
  obtain ⟨v,_,hx⟩:=hx
  exact dj.cY bx v x hx
 | aS b=>exact dj.cY bx (.aS b)
 | _=>intro u hu; simp [Sy.dH,Sy.cY] at hu
theorem Dq {aq:Bx S.C} (hk:Tk S env.bx aq):bX w (cA S w0 M0 s0 env.bx aq μ w) w (aO S w0 M0 s0 aq μ w):=fun b o ⟨q1,q2,q3⟩=>
 ⟨⟨q1,q2,fun j hj=>by
  rcases q3 j ((eI S (hk.eo hj)).1 hj) with ⟨_,_,hq⟩ | hq
  · unfold live at hj; rw [hq] at hj; exact hj.elim
  · exact hq⟩,rfl⟩
def dy (w:World) (s:St) (e:Ty) (l:List (e.den S.C)) (cs:List Value):Prop:=
 cs.length=l.length*Ty.sz S e∧ ∀ i x,l[i]? =some x→ ∃ n,aM S w s n e x ((cs.drop (i*Ty.sz S e)).take (Ty.sz S e))
theorem dy.nil {s:St} {e:Ty} :dy w s e ([]:List (e.den S.C)) []:=⟨by simp,fun i x h=>by simp at h⟩
theorem dy.later {w':World} {s s':St} (hl:bX w s w' s') {e:Ty} {l:List (e.den S.C)} {cs:List Value} (h:dy w s e l cs):dy w' s' e l cs:=
 ⟨h.1,fun i x hi=>(h.2 i x hi).imp fun _ hr=>hr.mono S hl (Nat.le_refl _)⟩
theorem dy.append {s:St} {e:Ty} {l l':List (e.den S.C)} {cs cs':List Value} (h:dy w s e l cs) (h':dy w s e l' cs'):dy w s e (l++l') (cs++cs'):=by
 refine ⟨by simp [h.1,h'.1,Nat.add_mul],fun i x hi=> ?_⟩
 by_cases hlt:i<l.length
 · rw [List.getElem?_append_left hlt] at hi
   obtain ⟨n,hn⟩:=h.2 i x hi
   refine ⟨n, ?_⟩
   have :(i+1)*Ty.sz S e≤l.length*Ty.sz S e:=Nat.mul_le_mul_right _ (by omega)
   rw [Nat.add_mul,Nat.one_mul, ← h.1] at this
   rw [List.drop_append_of_le_length (by omega),List.take_append_of_le_length (by simp; omega)]
   exact hn
 · rw [List.getElem?_append_right (by omega)] at hi
   obtain ⟨n,hn⟩:=h'.2 _ x hi
   refine ⟨n, ?_⟩
   have h1:i*Ty.sz S e=cs.length+(i - l.length)*Ty.sz S e:=by
    rw [h.1, ← Nat.add_mul]; congr 1; omega
   rw [h1,List.drop_append]
   simp only [List.drop_of_length_le (Nat.le_add_right cs.length _),List.nil_append,Nat.add_sub_cancel_left]
   exact hn
theorem dy.set {s:St} {e:Ty} {l:List (e.den S.C)} {cs:List Value} (h:dy w s e l cs) {i:Nat} (hi:i<l.length) {x:e.den S.C} {n:Nat} {ds:List Value} (hx:aM S w s n e x ds):
 dy w s e (l.set i x) (cs.take (i*Ty.sz S e)++ds++cs.drop (i*Ty.sz S e+ds.length)):=by
 have hd:=hx.length S
 have hle:(i+1)*Ty.sz S e≤l.length*Ty.sz S e:=Nat.mul_le_mul_right _ (by omega)
 rw [Nat.add_mul,Nat.one_mul, ← h.1] at hle
 refine ⟨?_,fun k y hk=> ?_⟩
 · rw [List.length_append,List.length_append,List.length_take,List.length_drop,List.length_set, ← h.1]; omega
 · by_cases ek:i=k
   · subst ek
     rw [List.getElem?_set_self hi] at hk
     cases hk
     refine ⟨n, ?_⟩
     rw [List.append_assoc,List.drop_append_of_le_length (by simp; omega),List.drop_of_length_le (by simp; omega),List.nil_append, ← hd,List.take_left]
     exact hx
   · rw [List.getElem?_set_ne ek] at hk
     have hkl:=(List.getElem?_eq_some_iff.1 hk).1
     obtain ⟨m,hm⟩:=h.2 k y hk
     refine ⟨m, ?_⟩
     rcases Nat.lt_or_gt_of_ne ek with hlt | hlt
     · have hki:(i+1)*Ty.sz S e≤k*Ty.sz S e:=Nat.mul_le_mul_right _ (by omega)
       rw [Nat.add_mul,Nat.one_mul] at hki
       have hpre:(cs.take (i*Ty.sz S e)++ds).length=i*Ty.sz S e+ds.length:=by rw [List.length_append,List.length_take]; omega
       rw [show k*Ty.sz S e=(cs.take (i*Ty.sz S e)++ds).length+(k*Ty.sz S e - (i*Ty.sz S e+ds.length)) from by rw [hpre]; omega,List.drop_append]
       simp only [List.drop_of_length_le (Nat.le_add_right _ _),List.nil_append,Nat.add_sub_cancel_left,List.drop_drop]
       rw [show i*Ty.sz S e+ds.length+(k*Ty.sz S e - (i*Ty.sz S e+ds.length))=k*Ty.sz S e from by omega]
       exact hm
     · have hki:(k+1)*Ty.sz S e≤i*Ty.sz S e:=Nat.mul_le_mul_right _ (by omega)
       rw [Nat.add_mul,Nat.one_mul] at hki
       rw [List.append_assoc,List.drop_append_of_le_length (by simp; omega),List.take_append_of_le_length (by simp; omega),List.drop_take,List.take_take]
       rw [show min (Ty.sz S e) (i*Ty.sz S e - k*Ty.sz S e)=Ty.sz S e from by omega]
       exact hm
theorem dy.replicate {s:St} {e:Ty} {x:e.den S.C} {n:Nat} {z:Array Value} (hx:aM S w s n e x z.toList) (k:Nat):dy w s e (List.replicate k x) (madeCells z (k*Ty.sz S e)).toList:=by
 have hz:=hx.length S
 have hzs:z.size=Ty.sz S e:=by rw [← hz]; simp
 refine ⟨by simp [size_madeCells],fun i y hi=>⟨n, ?_⟩⟩
 have vJ:=(List.getElem?_eq_some_iff.1 hi).1
 rw [List.length_replicate] at vJ
 rw [List.getElem?_replicate,if_pos vJ] at hi
 cases hi
 have :((madeCells z (k*Ty.sz S e)).toList.drop (i*Ty.sz S e)).take (Ty.sz S e)=z.toList:=by
  apply List.ext_getElem?
  intro j
  rw [List.getElem?_take]
  have hrow:(i+1)*Ty.sz S e≤k*Ty.sz S e:=Nat.mul_le_mul_right _ (by omega)
  rw [Nat.add_mul,Nat.one_mul] at hrow
  by_cases hj:j<Ty.sz S e
  · rw [if_pos hj,List.getElem?_drop]
    have hmod:(i*Ty.sz S e+j) % z.size=j:=by
     rw [hzs,Nat.mul_comm,Nat.mul_add_mod,Nat.mod_eq_of_lt hj]
    simp [madeCells]
    rw [List.getElem?_range (by omega)]
    rw [Option.map_some,hmod]
    simp [hzs,hj]
  · rw [if_neg hj,List.getElem?_eq_none (by omega)]
 rw [this]
 exact hx
theorem Om {s:St} {e:Ty} {b:Nat} : ∀ {l:List (e.den S.C)} {o':Nat},(∀ i x,l[i]? =some x→ ∃ ds,ds.length=Ty.sz S e∧w.rangeAt b (o'+i*Ty.sz S e) ds∧ ∃ n,aM S w s n e x ds)→
 ∃ cs,w.rangeAt b o' cs∧dy w s e l cs
 | [],_,_=>⟨[],fun j v h=>by simp at h,dy.nil⟩
 | x::l,o',h=>by
  obtain ⟨ds,d1,d2,n,d3⟩:=h 0 x rfl
  obtain ⟨cs,c1,c2⟩:=Om (s:=s) (l:=l) (o':=o'+Ty.sz S e) fun i y hi=>by
   obtain ⟨ds,d1,d2,d3⟩:=h (i+1) y (by simpa using hi)
   refine ⟨ds,d1, ?_,d3⟩
   rw [Nat.add_mul,Nat.one_mul] at d2
   rw [show o'+Ty.sz S e+i*Ty.sz S e=o'+(i*Ty.sz S e+Ty.sz S e) from by omega]
   exact d2
  simp only [Nat.zero_mul,Nat.add_zero] at d2
  refine ⟨ds++cs,fun j v hj=> ?_,dy.append (l:= [x]) (l':=l) ⟨by simp [d1],fun i y hi=> ?_⟩ c2⟩
  · by_cases hlt:j<ds.length
    · rw [List.getElem?_append_left hlt] at hj; exact d2 j v hj
    · rw [List.getElem?_append_right (by omega)] at hj
      have :=c1 _ v hj
      rw [show o'+Ty.sz S e+(j - ds.length)=o'+j from by omega] at this
      exact this
  · cases i with
    | zero=>simp at hi; subst hi; exact ⟨n,by simpa [← d1] using d3⟩
    | succ i=>simp at hi
theorem dy.row {s:St} {e:Ty} {l:List (e.den S.C)} {cs:List Value} (h:dy w s e l cs) {w':World} {b o':Nat} (hr:w'.rangeAt b o' cs):
 ∀ i x,l[i]? =some x→ ∃ ds,ds.length=Ty.sz S e∧w'.rangeAt b (o'+i*Ty.sz S e) ds∧ ∃ n,aM S w s n e x ds:=fun i x hi=>by
 obtain ⟨n,hn⟩:=h.2 i x hi
 exact ⟨_,hn.length S,G5 hr _ _,n,hn⟩
theorem IA (hP:bf P S au) {t:Nat} {T:Ty} (ht:S.ty t=some T) (s:St): ∃ n,aM S w s n T (Ty.zero S T) (uZ S T):=by
 have z1: ∀ (T:Ty),bA T=false→aM S w s 1 T (Ty.zero S T) [xC T]:=by
  intro T hT
  cases T with
  | int k=>rfl
  | bool=>rfl
  | str=>rfl
  | pt=>rfl
  | sl e=>exact ⟨none,0,rfl,Nat.le_refl _, .inl rfl⟩
  | st u=>simp [bA] at hT
 cases T with
 | st u=>
  obtain ⟨_,⟨hz,_⟩,_⟩:=hP.ty t _ ht
  refine ⟨2, ?_⟩
  show bG S _ (S.F u) (S.ex u (S.z u)) ((S.F u).map xC)
  rw [hz]
  have : ∀ (ts:List Ty),ts.all (fun t=> !bA t)=true→bG S (fun t x cs=>aM S w s 1 t x cs) ts (sK S ts) (ts.map xC):=by
   intro ts
   induction ts with
   | nil=>intro _; rfl
   | cons t ts ih=>
    intro h
    simp only [List.all_cons,Bool.and_eq_true,Bool.not_eq_true'] at h
    refine ⟨_,_,rfl, ?_, ?_⟩
    · rw [show ay.head (sK S (t::ts))=Ty.zero S t from by cases ts <;> rfl]
      exact z1 t h.1
    · rw [show ay.tail (sK S (t::ts))=sK S ts from by cases ts <;> rfl]
      exact ih h.2
  exact this _ (hP.flat u)
 | int k=>exact ⟨1,z1 _ rfl⟩
 | bool=>exact ⟨1,z1 _ rfl⟩
 | str=>exact ⟨1,z1 _ rfl⟩
 | pt=>exact ⟨1,z1 _ rfl⟩
 | sl e=>exact ⟨1,z1 _ rfl⟩
theorem It (h:Inv P S w0 M0 s0 dq env a w μ) (hd: ∀ d,o.dst=some d→d<a.tmps.size) {us:aR S.C} {B:Nat} {e:Ty} {l:List (e.den S.C)} {t:TypeId} {cap:Nat} {cells:Array Value} {cs:List Value}
 (hk:Tk S env.bx (aD env.bx us)) (hB:aD env.bx us B=none) {w1:World} (hw1:w1.heap=w.heap) (FY:w1.os=w.os∧w1.tape=w.tape∧w1.output=w.output)
 (hrun:(execOp a.eval o).run P w= .ok (.value (.slice (some ⟨w.heap.size,0,none⟩) l.length cap)) (w1.alloc (.cells cells t)))
 (hle:l.length≤cap) (hcap:cells.size=cap*Ty.sz S e) (hcs:dy w (aO S w0 M0 s0 (aD env.bx us) μ w) e l cs) (hpre:cs <+: cells.toList)
 (hK:Goal P S w0 M0 s0 dq env a o.dst (.aS B) (us++ [(B, .arr e l)]) K):o.wp P a w K Q:=by
 have h1:=h.tk hk
 have UK:bq w (w1.alloc (.cells cells t)) (fun _ _=>False):=by
  have c1:bq w w1 (fun _ _=>False):=⟨FY.1,FY.2.1,FY.2.2,by rw [hw1]; exact Nat.le_refl _,fun b _ _=>by rw [hw1],fun b o _ _=>cell_of_heap (by rw [hw1]),fun b o _ h=>by rw [cell_of_heap (by rw [hw1]:w1.heap[b]? =w.heap[b]?)]; exact h,fun b o _ _=>Bk (by rw [hw1])⟩
  exact c1.trans (bq.alloc w1 _ (fun _ _=>False)) (fun _ _ h=>h) (fun _ _ _ h=>h)
 have nt:=rD (w:=w1) (cs:=cells) (t:=t)
 rw [hw1] at nt
 have Vp:(w1.alloc (.cells cells t)).rangeAt w.heap.size 0 cs:=fun j v hj=>nt.2 j v (by
  obtain ⟨r,hr⟩:=hpre
  rw [← hr,List.getElem?_append_left (List.getElem?_eq_some_iff.1 hj).1]
  exact hj)
 refine sH (env:= { env with bx:=aD env.bx us }) (i:=B) (B:= .arr e l) (V:= .aS B) (L:=⟨w.heap.size,0,cap*Ty.sz S e,cap,false⟩) h1 hrun hd UK hB (fun b o' hf=>Nat.le_of_eq hf.1.symm)
  (fun hl _ h3=>⟨⟨rfl,(fun h=>by cases h),hle,(by show World.there _ w.heap.size 0 (cap*Ty.sz S e); rw [← hcap]; exact nt.1),fun i x hi=> ?_⟩,⟨⟨_,_,_,rfl⟩,fun e' l' hb=> ?_⟩⟩) (fun vs hvs=>by rcases hvs with hvs | hvs <;> cases hvs) (fun j hj=> .inl (by simpa [aI,aG] using hj)) ?_
 · obtain ⟨ds,d1,d2,n,d3⟩:=hcs.row Vp i x hi
   exact ⟨ds,d1,d2,n,d3.mono S hl (Nat.le_refl _)⟩
 · dsimp only at hb
   rw [aY] at hb
   rcases hb with hb | hb
   · cases hb
     rw [aY]
     exact ⟨_,cap,rfl,rfl,rfl,rfl,(fun h=>by cases h),hle⟩
   · cases hb
 · intro a' w' μ' hI hs
   refine hK a' w' μ' ?_ hs
   have :(env.apply o.dst (.aS B) (us++ [(B, .arr e l)]))=(Env.apply { env with bx:=aD env.bx us } o.dst (.aS B) [(B, .arr e l)]):=by
    simp only [Env.apply,jL]
   rw [this]
   exact hI
theorem WW (hP:bf P S au) (h:Inv P S w0 M0 s0 dq env a w μ) (hd: ∀ d,o.dst=some d→d<a.tmps.size) {B:Nat} {t:TypeId} {x y:Operand} (ho:o.op= .makeSlice t x y)
 (hnew: ∀ u ∈ us,B≤u.1→u.1<B+16→env.bx u.1=none)
 (hl:(match fB S t,aX S env.tm x,aX S env.tm y with
  | some e,some v,some w=>match v.int?,w.int? with
   | some (.i64,n),some (.i64,m)=>Tr.gd [gd (0≤n),gd (n≤m),gd (m*au t≤limit)] (aL S (.aS (B)) [(B, .arr e (List.replicate n.toNat (Ty.zero S e)))])
   | _,_=>Tr.fail
  | _,_,_=>Tr.fail).leaf (V,us)) (hK:Goal P S w0 M0 s0 dq env a o.dst V us K):o.wp P a w K Q:=by
 split at hl
 · rename_i e v u ht hx hy
   split at hl
   · rename_i n m hn hm
     obtain ⟨hg,rfl,rfl⟩:=gq hl
     have g1:0≤n:=hg (gd (0≤n)) (by simp)
     have g2:n≤m:=hg (gd (n≤m)) (by simp)
     have g3:m*au t≤limit:=hg (gd (m*au t≤limit)) (by simp)
     have ht':=o9 ht
     obtain ⟨te,ie,z,hu,hte,hie,hby,gS,_⟩:=hP.sl ht'
     obtain ⟨⟨i,z,h1,h2,h3,h4,h5⟩,_⟩:=hP.ty te _ hte
     rw [hie] at h1
     cases h1
     have e1:=jW (bD h hx).1 hn
     have e2:=jW (bD h hy).1 hm
     have hmn:(m.toNat:Int)=m:=by omega
     have hpos:(au t:Int)≥1:=by omega
     have hml:m≤140737488355328:=by
      have :m*1≤m*(au t:Int):=Int.mul_le_mul_of_nonneg_left hpos (by omega)
      have :limit=140737488355328:=rfl
      omega
     have hrun:=run_make (P:=P) w t te ie z hu hie h3 .i64 .i64 n m g1 g2 (by rw [hby,Int.mul_comm]; have :limit=140737488355328:=rfl; omega) (by omega)
     obtain ⟨q,hq⟩:=IA (w:=w) hP hte (aO S w0 M0 s0 (aD env.bx []) μ w)
     rw [← h5] at hq
     have hB:=hnew _ (List.mem_singleton.2 rfl) (Nat.le_refl _) (by show B<B+16; omega)
     refine It (t:=te) (us:= []) (e:=e) (l:=List.replicate n.toNat (Ty.zero S e)) (cap:=m.toNat) (cells:=madeCells z.cells (m.toNat*ie.size)) (cs:=(madeCells z.cells (n.toNat*Ty.sz S e)).toList) (w1:=w) h hd (Tk.refl S _) hB rfl ⟨rfl,rfl,rfl⟩ ?_ (by simp; omega)
      (by rw [size_madeCells,h2]) (dy.replicate hq _) ?_ hK
     · unfold execOp
       simp only [ho,e1,e2,List.length_replicate]
       simp [hrun]
     · rw [h2]
       simp only [madeCells,Array.toList_map,Array.toList_range]
       have :n.toNat*Ty.sz S e≤m.toNat*Ty.sz S e:=Nat.mul_le_mul_right _ (by omega)
       refine List.IsPrefix.map _ ?_
       exact ⟨(List.range (m.toNat*Ty.sz S e)).drop (n.toNat*Ty.sz S e),by
        conv=>rhs; rw [← List.take_append_drop (n.toNat*Ty.sz S e) (List.range (m.toNat*Ty.sz S e))]
        congr 1
        rw [List.take_range,Nat.min_eq_left this]⟩
   · exact hl.elim
 · exact hl.elim
end
end Go.Sy
namespace Go.Sy
section
variable {P:Program} {S:bg} {au:Nat→Nat}
variable {w0:World} {M0 s0:St} {dq:List Deferred} {env:Env S.C} {a:Act} {w:World} {μ:Nat→Loc} {K:Act→World→Prop} {Q:Exit→Act→World→Prop} {o:Oper} {V:V S.C} {us:aR S.C}
theorem KM {bx aq:Bx S.C} {e:Ty} : ∀ {ps:List (Nat×Sy.V S.C)} {l:List (e.den S.C)},(∀ p ∈ ps, ∀ i ∈ aI S p.2,aq i=bx i)→nT S aq e l ps=nT S bx e l ps
 | [],_,_=>rfl
 | (i,v)::ps,l,h=>by
  obtain ⟨h1,h2⟩:=yh (t:=e) (h (i,v) (by simp))
  simp only [nT,h1,h2]
  congr 1
  cases datum S bx e v with
  | none=>rfl
  | some x=>simp only [Option.bind_some]; rw [KM fun p hp=>h p (by simp [hp])]
theorem KK {bx:Bx S.C} {e:Ty} : ∀ {ps:List (Nat×Sy.V S.C)} {l l':List (e.den S.C)} {us:aR S.C},nT S bx e l ps=some (l',us)→dj bx us∧l'.length=l.length
 | [],_,_,_,h=>by cases h; exact ⟨fun u hu=>by simp at hu,rfl⟩
 | (i,v)::ps,l,l',us,h=>by
  simp only [nT] at h
  cases hi:Nat.blt i (List.length l) with
  | false=>rw [hi] at h; cases h
  | true=>
   rw [hi,cond_true] at h
   obtain ⟨x,hx,h⟩:=Option.bind_eq_some_iff.1 h
   obtain ⟨⟨l2,u2⟩,h2,h⟩:=Option.bind_eq_some_iff.1 h
   cases h
   obtain ⟨g1,g2⟩:=KK h2
   exact ⟨(dj.dH bx v).append g1,by rw [g2,List.length_set]⟩
theorem KL (hS:dm S) (h:Inv P S w0 M0 s0 dq env a w μ) {e:Ty} {US:aR S.C} (hU:dj env.bx US): ∀ {ps:List (Nat×Sy.V S.C)} {qs:List (Nat×Value)} {l l':List (e.den S.C)} {us:aR S.C} {cells:Array Value},
 Aw P S w (aO S w0 M0 s0 env.bx μ w) μ env.bx ps qs→dy w (cA S w0 M0 s0 env.bx (aD env.bx US) μ w) e l cells.toList→nT S env.bx e l ps=some (l',us)→(∀ u ∈ us,u ∈ US)→
 ∃ cells',Instr.fill (fun i=>some (i*Ty.sz S e,Ty.sz S e)) cells qs=some cells'∧dy w (cA S w0 M0 s0 env.bx (aD env.bx US) μ w) e l' cells'.toList
 | [],qs,l,l',us,cells,h1,h2,h3,_=>by
  cases h1; cases h3
  exact ⟨cells,rfl,h2⟩
 | (i,V)::ps,qs,l,l',us,cells,⟨v,r,hq,hv,hr⟩,h2,h3,hs=>by
  subst hq
  simp only [nT] at h3
  cases hi:Nat.blt i (List.length l) with
  | false=>rw [hi] at h3; cases h3
  | true=>
   rw [hi,cond_true] at h3
   have hlt:i<l.length:=by
    have :Nat.ble (i+1) l.length=true:=hi
    exact Nat.le_of_ble_eq_true this
   obtain ⟨x,hx,h3⟩:=Option.bind_eq_some_iff.1 h3
   obtain ⟨⟨l2,u2⟩,h4,h3⟩:=Option.bind_eq_some_iff.1 h3
   cases h3
   obtain ⟨_,d2⟩:=A6 hS h (Tk.refl S env.bx) hv hx
   have d3:=d2.mono S (xu S (hU.tk (us:=dH S env.bx V) fun u hu=>hs u (by simp [hu])))
   obtain ⟨n,d4⟩:=d3.2
   have d5:=d4.length S
   have hc:=h2.1
   have hle:(i+1)*Ty.sz S e≤l.length*Ty.sz S e:=Nat.mul_le_mul_right _ (by omega)
   rw [Nat.add_mul,Nat.one_mul, ← hc] at hle
   obtain ⟨cells',e1,e2⟩:=KN (fun i=>some (i*Ty.sz S e,Ty.sz S e)) (i:=i) rfl (v:=v) (cells:=cells) (by rw [← d5]; simp) (by simpa using hle) r
   obtain ⟨El,g1,g2⟩:=KL hS h hU (cells:=cells') hr (by rw [e1]; exact h2.set hlt d4) h4 fun u hu=>hs u (by simp [hu])
   exact ⟨El,by rw [e2]; exact g1,g2⟩
theorem Tn (hP:bf P S au) (h:Inv P S w0 M0 s0 dq env a w μ) (hd: ∀ d,o.dst=some d→d<a.tmps.size) {B:Nat} {t:TypeId} {parts:Array (Nat×Operand)} {e:Ty} (ho:o.op= .buildSlice t 0 parts) (ht:fB S t=some e)
 (hnew: ∀ u ∈ us,B≤u.1→u.1<B+16→env.bx u.1=none)
 (hl:(match parts.toList with
  | []=>aL S (.bk B e []) [(B, .tail)]
  | _=> .fail:Rt S).leaf (V,us)) (hK:Goal P S w0 M0 s0 dq env a o.dst V us K):o.wp P a w K Q:=by
 split at hl
 · rename_i hps
   obtain ⟨rfl,rfl⟩:=bF hl
   have hp:parts= #[]:=by
    have :parts=parts.toList.toArray:=by simp
    rw [this,hps]
   subst hp
   have hB:=hnew (B, .tail) (by simp) (Nat.le_refl _) (by show B<B+16; omega)
   have ht':=o9 ht
   obtain ⟨te,ie,z,hu,hte,hie,hby,gS,_⟩:=hP.sl ht'
   have hrun:(execOp a.eval o).run P w= .ok (.value (.slice (some ⟨w.heap.size,0,none⟩) 0 0)) (w.alloc (.cells #[] te)):=by
    unfold execOp
    simp only [ho]
    simp [Instr.buildSlice,run_underlying hu,sizeOf,typeInfo,hie,Array.range_zero',Instr.fill,newRow]
   refine sH (i:=B) (B:= .tail) (V:= .bk B e []) (L:=⟨0,0,0,0,true⟩) h hrun hd (bq.alloc w _ _) hB (fun b o hf=> ?_) (fun _ _ _=>⟨fun j hj=>absurd hj (Nat.not_lt_zero j), ?_⟩) (by simp) (fun j hj=> .inl (by simpa [aI,aG] using hj)) hK
   · have h1:=hf.2.1; have h2:=hf.2.2; simp at h2
   · refine ⟨⟨rfl,1,_,0,rfl,Nat.le_refl _, .inl rfl⟩,fun _=>⟨_,0,rfl, ?_⟩⟩
     rw [aY]
     exact .inr ⟨_,_,rfl,by simp,fun h=>absurd h (Nat.lt_irrefl 0)⟩
 · exact hl.elim
theorem RY (hP:bf P S au) (h:Inv P S w0 M0 s0 dq env a w μ) (hd: ∀ d,o.dst=some d→d<a.tmps.size) {B:Nat} {t:TypeId} {len:Nat} {parts:Array (Nat×Operand)} {ids:List Nat} (ho:o.op= .buildSlice t len parts)
 (gr: ∀ i x,(i,x) ∈ parts.toList→ ∀ V,aX S env.tm x=some V→ ∀ i ∈ aI S V,restrict S env.bx ids i=env.bx i)
 (hnew: ∀ u ∈ us,B≤u.1→u.1<B+16→env.bx u.1=none)
 (hl:(match fB S t with
  | some e=>match parts.toList.mapM (fun (p:Nat×Operand)=>(aX S env.tm p.2).map fun v=>(p.1,v)) with
   | some ps=>cond (Nat.ble (len*Ty.sz S e) 16777216) (match nT S (restrict S env.bx ids) e (List.replicate len (Ty.zero S e)) ps with
    | some (l,us)=>aL S (.aS (B)) (us++ [(B,dZ.arr e l)])
    | none=>Tr.fail) Tr.fail
   | none=>Tr.fail
  | none=>Tr.fail).leaf (V,us)) (hK:Goal P S w0 M0 s0 dq env a o.dst V us K):o.wp P a w K Q:=by
 split at hl
 · rename_i e ht
   split at hl
   · rename_i ps hps
     cases hlim:Nat.ble (len*Ty.sz S e) 16777216 with
     | false=>rw [hlim] at hl; exact hl.elim
     | true=>
      rw [hlim,cond_true] at hl
      obtain ⟨p1,p2⟩:=GO h hps
      rw [KM (bx:=env.bx) fun p hp i hi=>by
       obtain ⟨x,k,hm,hx⟩:=p2 p hp
       exact gr k x hm p.2 hx i hi] at hl
      split at hl
      · rename_i l fz Ly
        obtain ⟨rfl,rfl⟩:=bF hl
        obtain ⟨f1,f2⟩:=KK Ly
        rw [List.length_replicate] at f2
        have ht':=o9 ht
        obtain ⟨te,ie,z,hu,hte,hie,hby,gS,_⟩:=hP.sl ht'
        obtain ⟨⟨i,z,h1,h2,h3,h4,h5⟩,_⟩:=hP.ty te _ hte
        rw [hie] at h1
        cases h1
        obtain ⟨q,hq⟩:=IA (w:=w) hP hte (cA S w0 M0 s0 env.bx (aD env.bx fz) μ w)
        rw [← h5] at hq
        obtain ⟨cells,c1,c2⟩:=KL hP.todm h f1 (cells:=madeCells z.cells (len*Ty.sz S e)) p1 (dy.replicate hq len) Ly fun u hu=>hu
        have bQ:=hnew (B,dZ.arr e l) (by simp) (Nat.le_refl _) (by show B<B+16; omega)
        have hB:aD env.bx fz B=none:=by
         rcases dj.at env.bx f1 B with ⟨e1,_⟩ | ⟨_,e',l',e2,_⟩
         · rw [e1]; exact bQ
         · rw [show env.bx B=none from bQ] at e2; cases e2
        refine It (t:=te) (us:=fz) (e:=e) (l:=l) (cap:=len) (cells:=cells) (cs:=cells.toList) (w1:=w) h hd f1.qu hB rfl ⟨rfl,rfl,rfl⟩ ?_ (by omega) (by have :=c2.1; rw [f2] at this; simpa using this)
         (c2.later (Dq f1.qu)) (List.prefix_refl _) hK
        unfold execOp
        simp only [ho,f2]
        have hrun:(Instr.buildSlice t len (parts.map fun (i,x)=>(i,a.eval x))).run P w= .ok (.slice (some ⟨w.heap.size,0,none⟩) len len) (w.alloc (.cells cells te)):=by
         have hlim:=Nat.le_of_ble_eq_true hlim
         rw [← h2] at hlim c1
         by_cases h0:len*ie.size=0
         · rw [h0] at c1
           have hm:madeCells z.cells 0= #[]:=by simp [madeCells]
           rw [hm] at c1
           have R3:Instr.fill (fun i=>some (i*ie.size,ie.size)) #[] (parts.toList.map fun x=>(x.1,a.eval x.2))=some cells:=c1
           simp [Instr.buildSlice,run_underlying hu,sizeOf,typeInfo,hie,h0,Array.range_zero',R3,newRow]
         · refine run_buildSlice w t te len _ cells ie z hu hie h3 (by omega) h0 ?_
           rw [Array.toList_map,h2]
           rw [h2] at c1
           exact c1
        simp [hrun]
      · exact hl.elim
   · exact hl.elim
 · exact hl.elim
end
end Go.Sy
namespace Go.Sy
section
variable {P:Program} {S:bg} {au:Nat→Nat}
variable {w0:World} {M0 s0:St} {dq:List Deferred} {env:Env S.C} {a:Act} {w:World} {μ:Nat→Loc} {K:Act→World→Prop} {Q:Exit→Act→World→Prop} {o:Oper} {V:V S.C} {us:aR S.C}
theorem Z1 (P:Program) (hS:dm S) {s:St} {n:Nat} {e:Ty} {x:e.den S.C} {cs:List Value} (h:aM S w s n e x cs): ∀ u ∈ cs,u.oneCell'=true:=by
 obtain ⟨h1,h2,_⟩:=nQ (P:=P) hS (fun _=>⟨0,0,0,0,true⟩) (fun _=>none) h
 exact Ac h2 h1
theorem SZ (P:Program) (hS:dm S) {s:St} {e:Ty} {l:List (e.den S.C)} {cs:List Value} (h:dy w s e l cs): ∀ u ∈ cs,u.oneCell'=true:=by
 intro u hu
 obtain ⟨k,hk,U8⟩:=List.getElem_of_mem hu
 have h0:0<Ty.sz S e:=by
  rcases Nat.eq_zero_or_pos (Ty.sz S e) with h0 | h0
  · have :=h.1; rw [h0,Nat.mul_zero] at this; omega
  · exact h0
 have hkl:k<l.length*Ty.sz S e:=by rw [← h.1]; exact hk
 have hi:k / Ty.sz S e<l.length:=Nat.div_lt_of_lt_mul (by rw [Nat.mul_comm]; exact hkl)
 obtain ⟨n,hn⟩:=h.2 (k / Ty.sz S e) _ (List.getElem?_eq_getElem hi)
 refine Z1 P hS hn u ?_
 have hd:k / Ty.sz S e*Ty.sz S e+k % Ty.sz S e=k:=by rw [Nat.mul_comm]; exact Nat.div_add_mod k _
 refine List.mem_iff_getElem?.2 ⟨k % Ty.sz S e, ?_⟩
 rw [List.getElem?_take,if_pos (Nat.mod_lt _ h0),List.getElem?_drop,hd,List.getElem?_eq_getElem hk,U8]
def Read (S:bg) (w:World) (s:St) (e:Ty) (l:List (e.den S.C)) (v:Value):Prop:=
 ∃ ad cap,v= .slice ad l.length cap∧l.length≤cap∧(l.length=0∨ ∃ b o,ad=some ⟨b,o,none⟩∧ ∀ i x,l[i]? =some x→ ∃ ds,ds.length=Ty.sz S e∧w.rangeAt b (o+i*Ty.sz S e) ds∧ ∃ n,aM S w s n e x ds)
theorem cy.read {s:St} {e:Ty} {l:List (e.den S.C)} {v:Value} (h:cy S w s (.sl e) l v):Read S w s e l v:=by
 obtain ⟨ad,cap,h1,h2,h3⟩:=mg h
 refine ⟨ad,cap,h1,h2,h3.imp id fun ⟨b,o,n,h4,h5⟩=>⟨b,o,h4,fun i x hi=> ?_⟩⟩
 obtain ⟨ds,d1,d2,d3⟩:=h5 i x hi
 exact ⟨ds,d1,d2.range,n,d3⟩
theorem qC.read {s:St} {e:Ty} {l:List (e.den S.C)} {v:Value} {L:Loc} {ad:Option Addr} {cap:Nat} (hv:v= .slice ad l.length cap) (h:qC L ad l.length cap (Ty.sz S e))
 (hr: ∀ i x,l[i]? =some x→ ∃ ds,ds.length=Ty.sz S e∧w.rangeAt L.b (L.o+i*Ty.sz S e) ds∧ ∃ n,aM S w s n e x ds):Read S w s e l v:=by
 refine ⟨ad,cap,hv,h.fits, ?_⟩
 cases hn:L.nil with
 | true=>
  left
  have h1:=h.isNil hn
  have h2:=h.fits
  have h3:=h.mA
  omega
 | false=>
  right
  have h1:=h.addr
  rw [hn] at h1
  exact ⟨L.b,L.o,h1,hr⟩
theorem Gu (h:Inv P S w0 M0 s0 dq env a w μ) {b:Nat} {e:Ty} {l:List (e.den S.C)} {v:Value} (hb:env.bx b=some (.arr e l)∨env.bx b=some (.bM e l)) (hv:RV P S w (aO S w0 M0 s0 env.bx μ w) μ env.bx (.aS b) v):
 Read S w (aO S w0 M0 s0 env.bx μ w) e l v:=by
 obtain ⟨_,hv⟩:=hv
 obtain ⟨ad,cap,h1,h2⟩:=hv e l hb
 refine h2.read h1 ?_
 rcases hb with hb | hb
 · exact (h.cc b _ hb).2.2.2.2
 · intro i x hi
   obtain ⟨ds,d1,d2,d3⟩:=(h.cc b _ hb).2.2 i x hi
   exact ⟨ds,d1,d2.range,d3⟩
theorem EJ (h:Inv P S w0 M0 s0 dq env a w μ) {e:Ty} {X:Sy.V S.C} {x:Value} {y:List (e.den S.C)} (hx:RV P S w (aO S w0 M0 s0 env.bx μ w) μ env.bx X x) (hy:datum S env.bx (.sl e) X=some y):
 Read S w (aO S w0 M0 s0 env.bx μ w) e y x:=by
 cases X with
 | d u z=>
  obtain ⟨rfl,rfl⟩:=eG hy
  exact cy.read hx
 | bk b e' l=>
  obtain ⟨e1,rfl⟩:=eG hy
  cases e1
  exact cy.read hx.1
 | cO=>
  cases hy
  exact ⟨none,0,hx,Nat.le_refl _, .inl rfl⟩
 | aS b=>
  have hy:dn S env.bx (.sl e) (.aS b)=some y:=hy
  simp only [dn] at hy
  split at hy
  · rename_i e' l hb
    obtain ⟨e1,rfl⟩:=eG hy
    cases e1
    exact Gu h (.inl hb) hx
  · rename_i e' l hb
    obtain ⟨e1,rfl⟩:=eG hy
    cases e1
    exact Gu h (.inr hb) hx
  · cases hy
 | _=>cases hy
theorem Read.cells {s:St} {e:Ty} {l:List (e.den S.C)} {v:Value} (h:Read S w s e l v): ∃ ad cap cs,v= .slice ad l.length cap∧l.length≤cap∧dy w s e l cs∧
 (l.length=0∧cs= []∨ ∃ b o,ad=some ⟨b,o,none⟩∧w.rangeAt b o cs):=by
 obtain ⟨ad,cap,h1,h2,h3⟩:=h
 rcases h3 with h3 | ⟨b,o,h3,h4⟩
 · have :l= []:=List.length_eq_zero_iff.1 h3
   subst this
   exact ⟨ad,cap,[],h1,h2,dy.nil, .inl ⟨rfl,rfl⟩⟩
 · obtain ⟨cs,c1,c2⟩:=Om h4
   exact ⟨ad,cap,cs,h1,h2,c2, .inr ⟨b,o,h3,c1⟩⟩
theorem Read.src (hP:bf P S au) {s:St} {e:Ty} {l:List (e.den S.C)} {v:Value} (h:Read S w s e l v) {tx:Nat} (ht:S.ty tx=some (.sl e)): ∃ news,Src P (Ty.sz S e) tx v l.length news w∧dy w s e l news:=by
 obtain ⟨te,ie,z,hu,_⟩:=hP.sl ht
 obtain ⟨ad,cap,cs,h1,h2,h3,h4⟩:=h.cells
 refine ⟨cs, ?_,h3⟩
 subst h1
 rcases h4 with ⟨h4,rfl⟩ | ⟨b,o,rfl,h4⟩
 · cases ad with
   | none=>rw [h4]; exact Src.ofNil w hu cap
   | some ad=>exact Src.ofSlice w hu ad _ cap [] h3.1 (fun j u hj=>by simp at hj) (fun u hu=>by simp at hu)
 · exact Src.ofSlice w hu _ _ cap cs h3.1 (fun j u hj=>by rw [Addr.add_mid]; exact h4 j u hj) (SZ P hP.todm h3)
theorem Read.old {s:St} {e:Ty} {l:List (e.den S.C)} {ad:Option Addr} {cap:Nat} (P:Program) (h:Read S w s e l (.slice ad l.length cap)): ∃ olds,(Builtin.firstCells (Ty.sz S e) l.length (.slice ad l.length cap)).run P w.drew= .ok olds.toArray w.drew∧dy w s e l olds∧
 (l.length=0∨ ∃ b o,ad=some ⟨b,o,none⟩∧w.rangeAt b o olds):=by
 obtain ⟨tc,cap',cs,h1,h2,h3,h4⟩:=h.cells
 cases h1
 refine ⟨cs, ?_,h3,h4.imp (·.1) id⟩
 rcases h4 with ⟨h4,rfl⟩ | ⟨b,o,rfl,h4⟩
 · cases ad with
   | none=>exact run_firstCells_none _ _ _ _ _
   | some ad=>exact run_firstCells_some _ _ _ ad _ cap [] h3.1 (fun j u hj=>by simp at hj)
 · exact run_firstCells_some _ _ _ _ _ cap cs h3.1 (fun j u hj=>by rw [Addr.add_mid]; simpa using h4 j u hj)
theorem CR (hP:bf P S au) {t tx ty:Nat} {e:Ty} (ht:S.ty t=some (.sl e)) {n m cap:Nat} {base:Option Addr} {x:Value} {news olds:List Value} (hs:Src P (Ty.sz S e) tx x m news w)
 (hold:(Builtin.firstCells (Ty.sz S e) n (.slice base n cap)).run P w.drew= .ok olds.toArray w.drew) (LL:olds.length=n*Ty.sz S e) (hle:n≤cap) (hlim:(n+m)*au t≤limit):
 (m=0∧(Builtin.append_ #[t,tx] ty #[.slice base n cap,x]).run P w= .ok (.slice base n cap) w)∨
 (0<m∧n+m≤cap∧ ∀ b off,base=some ⟨b,off,none⟩→w.there b (off+n*Ty.sz S e) news.length→(Builtin.append_ #[t,tx] ty #[.slice base n cap,x]).run P w= .ok (.slice base (n+m) cap) (w.setCells b (off+n*Ty.sz S e) news))∨
 (∃ c' te cells,cap<n+m∧n+m≤c'∧Array.size cells=c'*Ty.sz S e∧(olds++news) <+: cells.toList∧
  (Builtin.append_ #[t,tx] ty #[.slice base n cap,x]).run P w= .ok (.slice (some ⟨w.heap.size,0,none⟩) (n+m) c') (w.drew.alloc (.cells cells te))):=by
 obtain ⟨te,ie,_,hu,hte,hie,hby,gS,_⟩:=hP.sl ht
 obtain ⟨⟨i,z,h1,h2,h3,h4,h5⟩,_⟩:=hP.ty te _ hte
 rw [hie] at h1
 cases h1
 rw [← h2] at hs hold LL ⊢
 rcases Nat.eq_zero_or_pos m with h0 | h0
 · left
   subst h0
   have hn:news= []:=by have :=hs.newsLen; rw [Nat.zero_mul] at this; exact List.length_eq_zero_iff.1 this
   subst hn
   exact ⟨rfl,run_append_nothing w t tx ty te ie hu hie base n cap hle x hs⟩
 · right
   by_cases hroom:n+m≤cap
   · left
     refine ⟨h0,hroom, ?_⟩
     rintro b off rfl cM
     exact run_append_room_src w t tx ty te ie hu hie b off n cap x m news hs hroom (fun j hj=>(cM j hj).1) (fun j hj=>(cM j hj).2)
   · right
     have acs:limit=140737488355328:=rfl
     have h63:((n+m:Nat):Int)≤9223372036854775807:=by
      have :(n+m)*1≤(n+m)*au t:=Nat.mul_le_mul_left _ gS
      omega
     refine ⟨_,te,_,by omega,grownCap_ge w (n+m) cap te, ?_, ?_,run_append_grow_src w t tx ty te ie z hu hie h3 base n cap olds hold x m news hs (by omega) h63 (growslice_fits (by omega) (by rw [hby]; omega))⟩
     · have hg:=grownCap_ge w (n+m) cap te
       have hzs:z.cells.size=ie.size:=by
        have :=congrArg List.length h5
        rw [Array.length_toList] at this
        rw [this,h2]
        cases e <;> simp [uZ,Ty.sz]
       rw [Array.size_append,size_zeroCells,hzs,List.size_toArray,List.length_append,LL,hs.newsLen, ← Nat.add_mul, ← Nat.add_mul]
       congr 1
       omega
     · rw [Array.toList_append,List.toList_toArray]
       exact List.prefix_append _ _
theorem Inv.swap (h:Inv P S w0 M0 s0 dq env a w μ) {b B:Nat} {B0 BX:dZ S.C} {L:Loc} {w':World} {T:St} (hb:env.bx b=some B0) (cg:live S env.bx b) (hB:env.bx B=none)
 (hw:bq w w' T) (hT: ∀ k o,T k o→(μ b).aN k o) (hL: ∀ k o,L.aN k o→w.heap.size≤k∨(μ b).aN k o) (hnc: ∀ vs,BX≠ .cells vs∧BX≠ .bU vs)
 (Fk:bX w (aO S w0 M0 s0 env.bx μ w) w' (aO S w0 M0 s0 (aC (aC env.bx b (some .dead)) B (some BX)) (aC μ B L) w')→
  RB P S w' (aO S w0 M0 s0 (aC (aC env.bx b (some .dead)) B (some BX)) (aC μ B L) w') (aC μ B L) (aC (aC env.bx b (some .dead)) B (some BX)) L BX):
 Inv P S w0 M0 s0 dq { env with bx:=aC (aC env.bx b (some .dead)) B (some BX) } a w' (aC μ B L)∧
 bX w (aO S w0 M0 s0 env.bx μ w) w' (aO S w0 M0 s0 (aC (aC env.bx b (some .dead)) B (some BX)) (aC μ B L) w')∧
 (∀ k o,((μ b).aN k o∨k=w.heap.size)→k<w'.heap.size→ ¬ L.aN k o→aO S w0 M0 s0 (aC (aC env.bx b (some .dead)) B (some BX)) (aC μ B L) w' k o):=by
 have hne:b≠B:=fun e=>by rw [e,hB] at hb; cases hb
 have hbd:aC (aC env.bx b (some .dead)) B (some BX) b=some .dead:=by rw [br _ _ hne,aY]
 have K4:aC (aC env.bx b (some .dead)) B (some BX) B=some BX:=aY _ _ _
 have hU: ∀ i, ¬ (i=b∨i=B)→aC (aC env.bx b (some .dead)) B (some BX) i=env.bx i∧aC μ B L i=μ i:=fun i hi=>by
  rw [br _ _ fun e=>hi (.inr e),br _ _ fun e=>hi (.inl e),br _ _ fun e=>hi (.inr e)]
  exact ⟨rfl,rfl⟩
 have lu: ¬ live S (aC (aC env.bx b (some .dead)) B (some BX)) b:=fun hl=>by unfold live at hl; rw [hbd] at hl; exact hl
 have hf: ∀ i,(i=b∨i=B)→live S (aC (aC env.bx b (some .dead)) B (some BX)) i→ ∀ k o,(aC μ B L i).aN k o→w.heap.size≤k∨ ∃ j,(j=b∨j=B)∧live S env.bx j∧(μ j).aN k o:=by
  rintro i (rfl | rfl) hl k o hfo
  · exact absurd hl lu
  · rw [aY] at hfo
    exact (hL k o hfo).imp id fun hfo=>⟨b, .inl rfl,cg,hfo⟩
 have lp: ∀ k o,T k o→k<w.heap.size→ ∃ i,(i=b∨i=B)∧live S env.bx i∧(μ i).aN k o:=fun k o ht _=>⟨b, .inl rfl,cg,hT k o ht⟩
 have hl:=h.later hw lp hU hf
 refine ⟨h.step (U:=fun i=>i=b∨i=B) hw lp hU hf ?_ ?_ ?_ ?_,hl, ?_⟩
 · intro i B1 hi
   by_cases e1:i=b
   · subst e1
     refine ⟨_,hbd, ?_⟩
     rw [br _ _ hne]
     cases B1 <;> rfl
   · have e2:i≠B:=fun e=>by rw [e,hB] at hi; cases hi
     rw [br _ _ e2,br _ _ e1,br _ _ e2]
     exact ⟨B1,hi,cW.refl S _ _⟩
 · rintro i j (rfl | rfl) (rfl | rfl) hij li lj
   · exact absurd rfl hij
   · exact absurd li lu
   · exact absurd lj lu
   · exact absurd rfl hij
 · rintro i B1 (rfl | rfl) lg
   · rw [hbd] at lg; cases lg; trivial
   · rw [K4] at lg; cases lg
     rw [aY]
     exact Fk hl
 · rintro i vs (rfl | rfl) hvs
   · rcases hvs with hvs | hvs <;> · rw [hbd] at hvs; cases hvs
   · rcases hvs with hvs | hvs <;> rw [K4] at hvs
     · exact absurd (Option.some.inj hvs) (hnc vs).1
     · exact absurd (Option.some.inj hvs) (hnc vs).2
 · intro k o' hk hlt Vj
   refine ⟨hlt, ?_,fun i li hfo=> ?_⟩
   · rcases hk with hk | rfl
     · exact (h.own b cg k o' hk).elim (fun h=> .inr (.inr h)) (fun h=> .inr (.inl h))
     · exact .inr (.inr h.iZ.size)
   · by_cases e1:i=b
     · subst e1; exact lu li
     · by_cases e2:i=B
       · subst e2; rw [aY] at hfo; exact Vj hfo
       · have hu:=hU i fun e=>e.elim e1 e2
         rw [eI S hu.1] at li
         rw [hu.2] at hfo
         rcases hk with hk | rfl
         · exact h.dK i b e1 li cg _ _ hfo hk
         · exact absurd (mO P S (h.cc i) li hfo).1 (Nat.lt_irrefl _)
end
end Go.Sy
namespace Go.Sy
section
variable {P:Program} {S:bg} {au:Nat→Nat}
variable {w0:World} {M0 s0:St} {dq:List Deferred} {env:Env S.C} {a:Act} {w:World} {μ:Nat→Loc} {K:Act→World→Prop} {Q:Exit→Act→World→Prop} {o:Oper} {V:V S.C} {us:aR S.C}
theorem H9 {s:St} {e:Ty} {l:List (e.den S.C)} {b o' cap:Nat} (hle:l.length≤cap)
 (hall: ∀ (i:Nat) (x:e.den S.C),l[i]? =some x→ ∃ ds,ds.length=Ty.sz S e∧At w s b (o'+i*Ty.sz S e) ds∧ ∃ n,aM S w s n e x ds):cy S w s (.sl e) l (.slice (some ⟨b,o',none⟩) l.length cap):=by
 have : ∀ m,m≤l.length→ ∃ n, ∀ (i:Nat) (x:e.den S.C),i<m→l[i]? =some x→ ∃ ds,ds.length=Ty.sz S e∧At w s b (o'+i*Ty.sz S e) ds∧aM S w s n e x ds:=by
  intro m
  induction m with
  | zero=>exact fun _=>⟨0,fun i x hi=>by omega⟩
  | succ m ih=>
   intro hm
   obtain ⟨n,hn⟩:=ih (by omega)
   obtain ⟨ds,h1,h2,n',h3⟩:=hall m l[m] (by simp)
   refine ⟨max n n',fun i x hi hx=> ?_⟩
   by_cases e:i=m
   · subst e
     have :x=l[i]:=by simpa [List.getElem?_eq_getElem (show i<l.length by omega)] using hx.symm
     subst this
     exact ⟨ds,h1,h2,h3.up S (by omega)⟩
   · obtain ⟨ds,h1,h2,h3⟩:=hn i x (by omega) hx
     exact ⟨ds,h1,h2,h3.up S (by omega)⟩
 obtain ⟨n,hn⟩:=this l.length (Nat.le_refl _)
 exact ⟨rfl,n+1,_,cap,rfl,hle, .inr ⟨b,o',rfl,fun i x hx=>hn i x (List.getElem?_eq_some_iff.1 hx).1 hx⟩⟩
theorem dy.at {s:St} {e:Ty} {l:List (e.den S.C)} {cs:List Value} (h:dy w s e l cs) {b o':Nat} (hr:At w s b o' cs):
 ∀ i x,l[i]? =some x→ ∃ ds,ds.length=Ty.sz S e∧At w s b (o'+i*Ty.sz S e) ds∧ ∃ n,aM S w s n e x ds:=fun i x hi=>by
 obtain ⟨n,hn⟩:=h.2 i x hi
 exact ⟨_,hn.length S,hr.part _ _,n,hn⟩
theorem Rm {s:St} {e:Ty} {l l':List (e.den S.C)} {b o':Nat}
 (h1: ∀ i x,l[i]? =some x→ ∃ ds,ds.length=Ty.sz S e∧At w s b (o'+i*Ty.sz S e) ds∧ ∃ n,aM S w s n e x ds)
 (h2: ∀ i x,l'[i]? =some x→ ∃ ds,ds.length=Ty.sz S e∧At w s b (o'+l.length*Ty.sz S e+i*Ty.sz S e) ds∧ ∃ n,aM S w s n e x ds):
 ∀ i x,(l++l')[i]? =some x→ ∃ ds,ds.length=Ty.sz S e∧At w s b (o'+i*Ty.sz S e) ds∧ ∃ n,aM S w s n e x ds:=fun i x hi=>by
 by_cases hlt:i<l.length
 · rw [List.getElem?_append_left hlt] at hi; exact h1 i x hi
 · rw [List.getElem?_append_right (by omega)] at hi
   have :=h2 _ x hi
   rw [Nat.add_assoc, ← Nat.add_mul,show l.length+(i - l.length)=i from by omega] at this
   exact this
theorem xR {s:St} {e:Ty} {l l':List (e.den S.C)} {b o':Nat}
 (h1: ∀ i x,l[i]? =some x→ ∃ ds,ds.length=Ty.sz S e∧w.rangeAt b (o'+i*Ty.sz S e) ds∧ ∃ n,aM S w s n e x ds)
 (h2: ∀ i x,l'[i]? =some x→ ∃ ds,ds.length=Ty.sz S e∧w.rangeAt b (o'+l.length*Ty.sz S e+i*Ty.sz S e) ds∧ ∃ n,aM S w s n e x ds):
 ∀ i x,(l++l')[i]? =some x→ ∃ ds,ds.length=Ty.sz S e∧w.rangeAt b (o'+i*Ty.sz S e) ds∧ ∃ n,aM S w s n e x ds:=fun i x hi=>by
 by_cases hlt:i<l.length
 · rw [List.getElem?_append_left hlt] at hi; exact h1 i x hi
 · rw [List.getElem?_append_right (by omega)] at hi
   have :=h2 _ x hi
   rw [Nat.add_assoc, ← Nat.add_mul,show l.length+(i - l.length)=i from by omega] at this
   exact this
theorem sI (h:Inv P S w0 M0 s0 dq env a w μ) (hd: ∀ d,o.dst=some d→d<a.tmps.size) {b B:Nat} {B0 BX:dZ S.C} {L:Loc} {w':World} {T:St} {v:Value} (hb:env.bx b=some B0) (cg:live S env.bx b) (hB:env.bx B=none)
 (hrun:(execOp a.eval o).run P w= .ok (.value v) w')
 (hw:bq w w' T) (hT: ∀ k o,T k o→(μ b).aN k o) (hL: ∀ k o,L.aN k o→w.heap.size≤k∨(μ b).aN k o) (hnc: ∀ vs,BX≠ .cells vs∧BX≠ .bU vs)
 (Fk: ∀ s',bX w (aO S w0 M0 s0 env.bx μ w) w' s'→RB P S w' s' (aC μ B L) (aC (aC env.bx b (some .dead)) B (some BX)) L BX)
 (hV: ∀ s',bX w (aO S w0 M0 s0 env.bx μ w) w' s'→(∀ k o,((μ b).aN k o∨k=w.heap.size)→k<w'.heap.size→ ¬ L.aN k o→s' k o)→
  RV P S w' s' (aC μ B L) (aC (aC env.bx b (some .dead)) B (some BX)) V v)
 (lq: ∀ i ∈ aI S V,i=B) (hK:Goal P S w0 M0 s0 dq env a o.dst V [(b, .dead),(B,BX)] K):o.wp P a w K Q:=by
 obtain ⟨hI,hl,hm⟩:=h.swap hb cg hB hw hT hL hnc (Fk _)
 unfold Oper.wp
 rw [hrun]
 refine hK _ w' _ (hI.put hd (hV _ hl hm) fun i hi=> ?_) ?_
 · rw [lq i hi]
   show aC (aC env.bx b (some .dead)) B (some BX) B≠none
   rw [aY]; simp
 · cases o.dst <;> simp [Act.put]
theorem Jc {f:Operand→Option (Sy.V S.C)} {xs:List Operand} {v u:Sy.V S.C} (h:xs.mapM f=some [v,u]): ∃ x y,xs= [x,y]∧f x=some v∧f y=some u:=by
 cases xs with
 | nil=>cases h
 | cons x r=>
  obtain ⟨y,zs,h1,h2,h3⟩:=n4 h
  cases h3
  cases r with
  | nil=>cases h2
  | cons x' r'=>
   obtain ⟨y',zs',h4,h5,h6⟩:=n4 h2
   cases h6
   cases r' with
   | nil=>exact ⟨x,x',rfl,h1,h4⟩
   | cons x'' r''=>
    obtain ⟨y',zs',h7,h8,h9⟩:=n4 h5
    cases h9
theorem bq.grown {w:World} {cells:Array Value} {t:TypeId} (T:St):bq w (w.drew.alloc (.cells cells t)) T:=
 (bq.drew w T).trans (bq.alloc w.drew _ T) (fun _ _ h=>h) (fun _ _ _ h=>h)
theorem KZ {w:World} {cells:Array Value} {t:TypeId} :(w.drew.alloc (.cells cells t)).there w.heap.size 0 cells.size∧(w.drew.alloc (.cells cells t)).rangeAt w.heap.size 0 cells.toList∧w.heap.size<(w.drew.alloc (.cells cells t)).heap.size:=by
 obtain ⟨h1,h2⟩:=rD (w:=w.drew) (cs:=cells) (t:=t)
 exact ⟨h1,h2,by simp⟩
theorem Ni {w:World} {b o':Nat} {cs ds:List Value} (h:w.rangeAt b o' ds) (hp:cs <+: ds):w.rangeAt b o' cs:=fun j v hj=>by
 obtain ⟨r,rfl⟩:=hp
 exact h j v (by rw [List.getElem?_append_left (List.getElem?_eq_some_iff.1 hj).1]; exact hj)
theorem W1 {α:Type} (l:List α) {n i m:Int} (h0:0≤n) (h1:n≤i) (h2:0≤m) (h3:i.toNat+m.toNat≤l.length):(n5 l n i m).length=l.length:=by
 unfold n5
 simp only [List.length_append,List.length_take,List.length_drop]
 omega
theorem Rn (hP:bf P S au) (h:Inv P S w0 M0 s0 dq env a w μ) (hd: ∀ d,o.dst=some d→d<a.tmps.size) {c:Call} (ho:o.op= .call c) (hc:c.callee= .builtin .append) {args:List (Sy.V S.C)} {ids:List Nat} {B:Nat}
 (hargs:c.args.toList.mapM (aX S env.tm)=some args) (gr: ∀ V ∈ args, ∀ i ∈ aI S V,restrict S env.bx ids i=env.bx i)
 (hnew: ∀ u ∈ us,B≤u.1→u.1<B+16→env.bx u.1=none)
 (hl:(match args,c.argTypes.toList with
  | [s,x],[t,u]=>match fB S t,fB S u with
   | some e,some e'=>if e=e' then u_ S B (au t) e (restrict S env.bx ids) x s else .fail
   | _,_=> .fail
  | _,_=> .fail).leaf (V,us)) (hK:Goal P S w0 M0 s0 dq env a o.dst V us K):o.wp P a w K Q:=by
 split at hl
 · rename_i Vs Vx t tx FU
   split at hl
   · rename_i e e' het UR
     split at hl
     · rename_i hee
       subst hee
       obtain ⟨xs,xx,hxs,pF,hex⟩:=Jc hargs
       obtain ⟨hs,_⟩:=bD h pF
       obtain ⟨hx,_⟩:=bD h hex
       have ht:=o9 het
       have y4:=o9 UR
       have cZ:c.argTypes= #[t,tx]:=by
        have :c.argTypes=c.argTypes.toList.toArray:=by simp
        rw [this,FU]
       have har:c.args= #[xs,xx]:=by
        have :c.args=c.args.toList.toArray:=by simp
        rw [this,hxs]
       have hrun: ∀ {v:Value} {w':World},(Builtin.append_ #[t,tx] o.type #[a.eval xs,a.eval xx]).run P w= .ok v w'→(execOp a.eval o).run P w= .ok (.value v) w':=by
        intro v w' hr
        unfold execOp
        simp only [ho]
        simp [resolve,hc,har,cZ,invoke,builtin,hr]
       have Bl: ∀ BX,(B,BX) ∈ us→env.bx B=none:=fun BX hm=>hnew _ hm (Nat.le_refl _) (by show B<B+16; omega)
       have vF: ∀ y,datum S (restrict S env.bx ids) (.sl e) Vx=some y→datum S env.bx (.sl e) Vx=some y:=fun y hy=>by
        rw [← (yh (t:= .sl e) (gr Vx (by simp))).1]; exact hy
       cases Vs with
       | bk b e' l=>
        simp only [u_] at hl
        split at hl
        · rename_i hb
          have hb:=fH hb
          split at hl
          · rename_i l' hl'
            obtain ⟨e1,e2⟩:=eG hl'
            cases e1
            dsimp only at e2
            subst e2
            split at hl
            · rename_i y hy
              obtain ⟨hg,rfl,rfl⟩:=gq hl
              have hlim:(l.length+y.length)*au t≤limit:=hg (gd ((l.length+y.length)*au t≤limit)) (by simp)
              have hB:=Bl .tail (by simp)
              obtain ⟨ko,hown⟩:=hs
              obtain ⟨ad,cap,dw,LZ⟩:=hown hb
              obtain ⟨news,hsrc,hnews⟩:=(EJ h hx (vF y hy)).src hP y4
              have hread:=ko.read
              rw [dw] at hread
              have hle:l.length≤cap:=by obtain ⟨_,_,q1,q2,_⟩:=hread; cases q1; exact q2
              obtain ⟨olds,hold,holds,_⟩:=hread.old P
              have cg:live S env.bx b:=by unfold live; rw [hb]; trivial
              have cM:w.there (μ b).b (μ b).o (μ b).n:=h.cc b _ hb
              have lq: ∀ i ∈ aI S (.bk B e (List.append l y):Sy.V S.C),i=B:=fun i hi=>by simpa [aI,aG] using hi
              rcases CR (ty:=o.type) hP ht hsrc hold holds.1 hle hlim with ⟨h0,hr⟩ | ⟨h0,hroom,hr⟩ | ⟨c',te,cells,hcap,iF,hcsz,hpre,hr⟩
              · have :y= []:=List.length_eq_zero_iff.1 h0
                subst this
                rw [← dw] at hr
                refine sI (V:= .bk B e (List.append l [])) (BX:= .tail) (L:=μ b) h hd hb cg hB (hrun hr) (bq.refl w (fun _ _=>False)) (fun _ _ h=>h.elim) (fun _ _ h=> .inr h) (fun vs=>⟨by simp,by simp⟩) (fun s' hl=>cM) (fun s' hl _=>⟨?_,fun _=>⟨ad,cap, ?_, ?_⟩⟩) lq hK
                · rw [show List.append l []=l from List.append_nil l]; exact ko.mono S hl
                · rw [show List.append l []=l from List.append_nil l]; exact dw
                · rw [show List.append l []=l from List.append_nil l,aY]; exact LZ
              · have hnl:=hsrc.newsLen
                rcases LZ with ⟨_,hc0,_⟩ | ⟨b0,off,rfl,hn,hlt⟩
                · omega
                · obtain ⟨q1,q2⟩:=hlt (by omega)
                  have hmul:y.length*Ty.sz S e≤(cap - l.length)*Ty.sz S e:=Nat.mul_le_mul_right _ (by omega)
                  have hsplit:(cap - l.length)*Ty.sz S e=y.length*Ty.sz S e+(cap - (l.length+y.length))*Ty.sz S e:=by rw [← Nat.add_mul]; congr 1; omega
                  have hsum:(l.length+y.length)*Ty.sz S e=l.length*Ty.sz S e+y.length*Ty.sz S e:=Nat.add_mul ..
                  rw [q1,q2] at cM
                  have ic:w.there b0 (off+l.length*Ty.sz S e) news.length:=oH cM (Nat.le_refl _) (by omega)
                  have hr:=hr b0 off rfl ic
                  rw [← dw] at hr
                  refine sI (V:= .bk B e (List.append l y)) (BX:= .tail) (L:=⟨b0,off+(l.length+y.length)*Ty.sz S e,(cap - (l.length+y.length))*Ty.sz S e,0,false⟩) h hd hb cg hB (hrun hr) (bq.setCells w b0 _ news ic) (fun k o' hk=> ?_) (fun k o' hk=> .inr ?_) (fun vs=>⟨by simp,by simp⟩)
                   (fun s' hl=> ?_) (fun s' hl hm=>⟨?_,fun _=>⟨some ⟨b0,off,none⟩,cap, ?_, ?_⟩⟩) lq hK
                  · exact ⟨by rw [q1]; exact hk.1,by omega,by omega⟩
                  · obtain ⟨k1,k2,k3⟩:=hk
                    dsimp only at k1 k2 k3
                    exact ⟨by rw [q1]; exact k1,by omega,by omega⟩
                  · exact xy (oH cM (by dsimp only; omega) (by dsimp only; omega)) ic
                  · have hv:a.eval xs= .slice (some ⟨b0,off,none⟩) l.length cap:=dw
                    obtain ⟨_,_,z1,z2,z3⟩:=mg ko
                    rw [hv] at z1
                    cases z1
                    have hel: ∀ i x,l[i]? =some x→ ∃ ds,ds.length=Ty.sz S e∧At (w.setCells b0 (off+l.length*Ty.sz S e) news) s' b0 (off+i*Ty.sz S e) ds∧ ∃ n,aM S (w.setCells b0 (off+l.length*Ty.sz S e) news) s' n e x ds:=by
                     intro i x hi
                     rcases z3 with z3 | ⟨b1,o1,n,z4,z5⟩
                     · have :=(List.getElem?_eq_some_iff.1 hi).1; omega
                     · cases z4
                       obtain ⟨ds,d1,d2,d3⟩:=z5 i x hi
                       exact ⟨ds,d1,d2.later hl,n,d3.mono S hl (Nat.le_refl _)⟩
                    have hnew2:At (w.setCells b0 (off+l.length*Ty.sz S e) news) s' b0 (off+l.length*Ty.sz S e) news:=fun j v hj=>by
                     have hjl:=(List.getElem?_eq_some_iff.1 hj).1
                     have Li:=B6 ic j v hj
                     refine ⟨Li,hm _ _ (.inl ⟨by rw [q1],by omega,by omega⟩) (World.block_lt_of_cell? _ _ Li) fun hf=> ?_⟩
                     have :=hf.2.1
                     dsimp only at this
                     omega
                    have :=H9 (cap:=cap) (b:=b0) (o':=off) (l:=List.append l y) (by rw [show (List.append l y).length=l.length+y.length from List.length_append]; exact hroom) (Rm hel ((hnews.later hl).at hnew2))
                    rw [show (List.append l y).length=l.length+y.length from List.length_append] at this
                    exact this
                  · show Value.slice _ _ _=_
                    rw [show (List.append l y).length=l.length+y.length from List.length_append]
                  · rw [show (List.append l y).length=l.length+y.length from List.length_append,aY]
                    exact .inr ⟨b0,off,rfl,rfl,fun _=>⟨rfl,rfl⟩⟩
              · rw [← dw] at hr
                obtain ⟨g1,g2,g3⟩:=KZ (w:=w) (cells:=cells) (t:=te)
                have hsplit:c'*Ty.sz S e=(l.length+y.length)*Ty.sz S e+(c' - (l.length+y.length))*Ty.sz S e:=by rw [← Nat.add_mul]; congr 1; omega
                refine sI (V:= .bk B e (List.append l y)) (BX:= .tail) (L:=⟨w.heap.size,(l.length+y.length)*Ty.sz S e,(c' - (l.length+y.length))*Ty.sz S e,0,false⟩) h hd hb cg hB (hrun hr) (bq.grown (fun _ _=>False)) (fun _ _ h=>h.elim) (fun k o' hk=> .inl (Nat.le_of_eq hk.1.symm)) (fun vs=>⟨by simp,by simp⟩)
                 (fun s' hl=>oH g1 (Nat.zero_le _) (by dsimp only; omega)) (fun s' hl hm=>⟨?_,fun _=>⟨some ⟨w.heap.size,0,none⟩,c', ?_, ?_⟩⟩) lq hK
                · have hall:At (w.drew.alloc (.cells cells te)) s' w.heap.size 0 (olds++news):=fun j v hj=>by
                   have hjl:=(List.getElem?_eq_some_iff.1 hj).1
                   rw [List.length_append,holds.1,hnews.1, ← Nat.add_mul] at hjl
                   refine ⟨Ni g2 hpre j v hj,hm _ _ (.inr rfl) g3 fun hf=> ?_⟩
                   have :=hf.2.1
                   dsimp only at this
                   omega
                  have :=H9 (cap:=c') (b:=w.heap.size) (o':=0) (l:=List.append l y) (by rw [show (List.append l y).length=l.length+y.length from List.length_append]; exact iF) (((holds.append hnews).later hl).at hall)
                  rw [show (List.append l y).length=l.length+y.length from List.length_append] at this
                  exact this
                · show Value.slice _ _ _=_
                  rw [show (List.append l y).length=l.length+y.length from List.length_append]
                · rw [show (List.append l y).length=l.length+y.length from List.length_append,aY]
                  exact .inr ⟨_,0,rfl,rfl,fun _=>⟨rfl,by dsimp only; omega⟩⟩
            · exact hl.elim
          · exact hl.elim
        · exact hl.elim
       | aS b=>
        simp only [u_] at hl
        split at hl
        · rename_i e' l hb
          have hb:=fH hb
          split at hl
          · rename_i l' hl'
            obtain ⟨e1,e2⟩:=eG hl'
            cases e1
            dsimp only at e2
            subst e2
            split at hl
            · rename_i y hy
              obtain ⟨hg,rfl,rfl⟩:=gq hl
              have hlim:(l.length+y.length)*au t≤limit:=hg (gd ((l.length+y.length)*au t≤limit)) (by simp)
              have hB:=Bl (.arr e (List.append l y)) (by simp)
              have hread:=Gu h (.inl hb) hs
              obtain ⟨ad,cap,dw,fM⟩:=hs.2 e l (.inl hb)
              obtain ⟨news,hsrc,hnews⟩:=(EJ h hx (vF y hy)).src hP y4
              rw [dw] at hread
              have hle:l.length≤cap:=fM.fits
              obtain ⟨olds,hold,holds,_⟩:=hread.old P
              have cg:live S env.bx b:=by unfold live; rw [hb]; trivial
              obtain ⟨b1,b2,b3,cM,b5⟩:=h.cc b _ hb
              have lq: ∀ i ∈ aI S (.aS B:Sy.V S.C),i=B:=fun i hi=>by simpa [aI,aG] using hi
              have UJ:=fM.mA
              have dr: ∀ {w':World} {s':St} {μ':Nat→Loc} {L:Loc} {v:Value} {tc:Option Addr} {cap':Nat},v= .slice tc (l.length+y.length) cap'→qC L tc (l.length+y.length) cap' (Ty.sz S e)→μ' B=L→
               RV P S w' s' μ' (aC (aC env.bx b (some .dead)) B (some (.arr e (List.append l y)))) (.aS B) v:=by
               rintro w' s' μ' L v tc cap' rfl hok hμ
               refine ⟨⟨_,_,_,rfl⟩,fun e2 l2 h2=> ?_⟩
               rw [aY] at h2
               rcases h2 with h2 | h2
               · cases h2
                 rw [hμ,show (List.append l y).length=l.length+y.length from List.length_append]
                 exact ⟨tc,cap',rfl,hok⟩
               · cases h2
              rcases CR (ty:=o.type) hP ht hsrc hold holds.1 hle hlim with ⟨h0,hr⟩ | ⟨h0,hroom,hr⟩ | ⟨c',te,cells,hcap,iF,hcsz,hpre,hr⟩
              · have :y= []:=List.length_eq_zero_iff.1 h0
                subst this
                rw [← dw] at hr
                refine sI (V:= .aS B) (BX:= .arr e (List.append l [])) (L:=μ b) h hd hb cg hB (hrun hr) (bq.refl w (fun _ _=>False)) (fun _ _ h=>h.elim) (fun _ _ h=> .inr h) (fun vs=>⟨by simp,by simp⟩) (fun s' hl=> ?_) (fun s' hl _=>dr dw fM (aY _ _ _)) lq hK
                rw [show List.append l []=l from List.append_nil l]
                refine ⟨b1,b2,b3,cM,fun i x hi=> ?_⟩
                obtain ⟨ds,d1,d2,n,d3⟩:=b5 i x hi
                exact ⟨ds,d1,d2,n,d3.mono S hl (Nat.le_refl _)⟩
              · have hnl:=hsrc.newsLen
                have pI:(μ b).nil=false:=by
                 cases hn:(μ b).nil with
                 | false=>rfl
                 | true=>have :=fM.isNil hn; omega
                have had:=fM.addr
                rw [pI] at had
                have hmul:(l.length+y.length)*Ty.sz S e≤(μ b).cap*Ty.sz S e:=Nat.mul_le_mul_right _ (by omega)
                rw [Nat.add_mul] at hmul
                have ic:w.there (μ b).b ((μ b).o+l.length*Ty.sz S e) news.length:=oH cM (by omega) (by omega)
                have hr:=hr _ _ had ic
                rw [← dw] at hr
                refine sI (V:= .aS B) (BX:= .arr e (List.append l y)) (L:=μ b) h hd hb cg hB (hrun hr) (bq.setCells w (μ b).b _ news ic) (fun k o' hk=>⟨hk.1,by omega,by omega⟩) (fun k o' hk=> .inr hk) (fun vs=>⟨by simp,by simp⟩)
                 (fun s' hl=>⟨b1,b2, ?_,xy cM ic, ?_⟩) (fun s' hl hm=>dr (cap':=cap) rfl ?_ (aY _ _ _)) lq hK
                · rw [show (List.append l y).length=l.length+y.length from List.length_append]; omega
                · refine xR (fun i x hi=> ?_) ((hnews.later hl).row (B6 ic))
                  obtain ⟨ds,d1,d2,n,d3⟩:=b5 i x hi
                  refine ⟨ds,d1,wg d2 (.inr (.inl ?_)),n,d3.mono S hl (Nat.le_refl _)⟩
                  have vJ:=(List.getElem?_eq_some_iff.1 hi).1
                  have :(i+1)*Ty.sz S e≤l.length*Ty.sz S e:=Nat.mul_le_mul_right _ (by omega)
                  rw [Nat.add_mul,Nat.one_mul] at this
                  omega
                · exact ⟨fM.addr,fM.mA,fM.cells,fM.isNil,hroom⟩
              · rw [← dw] at hr
                obtain ⟨g1,g2,g3⟩:=KZ (w:=w) (cells:=cells) (t:=te)
                refine sI (V:= .aS B) (BX:= .arr e (List.append l y)) (L:=⟨w.heap.size,0,c'*Ty.sz S e,c',false⟩) h hd hb cg hB (hrun hr) (bq.grown (fun _ _=>False)) (fun _ _ h=>h.elim) (fun k o' hk=> .inl (Nat.le_of_eq hk.1.symm)) (fun vs=>⟨by simp,by simp⟩)
                 (fun s' hl=>⟨rfl,(fun h=>by cases h), ?_,by show World.there _ w.heap.size 0 (c'*Ty.sz S e); rw [← hcsz]; exact g1, ?_⟩) (fun s' hl hm=>dr (cap':=c') rfl ⟨rfl,rfl,rfl,(fun h=>by cases h),iF⟩ (aY _ _ _)) lq hK
                · rw [show (List.append l y).length=l.length+y.length from List.length_append]; exact iF
                · exact ((holds.append hnews).later hl).row (Ni g2 hpre)
            · exact hl.elim
          · exact hl.elim
        · exact hl.elim
       | pre b n=>
        simp only [u_] at hl
        split at hl
        · rename_i e' l b' i m hb _
          have hb:=fH hb
          cases Fx:Nat.beq b' b with
          | false=>rw [Fx] at hl; exact hl.elim
          | true=>
           rw [Fx,cond_true] at hl
           have :=Nat.eq_of_beq_eq_true Fx
           subst this
           split at hl
           · rename_i l' hl'
             obtain ⟨e1,e2⟩:=eG hl'
             cases e1
             dsimp only at e2
             subst e2
             obtain ⟨hg,rfl,rfl⟩:=gq hl
             have hni:n≤i:=hg (gd (n≤i)) (by simp)
             have U_:List.length l*au t≤limit:=hg (gd (List.length l*au t≤limit)) (by simp)
             have hB:=Bl (.arr e (n5 l n i m)) (by simp)
             obtain ⟨hn0,hnl,ad,cap,dw,fM⟩:=hs.2 e l hb
             obtain ⟨hi0,hm0,FI,Ra,cap2,F1,Vh,Uz⟩:=hx.2 e l hb
             obtain ⟨b1,b2,b3,cM,b5⟩:=h.cc b' _ hb
             have UJ:=fM.mA
             have cg:live S env.bx b':=by unfold live; rw [hb]; trivial
             obtain ⟨y,hy⟩: ∃ y,y=(List.drop i.toNat l).take m.toNat:=⟨_,rfl⟩
             have VM:y.length=m.toNat:=by rw [hy,List.length_take,List.length_drop]; omega
             have VK: ∀ k x,y[k]? =some x→l[i.toNat+k]? =some x:=fun k x hk=>by
              rw [hy,List.getElem?_take] at hk
              split at hk
              · rwa [List.getElem?_drop] at hk
              · cases hk
             have hrd:Read S w (aO S w0 M0 s0 env.bx μ w) e y (a.eval xx):=by
              refine ⟨Ra,cap2,by rw [VM]; exact F1,by omega, ?_⟩
              rcases Uz with h0 | h0
              · exact .inl (by omega)
              · refine .inr ⟨_,_,h0,fun k x hk=> ?_⟩
                obtain ⟨ds,d1,d2,q,d3⟩:=b5 _ x (VK k x hk)
                exact ⟨ds,d1,by rw [show (μ b').o+i.toNat*Ty.sz S e+k*Ty.sz S e=(μ b').o+(i.toNat+k)*Ty.sz S e from by rw [Nat.add_mul]; omega]; exact d2,q,d3⟩
             have hpl:(List.take n.toNat l).length=n.toNat:=by rw [List.length_take]; omega
             have Vq:Read S w (aO S w0 M0 s0 env.bx μ w) e (List.take n.toNat l) (.slice ad (List.take n.toNat l).length cap):=by
              refine ⟨ad,cap,rfl,by rw [hpl]; exact fM.fits, ?_⟩
              by_cases h0:n.toNat=0
              · exact .inl (by rw [hpl]; exact h0)
              · have pI:(μ b').nil=false:=by
                 cases hn:(μ b').nil with
                 | false=>rfl
                 | true=>have :=fM.isNil hn; have :=fM.fits; omega
                have had:=fM.addr
                rw [pI] at had
                refine .inr ⟨_,_,had,fun k x hk=> ?_⟩
                rw [List.getElem?_take] at hk
                split at hk
                · exact b5 k x hk
                · cases hk
             obtain ⟨news,hsrc,hnews⟩:=hrd.src hP y4
             obtain ⟨olds,hold,holds,_⟩:=Vq.old P
             rw [hpl] at hold
             have hol:=holds.1
             rw [hpl] at hol
             have hlim:(n.toNat+y.length)*au t≤limit:=Nat.le_trans (Nat.mul_le_mul_right _ (by omega)) U_
             have lq: ∀ j ∈ aI S (.pre B (n+m):Sy.V S.C),j=B:=fun j hj=>by simpa [aI,aG] using hj
             have hml:=W1 l hn0 hni hm0 FI
             have hnm:(n+m).toNat=n.toNat+y.length:=by omega
             have dr: ∀ {w':World} {s':St} {μ':Nat→Loc} {v:Value},v= .slice ad (n.toNat+y.length) cap→μ' B=μ b'→
              RV P S w' s' μ' (aC (aC env.bx b' (some .dead)) B (some (.arr e (n5 l n i m)))) (.pre B (n+m)) v:=by
              rintro w' s' μ' v rfl hμ
              refine ⟨⟨_,_,_,rfl⟩,fun e2 l2 h2=> ?_⟩
              rw [aY] at h2
              cases h2
              rw [hμ,hml]
              exact ⟨by omega,by omega,ad,cap,by rw [hnm],fM.addr,fM.mA,fM.cells,fM.isNil,by omega⟩
             have LH:n5 l n i m=(List.take n.toNat l++y)++List.drop (n.toNat+y.length) l:=by
              unfold n5; rw [hnm,hy]
             rcases CR (ty:=o.type) hP ht hsrc hold hol fM.fits hlim with ⟨h0,hr⟩ | ⟨h0,hroom,hr⟩ | ⟨c',te,cells,hcap,iF,hcsz,hpre,hr⟩
             · have hy0:y= []:=List.length_eq_zero_iff.1 h0
               rw [← dw] at hr
               refine sI (V:= .pre B (n+m)) (BX:= .arr e (n5 l n i m)) (L:=μ b') h hd hb cg hB (hrun hr) (bq.refl w (fun _ _=>False)) (fun _ _ h=>h.elim) (fun _ _ h=> .inr h) (fun vs=>⟨by simp,by simp⟩) (fun s' hl=> ?_) (fun s' hl _=>dr (by rw [dw,h0]; rfl) (aY _ _ _)) lq hK
               have :n5 l n i m=l:=by rw [LH,hy0]; simp
               rw [this]
               refine ⟨b1,b2,b3,cM,fun i x hi=> ?_⟩
               obtain ⟨ds,d1,d2,n,d3⟩:=b5 i x hi
               exact ⟨ds,d1,d2,n,d3.mono S hl (Nat.le_refl _)⟩
             · have acw:=hsrc.newsLen
               have pI:(μ b').nil=false:=by
                cases hn:(μ b').nil with
                | false=>rfl
                | true=>have :=fM.isNil hn; omega
               have had:=fM.addr
               rw [pI] at had
               have hmul:(n.toNat+y.length)*Ty.sz S e≤(μ b').cap*Ty.sz S e:=Nat.mul_le_mul_right _ (by omega)
               have hsum:(n.toNat+y.length)*Ty.sz S e=n.toNat*Ty.sz S e+y.length*Ty.sz S e:=Nat.add_mul ..
               have ic:w.there (μ b').b ((μ b').o+n.toNat*Ty.sz S e) news.length:=oH cM (by omega) (by omega)
               have hr:=hr _ _ had ic
               rw [← dw] at hr
               refine sI (V:= .pre B (n+m)) (BX:= .arr e (n5 l n i m)) (L:=μ b') h hd hb cg hB (hrun hr) (bq.setCells w (μ b').b _ news ic) (fun k o' hk=>⟨hk.1,by omega,by omega⟩) (fun k o' hk=> .inr hk) (fun vs=>⟨by simp,by simp⟩)
                (fun s' hl=>⟨b1,b2,by rw [hml]; exact b3,xy cM ic, ?_⟩) (fun s' hl hm=>dr rfl (aY _ _ _)) lq hK
               rw [LH]
               refine xR (xR (fun k x hk=> ?_) ?_) (fun k x hk=> ?_)
               · rw [List.getElem?_take] at hk
                 split at hk
                 · rename_i hkn
                   obtain ⟨ds,d1,d2,q,d3⟩:=b5 k x hk
                   refine ⟨ds,d1,wg d2 (.inr (.inl ?_)),q,d3.mono S hl (Nat.le_refl _)⟩
                   have :(k+1)*Ty.sz S e≤n.toNat*Ty.sz S e:=Nat.mul_le_mul_right _ (by omega)
                   rw [Nat.add_mul,Nat.one_mul] at this
                   omega
                 · cases hk
               · rw [hpl]
                 exact (hnews.later hl).row (B6 ic)
               · rw [List.getElem?_drop] at hk
                 obtain ⟨ds,d1,d2,q,d3⟩:=b5 _ x hk
                 rw [List.length_append,hpl,Nat.add_assoc, ← Nat.add_mul]
                 refine ⟨ds,d1,wg d2 (.inr (.inr ?_)),q,d3.mono S hl (Nat.le_refl _)⟩
                 have :(n.toNat+y.length)*Ty.sz S e≤(n.toNat+y.length+k)*Ty.sz S e:=Nat.mul_le_mul_right _ (by omega)
                 omega
             · omega
           · exact hl.elim
        · exact hl.elim
       | cO=>
        simp only [u_] at hl
        split at hl
        · rename_i y hy
          obtain ⟨hg,rfl,rfl⟩:=gq hl
          have hlim:y.length*au t≤limit:=hg (gd (y.length*au t≤limit)) (by simp)
          have hB:=Bl (.arr e y) (by simp)
          obtain ⟨news,hsrc,hnews⟩:=(EJ h hx (vF y hy)).src hP y4
          have dw:a.eval xs= .slice none 0 0:=hs
          have hold:(Builtin.firstCells (Ty.sz S e) 0 (.slice none 0 0)).run P w.drew= .ok (#[]:Array Value) w.drew:=run_firstCells_none _ _ _ _ _
          rcases CR (olds:= []) (ty:=o.type) hP ht hsrc hold (by simp) (Nat.le_refl 0) (by rw [Nat.zero_add]; exact hlim) with ⟨h0,hr⟩ | ⟨h0,hroom,hr⟩ | ⟨c',te,cells,hcap,iF,hcsz,hpre,hr⟩
          · have :y= []:=List.length_eq_zero_iff.1 h0
            subst this
            rw [← dw] at hr
            refine sH (i:=B) (B:= .arr e []) (V:= .aS B) (L:=⟨0,0,0,0,true⟩) h (hrun hr) hd (bq.refl w _) hB (fun b o' hf=> ?_) (fun hl _ h3=>⟨⟨by simp,fun _=>rfl,Nat.le_refl _,fun j hj=>absurd hj (Nat.not_lt_zero j),fun i x hi=>by simp at hi⟩,⟨⟨none,0,0,dw⟩,fun e' l' hb=> ?_⟩⟩)
             (fun vs hvs=>by rcases hvs with hvs | hvs <;> cases hvs) (fun j hj=> .inl (by simpa [aI,aG] using hj)) hK
            · have h1:=hf.2.1; have h2:=hf.2.2; simp at h2
            · rw [aY] at hb
              rcases hb with hb | hb
              · cases hb
                rw [aY]
                exact ⟨none,0,dw,rfl,rfl,by simp,fun _=>rfl,Nat.le_refl _⟩
              · cases hb
          · omega
          · rw [← dw] at hr
            rw [Nat.zero_add] at iF hr
            exact It (us:= []) (t:=te) (e:=e) (l:=y) (cap:=c') (cells:=cells) (cs:=news) (w1:=w.drew) h hd (Tk.refl S _) hB rfl ⟨rfl,rfl,rfl⟩ (hrun hr) iF hcsz hnews hpre hK
        · exact hl.elim
       | _=>exact hl.elim
     · exact hl.elim
   · exact hl.elim
 · exact hl.elim
theorem S2 {α:Type} (z:α) (l:List α) {i m:Int} (h3:i.toNat+m.toNat≤l.length) (h0:0≤i) (h1:0≤m):(yg z l i m).length=l.length:=by
 unfold yg
 simp only [List.length_append,List.length_take,List.length_drop,List.length_replicate]
 omega
theorem aaf (hP:bf P S au) {t:Nat} {e:Ty} (ht:S.ty t=some (.sl e)) {ty:Nat} {ad:Option Addr} {n cap b o':Nat} {news:List Value} (had:n=0∧news= []∨ad=some ⟨b,o',none⟩)
 {te:Nat} {ie:TypeInfo} {z:Value} (hu:P.underlying t=some (.slice te)) (hz: ∀ w,(zeroValue te).run P w= .ok z w) (hn:(Builtin.zeroCells z.cells n).toList=news) (cM:w.there b o' news.length) (h1: ∀ c ∈ news,c.oneCell'=true):
 (Builtin.clear_ #[t] ty #[.slice ad n cap]).run P w= .ok (.tuple #[]) (w.setCells b o' news):=by
 rcases Nat.eq_zero_or_pos n with h0 | h0
 · subst h0
   have :news= []:=by rw [← hn]; simp [Builtin.zeroCells]
   subst this
   cases ad <;> simp [Builtin.clear_,run_underlying hu,aaH]
 · rcases had with ⟨h2,_⟩ | h2
   · omega
   · subst h2
     have hst:=run_storeCells_cells (P:=P) b o' news 0 w (by simpa using fun j hj=>(cM j hj).1) (by simpa using fun j hj=>(cM j hj).2) h1
     simp only [Nat.add_zero] at hst
     obtain ⟨m,rfl⟩: ∃ m,n=m+1:=⟨n - 1,by omega⟩
     simp [Builtin.clear_,run_underlying hu,hz,hn,hst]
theorem S0 (hP:bf P S au) (h:Inv P S w0 M0 s0 dq env a w μ) (hd: ∀ d,o.dst=some d→d<a.tmps.size) {c:Call} (ho:o.op= .call c) (hc:c.callee= .builtin .clear) {args:List (Sy.V S.C)} {ids:List Nat}
 (hargs:c.args.toList.mapM (aX S env.tm)=some args)
 (hl:(match args,c.argTypes.toList with
  | [v],[t]=>match fB S t with
   | some e=>Ev S e (restrict S env.bx ids) v
   | none=> .fail
  | _,_=> .fail).leaf (V,us)) (hK:Goal P S w0 M0 s0 dq env a o.dst V us K):o.wp P a w K Q:=by
 split at hl
 · rename_i Vs t FU
   split at hl
   · rename_i e het
     have hone: ∃ x,c.args= #[x]∧aX S env.tm x=some Vs:=by
      have hca:c.args=c.args.toList.toArray:=by simp
      cases e:c.args.toList with
      | nil=>rw [e] at hargs; cases hargs
      | cons x r=>
       rw [e] at hargs
       obtain ⟨y,zs,h1,h2,h3⟩:=n4 hargs
       cases h3
       cases r with
       | nil=>exact ⟨x,by rw [hca,e],h1⟩
       | cons x' r'=>
        obtain ⟨y',zs',h4,h5,h6⟩:=n4 h2
        cases h6
     obtain ⟨x,UC,hex⟩:=hone
     obtain ⟨hx,_⟩:=bD h hex
     have ht:=o9 het
     have cZ:c.argTypes= #[t]:=by
      have :c.argTypes=c.argTypes.toList.toArray:=by simp
      rw [this,FU]
     unfold Ev at hl
     split at hl
     · rename_i b i m _
       split at hl
       · rename_i e' l hb
         have hb:=fH hb
         split at hl
         · rename_i l' hl'
           obtain ⟨e1,e2⟩:=eG hl'
           cases e1
           dsimp only at e2
           subst e2
           obtain ⟨rfl,rfl⟩:=bF hl
           obtain ⟨hi0,hm0,FI,ad,cap,F1,Vh,had⟩:=hx.2 e l hb
           obtain ⟨b1,b2,b3,cM,b5⟩:=h.cc b _ hb
           have cg:live S env.bx b:=by unfold live; rw [hb]; trivial
           obtain ⟨te,ie,z,hu,hte,hie,hby,gS,_⟩:=hP.sl ht
           obtain ⟨⟨i',z,h1,h2,h3,h4,h5⟩,_⟩:=hP.ty te _ hte
           obtain ⟨q,hq⟩:=IA (w:=w) hP hte (aO S w0 M0 s0 env.bx μ w)
           obtain ⟨x1,x2,x3⟩:=nQ (P:=P) hP.todm μ env.bx hq
           have LQ:=Ac x2 x1
           rw [← h5] at hq LQ
           have VO: ∀ w,(zeroValue te).run P w= .ok z w:=fun w=>by simp [zeroValue,typeInfo,h1,h3]
           have hzs:z.cells.size=Ty.sz S e:=by have :=hq.length S; simpa using this
           obtain ⟨news,hnews⟩: ∃ news,news=(Builtin.zeroCells z.cells m.toNat).toList:=⟨_,rfl⟩
           have Ll:dy w (aO S w0 M0 s0 env.bx μ w) e (List.replicate m.toNat (Ty.zero S e)) news:=by
            have :=dy.replicate hq m.toNat
            rw [hnews]
            have e3:Builtin.zeroCells z.cells m.toNat=madeCells z.cells (m.toNat*Ty.sz S e):=by
             unfold Builtin.zeroCells madeCells
             rw [hzs]
            rw [e3]; exact this
           have hnl:news.length=m.toNat*Ty.sz S e:=by have :=Ll.1; rwa [List.length_replicate] at this
           have hsum:(i.toNat+m.toNat)*Ty.sz S e=i.toNat*Ty.sz S e+m.toNat*Ty.sz S e:=Nat.add_mul ..
           have hmul:(i.toNat+m.toNat)*Ty.sz S e≤(μ b).cap*Ty.sz S e:=Nat.mul_le_mul_right _ (by omega)
           have ic:w.there (μ b).b ((μ b).o+i.toNat*Ty.sz S e) news.length:=oH cM (by omega) (by omega)
           have hno: ∀ c ∈ news,c.oneCell'=true:=by
            intro c hc
            rw [hnews] at hc
            unfold Builtin.zeroCells at hc
            simp only [Array.toList_map,List.mem_map,Array.toList_range,List.mem_range] at hc
            obtain ⟨k,hk,rfl⟩:=hc
            have hp:0<z.cells.size:=by
             rcases Nat.eq_zero_or_pos z.cells.size with h0 | h0
             · rw [h0,Nat.mul_zero] at hk; omega
             · exact h0
            have hlt:=Nat.mod_lt k hp
            rw [getElem!_pos z.cells _ hlt]
            exact LQ _ (by simp)
           have hrun:(execOp a.eval o).run P w= .ok (.value (.tuple #[])) (w.setCells (μ b).b ((μ b).o+i.toNat*Ty.sz S e) news):=by
            have hr:=aaf (P:=P) (w:=w) (ty:=o.type) hP ht (ad:=ad) (n:=m.toNat) (cap:=cap) (b:=(μ b).b) (o':=(μ b).o+i.toNat*Ty.sz S e) (news:=news) (te:=te) (ie:=ie) (z:=z) (had.imp (fun h0=>⟨h0,List.length_eq_zero_iff.1 (by rw [hnl,h0,Nat.zero_mul])⟩) id) hu VO hnews.symm ic hno
            rw [← F1] at hr
            unfold execOp
            simp only [ho]
            simp [resolve,hc,UC,cZ,invoke,builtin,hr]
           have hcl:=S2 (Ty.zero S e) l FI hi0 hm0
           have hI:=h.write (B':= .arr e (yg (Ty.zero S e) l i m)) hb cg (fun _ e=>nomatch e) (o':=(μ b).o+i.toNat*Ty.sz S e) (vals:=news) (by omega) (by omega) ⟨rfl,rfl,hcl⟩ (fun hl pz=>⟨b1,b2,by rw [hcl]; exact b3,xy cM ic, ?_⟩) (fun ws jx=>by rcases jx with jx | jx <;> cases jx)
           · unfold Oper.wp
             rw [hrun]
             refine hK _ _ μ (hI.put hd (V:= .jq []) (v:= .tuple #[]) ⟨#[],rfl,rfl⟩ (by simp [aI])) ?_
             cases o.dst <;> simp [Act.put]
           · have hpl:(List.take i.toNat l).length=i.toNat:=by rw [List.length_take]; omega
             unfold yg
             refine xR (xR (fun k x hk=> ?_) ?_) (fun k x hk=> ?_)
             · rw [List.getElem?_take] at hk
               split at hk
               · rename_i hkn
                 obtain ⟨ds,d1,d2,q,d3⟩:=b5 k x hk
                 refine ⟨ds,d1,wg d2 (.inr (.inl ?_)),q,d3.mono S hl (Nat.le_refl _)⟩
                 have :(k+1)*Ty.sz S e≤i.toNat*Ty.sz S e:=Nat.mul_le_mul_right _ (by omega)
                 rw [Nat.add_mul,Nat.one_mul] at this
                 omega
               · cases hk
             · rw [hpl]
               exact (Ll.later hl).row (B6 ic)
             · rw [List.getElem?_drop] at hk
               obtain ⟨ds,d1,d2,q,d3⟩:=b5 _ x hk
               rw [List.length_append,hpl,List.length_replicate,Nat.add_assoc, ← Nat.add_mul]
               have U2:(i+m).toNat=i.toNat+m.toNat:=by omega
               rw [U2] at d2
               refine ⟨ds,d1,wg d2 (.inr (.inr ?_)),q,d3.mono S hl (Nat.le_refl _)⟩
               have :(i.toNat+m.toNat)*Ty.sz S e≤(i.toNat+m.toNat+k)*Ty.sz S e:=Nat.mul_le_mul_right _ (by omega)
               omega
         · exact hl.elim
       · exact hl.elim
     · exact hl.elim
   · exact hl.elim
 · exact hl.elim
end
end Go.Sy
namespace Go.Sy
section
variable {P:Program} {S:bg} {au:Nat→Nat}
theorem iS.length {w:World} {s:St} : ∀ {M:St} {cs:List CK} {x:bH S.C cs} {vs:List Value},iS S w s M cs x vs→vs.length=CK.cz S cs
 | _,[],_,_,h=>by rw [h.2]; rfl
 | _,c::cs,_,_,⟨M1,M2,v1,v2,h1,h2,h3,h4,h5⟩=>by subst h2; rw [List.length_append,h3,iS.length h5]; rfl
theorem GA (hS:dm S) {w:World} {s M:St} (kf id:Nat) {cs:List CK} {x:bH S.C cs} {v:Value} (hne: ∀ i,id≤i→i<(bB S id cs x).2.2→i≠kf) (L:Loc) (hv:v= .pointer (some ⟨L.b,L.o,none⟩)) (hn:L.n=CK.cz S cs)
 (h:eD S w s M cs x v):
 ∃ lam,lam kf=L∧id≤(bB S id cs x).2.2∧cl P S w s (fun i=>i=kf∨(id≤i∧i<(bB S id cs x).2.2)) ((kf, .cells (bB S id cs x).1)::(bB S id cs x).2.1) lam M:=by
 obtain ⟨b,o,ds,M',ec,cM,d_,hM,hcs⟩:=h
 rw [ec] at hv
 cases hv
 obtain ⟨le,l2,g2,s2,r2,qf⟩:=Gv (P:=P) hS cs id hcs
 have hlen:=iS.length hcs
 have hne: ∀ u ∈ (bB S id cs x).2.1,u.1≠kf:=fun u hu=>hne _ (g2.gf u hu).1 (g2.gf u hu).2
 let lam:Nat→Loc:=fun i=>if i=kf then L else l2 i
 have e1:lam kf=L:=if_pos rfl
 have e2: ∀ u ∈ (bB S id cs x).2.1,lam u.1=l2 u.1:=fun u hu=>if_neg (hne u hu)
 have hag: ∀ μ bx,Agree ((kf, .cells (bB S id cs x).1)::(bB S id cs x).2.1) lam μ bx→Agree (bB S id cs x).2.1 l2 μ bx:=
  fun μ bx h u hu=>⟨(h u (by simp [hu])).1,(h u (by simp [hu])).2.trans (e2 u hu)⟩
 refine ⟨lam,e1,le,⟨?_, ?_, ?_, ?_, ?_, ?_, ?_⟩⟩
 · intro u hu
   rcases List.mem_cons.1 hu with rfl | hu
   · exact .inl rfl
   · exact .inr (g2.gf u hu)
 · intro u hu u' aW he
   rcases List.mem_cons.1 hu with rfl | hu <;> rcases List.mem_cons.1 aW with rfl | aW
   · rfl
   · exact absurd he.symm (hne u' aW)
   · exact absurd he (hne u hu)
   · exact g2.one u hu u' aW he
 · intro μ bx ha u hu
   rcases List.mem_cons.1 hu with rfl | hu
   · show RB P S w s μ bx (lam kf) (.cells _)
     rw [e1]
     have hr:=qf μ bx (hag μ bx ha)
     exact ⟨s2,by rw [hn, ← hlen]; exact aQ.length P S hr,by rw [hn, ← hlen]; exact cM,ds,d_,hr⟩
   · rw [e2 u hu]
     exact g2.rb μ bx (hag μ bx ha) u hu
 · intro bx u hu hb
   rcases List.mem_cons.1 hu with rfl | hu
   · unfold live; rw [hb]; trivial
   · exact g2.lv bx u hu hb
 · intro b' o'
   rw [hM.1 b' o',g2.aN]
   constructor
   · rintro (h | ⟨u,hu,hf⟩)
     · refine ⟨_,List.mem_cons_self, ?_⟩
       show (lam kf).aN b' o'
       rw [e1]; exact ⟨h.1,h.2.1,by rw [hn, ← hlen]; exact h.2.2⟩
     · exact ⟨u,by simp [hu],by rw [e2 u hu]; exact hf⟩
   · rintro ⟨u,hu,hf⟩
     rcases List.mem_cons.1 hu with rfl | hu
     · have hf:(lam kf).aN b' o':=hf
       rw [e1] at hf; exact .inl ⟨hf.1,hf.2.1,by rw [hlen, ← hn]; exact hf.2.2⟩
     · rw [e2 u hu] at hf; exact .inr ⟨u,hu,hf⟩
 · intro u hu u' aW hn' b' o' hf hf'
   rcases List.mem_cons.1 hu with rfl | hu <;> rcases List.mem_cons.1 aW with rfl | aW
   · exact hn' rfl
   · have hf:(lam kf).aN b' o':=hf
     rw [e1] at hf; rw [e2 u' aW] at hf'
     exact hM.2 b' o' ⟨hf.1,hf.2.1,by rw [hlen, ← hn]; exact hf.2.2⟩ ((g2.aN b' o').2 ⟨u',aW,hf'⟩)
   · have hf':(lam kf).aN b' o':=hf'
     rw [e1] at hf'; rw [e2 u hu] at hf
     exact hM.2 b' o' ⟨hf'.1,hf'.2.1,by rw [hlen, ← hn]; exact hf'.2.2⟩ ((g2.aN b' o').2 ⟨u,hu,hf⟩)
   · rw [e2 u hu] at hf; rw [e2 u' aW] at hf'
     exact g2.dK u hu u' aW hn' b' o' hf hf'
 · intro u hu vs hvs v hv j hj
   rcases List.mem_cons.1 hu with rfl | hu
   · rcases hvs with hvs | hvs
     · cases hvs
       obtain ⟨u',aW,he⟩:=r2 v hv j hj
       exact ⟨u',by simp [aW],he⟩
     · cases hvs
   · obtain ⟨u',aW,he⟩:=g2.ref u hu vs hvs v hv j hj
     exact ⟨u',by simp [aW],he⟩
theorem WZ (hS:dm S) {w:World} {s M:St} (id:Nat) {k:K} {x:k.den S.C} {v:Value} (h:nC P S w s M k x v) {κ:Sy.V S.C×aR S.C×Nat→Tr (Sy.V S.C×aR S.C)} {p:Sy.V S.C×aR S.C} (hl:(MA S id k x κ).leaf p):
 ∃ q,(κ q).leaf p∧id≤q.2.2∧q.2.2≤id+pK k∧ ∃ lam,cl P S w s (fun i=>id≤i∧i<q.2.2) q.2.1 lam M∧(∀ j ∈ aG S q.1, ∃ u ∈ q.2.1,u.1=j)∧
  ∀ μ bx,Agree q.2.1 lam μ bx→bI P S w s μ bx q.1 v:=by
 have qv: ∀ (M:St) (n:Nat),iT M→cl P S w s (fun i=>n≤i∧i<n) ([]:aR S.C) (fun _=>⟨0,0,0,0,true⟩) M:=fun M n hM=>cl.nil hM _
 have obj: ∀ (cs:List CK) (y:bH S.C cs),eD S w s M cs y v→(κ (.ptr id 0,(id, .cells (bB S (id+1) cs y).1)::(bB S (id+1) cs y).2.1,(bB S (id+1) cs y).2.2)).leaf p→
  ∃ q,(κ q).leaf p∧id≤q.2.2∧q.2.2≤id+(1+cs.foldl oneMore 0)∧ ∃ lam,cl P S w s (fun i=>id≤i∧i<q.2.2) q.2.1 lam M∧(∀ j ∈ aG S q.1, ∃ u ∈ q.2.1,u.1=j)∧
  ∀ μ bx,Agree q.2.1 lam μ bx→bI P S w s μ bx q.1 v:=by
  intro cs y hy hl
  obtain ⟨lam,g,le,rv⟩:=vS (P:=P) hS id hy
  refine ⟨_,hl,Nat.le_of_lt le, ?_,lam,g,fun j hj=> ?_,rv⟩
  · have :=t_ cs (id+1) y 0
    show (bB S (id+1) cs y).2.2≤_
    omega
  · simp [aG] at hj
    subst hj
    exact ⟨_,List.mem_cons_self,rfl⟩
 cases k with
 | val c=>
  obtain ⟨h1,h2⟩:=h
  cases c with
  | data t=>
   obtain ⟨hM,n,hn⟩:=h1
   exact ⟨_,hl,Nat.le_refl _,Nat.le_refl _,_,qv M id hM,fun j hj=>by simp [aG] at hj,fun μ bx _=>⟨h2,n,hn⟩⟩
  | bk e=>
   obtain ⟨le,lam,g,s1,r1,rv⟩:=BR (P:=P) hS id h1
   refine ⟨_,hl,Nat.le_succ _,Nat.le_refl _,lam,g,fun j hj=>r1 (.bk id e x) (by simp [cw]) j hj,fun μ bx ha=> ?_⟩
   obtain ⟨c,r,hc,hv,hr⟩:=rv μ bx ha
   cases hr
   rw [qN hc h2]
   exact hv
  | aS e=>
   obtain ⟨le,lam,g,s1,r1,rv⟩:=BR (P:=P) hS id h1
   refine ⟨_,hl,Nat.le_succ _,Nat.le_refl _,lam,g,fun j hj=>r1 (.aS id) (by simp [cw]) j hj,fun μ bx ha=> ?_⟩
   obtain ⟨c,r,hc,hv,hr⟩:=rv μ bx ha
   cases hr
   rw [qN hc h2]
   exact hv
 | obj cs=>exact obj cs x h hl
 | opt cs=>
  rcases hl with ⟨hx,hl⟩ | ⟨y,hx,hl⟩
  · subst hx
    exact ⟨_,hl,Nat.le_refl _,Nat.le_add_right _ _,_,qv M id h.1,fun j hj=>by simp [aG] at hj,fun μ bx _=>h.2⟩
  · subst hx
    exact obj cs y h hl
 | bZ t cs=>exact hl.elim
 | err=>exact ⟨_,hl,Nat.le_refl _,Nat.le_refl _,_,qv M id h.1,fun j hj=>by simp [aG] at hj,fun μ bx _=>h.2⟩
 | bh=>
  have h:oP S w M x v:=h
  obtain ⟨b,R,hb,_⟩:=Iff.mp Iff.rfl h
  obtain ⟨lam,e,g⟩:=Ee (P:=P) (s:=s) id (id+1) (by omega) ⟨b,0,2,0,false⟩ rfl rfl hb h
  refine ⟨_,hl,by show id≤id+2; omega,Nat.le_refl _,lam,g.weaken fun i hi=>by show id≤i∧i<id+2; omega,fun j hj=> ?_,fun μ bx ha=> ?_⟩
  · simp [aG] at hj
    subst hj
    exact ⟨_,List.mem_cons_self,rfl⟩
  · have a1:=(ha (id, .bh (id+1)) (by simp)).2
    show v= .pointer (some ⟨(μ id).b,(μ id).o+0,none⟩)
    rw [hb,show μ id=lam id from a1,e]
 | nil=>exact ⟨_,hl,Nat.le_refl _,Nat.le_refl _,_,qv M id h.1,fun j hj=>by simp [aG] at hj,fun μ bx _=>h.2⟩
 | ro t=>exact ⟨_,hl,Nat.le_refl _,Nat.le_refl _,_,qv M id h.1,fun j hj=>by simp [aG] at hj,fun μ bx _=>h.2⟩
 | fn a r=>exact ⟨_,hl,Nat.le_refl _,Nat.le_refl _,_,qv M id h.1,fun j hj=>by simp [aG] at hj,fun μ bx _=>h.2⟩
 | cF cs=>
  obtain ⟨p',hv,h⟩:=h
  obtain ⟨lam,g,le,rv⟩:=vS (P:=P) hS id h
  refine ⟨_,hl,Nat.le_of_lt le, ?_,lam,g,fun j hj=> ?_,fun μ bx ha=> ?_⟩
  · have :=t_ cs (id+1) x 0
    show (bB S (id+1) cs x).2.2≤id+(1+cs.foldl oneMore 0)
    omega
  · simp [aG] at hj
    subst hj
    exact ⟨_,List.mem_cons_self,rfl⟩
  · have :Value.pointer (some p')= .pointer (some ⟨(μ id).b,(μ id).o+0,none⟩):=rv μ bx ha
    show v= .slice (some ⟨(μ id).b,(μ id).o,none⟩) (CK.cz S cs) (CK.cz S cs)
    rw [hv]
    cases this
    rfl
theorem MB (hS:dm S) {w:World} {s:St} {os:List K} : ∀ (rs:List K) {M:St} (id:Nat) {r:Ks S.C (rs++os)} {vs:List Value} {κ:List (Sy.V S.C)×aR S.C×Nat→Rt S} {p:Sy.V S.C×aR S.C},
 b_ P S w s M (rs++os) r vs→(BT S id rs (kN S rs os r).1 κ).leaf p→
 ∃ q M1 M2 us ws,(κ q).leaf p∧vs=us++ws∧iU M M1 M2∧b_ P S w s M2 os (kN S rs os r).2 ws∧id≤q.2.2∧q.2.2≤id+jy rs∧
  ∃ lam,cl P S w s (fun i=>id≤i∧i<q.2.2) q.2.1 lam M1∧(∀ v ∈ q.1, ∀ j ∈ aG S v, ∃ u ∈ q.2.1,u.1=j)∧ ∀ μ bx,Agree q.2.1 lam μ bx→aQ P S w s μ bx q.1 us
 | [],M,id,r,vs,κ,p,h,hl=>⟨_,fun _ _=>False,M,[],vs,hl,rfl,⟨fun b o=>by simp,fun _ _ h=>h.elim⟩,h,Nat.le_refl _,Nat.le_refl _,fun _=>⟨0,0,0,0,true⟩,cl.nil (fun _ _ h=>h) _,by simp,fun _ _ _=>rfl⟩
 | k::rs,M,id,r,vs,κ,p,⟨M1,M2,v,vr,hM,hvs,h1,h2⟩,hl=>by
  have e1:(kN S (k::rs) os r).1=Ks.cons (Ks.head r) (kN S rs os (Ks.tail r)).1:=rfl
  have e2:(kN S (k::rs) os r).2=(kN S rs os (Ks.tail r)).2:=rfl
  rw [e1] at hl
  simp only [BT] at hl
  rw [show Ks.head (Ks.cons (Ks.head r) (kN S rs os (Ks.tail r)).1)=Ks.head (t:=k) (ts:=rs++os) r from by cases rs <;> rfl,
   show Ks.tail (Ks.cons (Ks.head r) (kN S rs os (Ks.tail r)).1)=(kN S rs os (Ks.tail r)).1 from by cases rs <;> rfl] at hl
  obtain ⟨q1,cv,a1,a2,l1,g1,r1,qe⟩:=WZ (P:=P) hS id h1 hl
  obtain ⟨q2,N1,N2,us,ws,yM,b1,b2,b3,b4,b5,l2,g2,r2,qf⟩:=MB hS rs q1.2.2 h2 cv
  have hsp:iU (fun b o=>M1 b o∨N1 b o) M1 N1:=⟨fun _ _=>Iff.rfl,fun b o x y=>hM.2 b o x (b2.left y)⟩
  obtain ⟨g,hag⟩:=cl.both g1 g2 (fun i hi hi'=>by omega) hsp
  refine ⟨_,fun b o=>M1 b o∨N1 b o,N2,v::us,ws,yM,by rw [hvs,b1]; rfl,⟨fun b o=> ?_,fun b o x y=> ?_⟩,by rw [e2]; exact b3,Nat.le_trans a1 b4, ?_,_,g.weaken (fun i hi=> ?_),fun v' ec j hj=> ?_,fun μ bx ha=> ?_⟩
  · rw [hM.1,b2.1,or_assoc]
  · rcases x with x | x
    · exact hM.2 b o x (b2.right y)
    · exact b2.2 b o x y
  · show q2.2.2≤id+(pK k+jy rs)
    omega
  · show id≤i∧i<q2.2.2
    omega
  · rcases List.mem_cons.1 ec with rfl | ec
    · obtain ⟨u,hu,he⟩:=r1 j hj; exact ⟨u,List.mem_append.2 (.inl hu),he⟩
    · obtain ⟨u,hu,he⟩:=r2 v' ec j hj; exact ⟨u,List.mem_append.2 (.inr hu),he⟩
  · obtain ⟨h3,h4⟩:=hag μ bx ha
    exact ⟨v,us,rfl,qe μ bx h3,qf μ bx h4⟩
end
end Go.Sy
namespace Go.Sy
section
variable {P:Program} {S:bg} {au:Nat→Nat}
def fE:List K→List Value→List Value
 | [],_=> []
 | _::_,[]=> []
 | k::ks,v::vs=>match k with
  | .obj _ | .bh | .bZ _ _=>v::fE ks vs
  | .val _ | .opt _ | .nil | .ro _ | .fn _ _ | .cF _ | .err=>fE ks vs
def Qk (S:bg) (μ:Nat→Loc) (w:World) (s:St) (t:Ty) (cs:List CK) (V:Sy.V S.C) (v:Value):Prop:=
 ∃ b c kb q,V= .split b c∧v= .pointer (some ⟨kb,q,none⟩)∧(μ b).b=kb∧(μ b).o=q+1∧(μ b).n=CK.cz S cs∧(μ c).n=CK.cz S [.data t]∧s kb q∧w.cell? ⟨kb,q,none⟩=some (.pointer (some ⟨(μ c).b,(μ c).o,none⟩))
def sO (S:bg) (μ:Nat→Loc) (w:World) (s:St):List K→List (Sy.V S.C)→List Value→Prop
 | [],_,_=>True
 | k::ks,V::Vs,v::vs=>(∀ t cs,k= .bZ t cs→Qk S μ w s t cs V v)∧(∀ cs,k= .obj cs→ ∃ b,V= .ptr b 0∧v= .pointer (some ⟨(μ b).b,(μ b).o,none⟩)∧(μ b).n=CK.cz S cs)∧(k= .bh→ ∃ b,V= .ptr b 0∧v= .pointer (some ⟨(μ b).b,(μ b).o,none⟩)∧(μ b).o=0∧(μ b).n=2)∧sO S μ w s ks Vs vs
 | _::_,_,_=>False
theorem sO.later {μ:Nat→Loc} {w w':World} {s:St} (h: ∀ b o,s b o→w'.cell? ⟨b,o,none⟩=w.cell? ⟨b,o,none⟩): ∀ {ks:List K} {Vs:List (Sy.V S.C)} {vs:List Value},sO S μ w s ks Vs vs→sO S μ w' s ks Vs vs
 | [],_,_,_=>trivial
 | _::_,[],_,h1=>h1.elim
 | _::_,_::_,[],h1=>h1.elim
 | k::ks,V::Vs,v::vs,⟨h0,h1,h2,h3⟩=>⟨fun t cs e=>by
  obtain ⟨b,c,kb,q,e1,e2,e3,e4,e5,e6,e7,e8⟩:=h0 t cs e
  exact ⟨b,c,kb,q,e1,e2,e3,e4,e5,e6,e7,(h kb q e7).trans e8⟩,h1,h2,sO.later h h3⟩
theorem Bq {bx:Bx S.C} {b:Nat} {B:dZ S.C} (h:ud S B) (hb:bx b=some B):live S bx b:=by
 unfold live
 rw [hb]
 cases B <;> first | exact h.elim | trivial
theorem zq {cs:List CK} {ks:List K} {b off:Nat} {Vs:List (Sy.V S.C)} :dN S (.obj cs::ks) (.ptr b off::Vs)=b::dN S ks Vs:=rfl
theorem MO {k:K} {ks:List K} {V:Sy.V S.C} {Vs:List (Sy.V S.C)} (h: ∀ cs,k≠ .obj cs) (h':k≠ .bh) (h'': ∀ t cs,k≠ .bZ t cs):dN S (k::ks) (V::Vs)=dN S ks Vs:=by
 cases k <;> first | rfl | exact absurd rfl (h _) | exact absurd rfl h' | exact absurd rfl (h'' _ _)
theorem Xj {k:K} {ks:List K} {v:Value} {vs:List Value} (h: ∀ cs,k≠ .obj cs) (h':k≠ .bh) (h'': ∀ t cs,k≠ .bZ t cs):fE (k::ks) (v::vs)=fE ks vs:=by
 cases k <;> first | rfl | exact absurd rfl (h _) | exact absurd rfl h' | exact absurd rfl (h'' _ _)
theorem mR (hS:dm S) {w:World} {s so:St} {μ:Nat→Loc} : ∀ (ps:List K) {M:St} (id:Nat) {Vs:List (Sy.V S.C)} {args:List Value} {x:Ks S.C (outs ps)},sO S μ w so ps Vs args→(dN S ps Vs).Nodup→
 (∀ b ∈ dN S ps Vs, ∀ i,id≤i→i<id+jy (outs ps)→i≠b)→b_ P S w s M (outs ps) x (fE ps args)→
 ∃ lam,cl P S w s (fun i=>i ∈ dN S ps Vs∨(id≤i∧i<id+jy (outs ps))) (fO S id ps Vs x) lam M∧ ∀ b ∈ dN S ps Vs,lam b=μ b∧ ∃ B,ud S B∧(b,B) ∈ fO S id ps Vs x
 | [],M,id,Vs,args,x,_,_,_,h=>⟨fun _=>⟨0,0,0,0,true⟩,by
  have :fO S id [] Vs x= []:=rfl
  rw [this]; exact cl.nil h.1 _,by intro b hb; cases Vs <;> simp [dN] at hb⟩
 | k::ks,M,id,[],_,x,h,_,_,_=>h.elim
 | k::ks,M,id,V::Vs,[],x,h,_,_,_=>h.elim
 | k::ks,M,id,V::Vs,v::args,x,⟨Ug,h0,h0',h1⟩,hnd,hid,h=>by
  by_cases hk: ∃ cs,k= .obj cs
  · obtain ⟨cs,rfl⟩:=hk
    obtain ⟨b,rfl,rfl,hn⟩:=h0 cs rfl
    rw [zq] at hnd hid
    obtain ⟨M1,M2,v',r,hM,hvs,r1,r2⟩:=h
    cases hvs
    obtain ⟨hb,yQ⟩:=List.nodup_cons.1 hnd
    have hsum:jy (outs (.obj cs::ks))=1+cs.foldl oneMore 0+jy (outs ks):=rfl
    have hmk:=t_ cs id (Ks.head (t:= .obj cs) x) 0
    rw [hsum] at hid
    obtain ⟨l1,e1,zg,g1⟩:=GA (P:=P) hS b id (cs:=cs) (x:=Ks.head (t:= .obj cs) x) (fun i hi hi'=>hid b (by simp) i hi (by omega)) (μ b) rfl hn r1
    obtain ⟨l2,g2,p2⟩:=mR hS ks (bB S id cs (Ks.head (t:= .obj cs) x)).2.2 (x:=Ks.tail (t:= .obj cs) x) h1 yQ (fun b' hb' i hi hi'=>hid b' (by simp [hb']) i (by omega) (by omega)) r2
    obtain ⟨g,hag⟩:=cl.both g1 g2 (fun i hi hi'=>by
     rcases hi with rfl | hi
     · rcases hi' with hi' | hi'
       · exact hb hi'
       · exact hid i (by simp) i (by omega) (by omega) rfl
     · rcases hi' with hi' | hi'
       · exact hid i (by simp [hi']) i (by omega) (by omega) rfl
       · omega) hM
    have hput:fO S id (.obj cs::ks) (.ptr b 0::Vs) x=((b, .cells (bB S id cs (Ks.head (t:= .obj cs) x)).1)::(bB S id cs (Ks.head (t:= .obj cs) x)).2.1)++fO S (bB S id cs (Ks.head (t:= .obj cs) x)).2.2 ks Vs (Ks.tail (t:= .obj cs) x):=rfl
    rw [hput]
    refine ⟨_,g.weaken fun i hi=> ?_,fun b' hb'=> ?_⟩
    · rw [zq,hsum]
      rcases hi with (rfl | hi) | (hi | hi)
      · exact .inl (by simp)
      · exact .inr (by omega)
      · exact .inl (by simp [hi])
      · exact .inr (by omega)
    · rw [zq] at hb'
      rcases List.mem_cons.1 hb' with rfl | hb'
      · refine ⟨?_,_,(by exact trivial),List.mem_append.2 (.inl List.mem_cons_self)⟩
        unfold both
        rw [if_pos (List.mem_map.2 ⟨_,List.mem_cons_self,rfl⟩)]
        exact e1
      · obtain ⟨p3,vs,p0,p4⟩:=p2 b' hb'
        refine ⟨?_,vs,p0,List.mem_append.2 (.inr p4)⟩
        unfold both
        rw [if_neg]
        · exact p3
        · intro hm
          obtain ⟨u,hu,he⟩:=List.mem_map.1 hm
          rcases g1.gf u hu with h | h
          · rw [he] at h; exact hb (h▸hb')
          · rw [he] at h; exact hid b' (by simp [hb']) b' (by omega) (by omega) rfl
  · have hk: ∀ cs,k≠ .obj cs:=fun cs e=>hk ⟨cs,e⟩
    by_cases hkb:k= .bh
    · subst hkb
      obtain ⟨b,rfl,rfl,hn0,hn⟩:=h0' rfl
      have hov:dN S (.bh::ks) (.ptr b 0::Vs)=b::dN S ks Vs:=rfl
      rw [hov] at hnd hid
      obtain ⟨M1,M2,v',r,hM,hvs,r1,r2⟩:=h
      cases hvs
      obtain ⟨hb,yQ⟩:=List.nodup_cons.1 hnd
      have hsum:jy (outs (.bh::ks))=2+jy (outs ks):=rfl
      rw [hsum] at hid
      obtain ⟨l1,e1,g1⟩:=Ee (P:=P) (s:=s) b id (fun e=>hid b (by simp) id (Nat.le_refl _) (by omega) e) (μ b) hn0 hn (x:=Ks.head (t:= .bh) x) rfl r1
      obtain ⟨l2,g2,p2⟩:=mR hS ks (id+1) (x:=Ks.tail (t:= .bh) x) h1 yQ (fun b' hb' i hi hi'=>hid b' (by simp [hb']) i (by omega) (by omega)) r2
      obtain ⟨g,hag⟩:=cl.both g1 g2 (fun i hi hi'=>by
       rcases hi with rfl | rfl
       · rcases hi' with hi' | hi'
         · exact hb hi'
         · exact hid i (by simp) i (by omega) (by omega) rfl
       · rcases hi' with hi' | hi'
         · exact hid i (by simp [hi']) i (by omega) (by omega) rfl
         · omega) hM
      have hput:fO S id (.bh::ks) (.ptr b 0::Vs) x= [(b, .bh id),(id, .buf (Ks.head (t:= .bh) x))]++fO S (id+1) ks Vs (Ks.tail (t:= .bh) x):=rfl
      rw [hput]
      refine ⟨_,g.weaken fun i hi=> ?_,fun b' hb'=> ?_⟩
      · rw [hov,hsum]
        rcases hi with (rfl | rfl) | (hi | hi)
        · exact .inl (by simp)
        · exact .inr (by omega)
        · exact .inl (by simp [hi])
        · exact .inr (by omega)
      · rw [hov] at hb'
        rcases List.mem_cons.1 hb' with rfl | hb'
        · refine ⟨?_,_,(by exact trivial),List.mem_append.2 (.inl List.mem_cons_self)⟩
          unfold both
          rw [if_pos (List.mem_map.2 ⟨_,List.mem_cons_self,rfl⟩)]
          exact e1
        · obtain ⟨p3,vs,p0,p4⟩:=p2 b' hb'
          refine ⟨?_,vs,p0,List.mem_append.2 (.inr p4)⟩
          unfold both
          rw [if_neg]
          · exact p3
          · intro hm
            obtain ⟨u,hu,he⟩:=List.mem_map.1 hm
            rcases g1.gf u hu with h | h
            · rw [he] at h; exact hb (h▸hb')
            · rw [he] at h; exact hid b' (by simp [hb']) b' (by omega) (by omega) rfl
    by_cases lz: ∃ t cs,k= .bZ t cs
    · obtain ⟨t,cs,rfl⟩:=lz
      obtain ⟨b,c,kb,q,rfl,rfl,gS,jb,UF,UL,_,hcell⟩:=Ug t cs rfl
      have hov:dN S (.bZ t cs::ks) (.split b c::Vs)=c::b::dN S ks Vs:=rfl
      rw [hov] at hnd hid
      obtain ⟨M1,M2,v',r,hM,hvs,r1,r2⟩:=h
      cases hvs
      obtain ⟨b0,o0,p,Ma,Mb,q1,q2,q3,q4,q5⟩:=r1
      cases q1
      have hp:Value.pointer (some p)= .pointer (some ⟨(μ c).b,(μ c).o,none⟩):=by
       have :=(q2 0 _ rfl).1
       rw [Nat.add_zero,hcell] at this
       exact (Option.some.inj this).symm
      obtain ⟨Bo,yQ⟩:=List.nodup_cons.1 hnd
      obtain ⟨Lh,Vk⟩:=List.nodup_cons.1 yQ
      have hsum:jy (outs (.bZ t cs::ks))=2+cs.foldl oneMore 0+jy (outs ks):=rfl
      have hmk:=t_ cs id (Ks.head (t:= .bZ t cs) x).2 0
      rw [hsum] at hid
      obtain ⟨l0,e0,le0,g0⟩:=GA (P:=P) hS c id (cs:= [.data t]) (x:=(Ks.head (t:= .bZ t cs) x).1) (fun i hi hi'=>hid c (by simp) i hi (by have :i<id:=hi'; omega)) (μ c) hp UL q4
      obtain ⟨l1,e1,zg,g1⟩:=GA (P:=P) hS b id (cs:=cs) (x:=(Ks.head (t:= .bZ t cs) x).2) (fun i hi hi'=>hid b (by simp) i hi (by omega)) (μ b) (by rw [gS,jb]) UF q5
      obtain ⟨l2,g2,p2⟩:=mR hS ks (bB S id cs (Ks.head (t:= .bZ t cs) x).2).2.2 (x:=Ks.tail (t:= .bZ t cs) x) h1 Vk (fun b' hb' i hi hi'=>hid b' (by simp [hb']) i (by omega) (by omega)) r2
      obtain ⟨KU,ack⟩:=cl.both g0 g1 (fun i hi hi'=>by
       have hi:i=c:=hi.elim (fun e=>e) fun h=>by
        have h1:id≤i:=h.1
        have h2:i<id:=h.2
        omega
       subst hi
       rcases hi' with hi' | hi'
       · subst hi'; exact Bo (by simp)
       · exact hid i (by simp) i (by omega) (by omega) rfl) q3
      obtain ⟨g,hag⟩:=cl.both KU g2 (fun i hi hi'=>by
       rcases hi with (rfl | hi) | (rfl | hi)
       · rcases hi' with hi' | hi'
         · exact Bo (by simp [hi'])
         · exact hid i (by simp) i (by omega) (by omega) rfl
       · have h1:id≤i:=hi.1
         have h2:i<id:=hi.2
         omega
       · rcases hi' with hi' | hi'
         · exact Lh hi'
         · exact hid i (by simp) i (by omega) (by omega) rfl
       · rcases hi' with hi' | hi'
         · exact hid i (by simp [hi']) i (by omega) (by omega) rfl
         · omega) hM
      have hput:fO S id (.bZ t cs::ks) (.split b c::Vs) x=(((c, .cells (bB S id [.data t] (Ks.head (t:= .bZ t cs) x).1).1)::(bB S id [.data t] (Ks.head (t:= .bZ t cs) x).1).2.1)++((b, .cells (bB S id cs (Ks.head (t:= .bZ t cs) x).2).1)::(bB S id cs (Ks.head (t:= .bZ t cs) x).2).2.1))++fO S (bB S id cs (Ks.head (t:= .bZ t cs) x).2).2.2 ks Vs (Ks.tail (t:= .bZ t cs) x):=rfl
      rw [hput]
      refine ⟨_,g.weaken fun i hi=> ?_,fun b' hb'=> ?_⟩
      · rw [hov,hsum]
        rcases hi with ((rfl | hi) | (rfl | hi)) | (hi | hi)
        · exact .inl (by simp)
        · have h1:id≤i:=hi.1
          have h2:i<id:=hi.2
          omega
        · exact .inl (by simp)
        · exact .inr (by omega)
        · exact .inl (by simp [hi])
        · exact .inr (by omega)
      · rw [hov] at hb'
        have acp: ∀ (dR oI:aR S.C) (la lb:Nat→Loc) (i:Nat) (B:dZ S.C),(i,B) ∈ dR→both dR la lb i=la i:=fun dR oI la lb i B hi=>if_pos (List.mem_map.2 ⟨_,hi,rfl⟩)
        rcases List.mem_cons.1 hb' with rfl | hb'
        · refine ⟨?_,_,(by exact trivial),List.mem_append.2 (.inl (List.mem_append.2 (.inl List.mem_cons_self)))⟩
          unfold both
          rw [if_pos (List.mem_map.2 ⟨_,List.mem_append.2 (.inl List.mem_cons_self),rfl⟩),if_pos (List.mem_map.2 ⟨_,List.mem_cons_self,rfl⟩)]
          exact e0
        · rcases List.mem_cons.1 hb' with rfl | hb'
          · refine ⟨?_,_,(by exact trivial),List.mem_append.2 (.inl (List.mem_append.2 (.inr List.mem_cons_self)))⟩
            unfold both
            rw [if_pos (List.mem_map.2 ⟨_,List.mem_append.2 (.inr List.mem_cons_self),rfl⟩),if_neg]
            · exact e1
            · intro hm
              obtain ⟨u,hu,he⟩:=List.mem_map.1 hm
              rcases g0.gf u hu with h | h
              · rw [he] at h; exact Bo (by rw [← h]; simp)
              · rw [he] at h
                have h1:id≤b':=h.1
                have h2:b'<id:=h.2
                omega
          · obtain ⟨p3,vs,p0,p4⟩:=p2 b' hb'
            refine ⟨?_,vs,p0,List.mem_append.2 (.inr p4)⟩
            unfold both
            rw [if_neg]
            · exact p3
            · intro hm
              obtain ⟨u,hu,he⟩:=List.mem_map.1 hm
              rcases KU.gf u hu with (h | h) | (h | h)
              · rw [he] at h; exact Bo (by rw [← h]; simp [hb'])
              · rw [he] at h
                have h1:id≤b':=h.1
                have h2:b'<id:=h.2
                omega
              · rw [he] at h; exact Lh (h▸hb')
              · rw [he] at h; exact hid b' (by simp [hb']) b' (by omega) (by omega) rfl
    have lz: ∀ t cs,k≠ .bZ t cs:=fun t cs e=>lz ⟨t,cs,e⟩
    rw [MO hk hkb lz] at hnd hid ⊢
    rw [Xj hk hkb lz] at h
    cases k with
    | bh=>exact absurd rfl hkb
    | obj cs=>exact absurd rfl (hk cs)
    | bZ t cs=>exact absurd rfl (lz t cs)
    | val c=>exact mR hS ks id h1 hnd hid h
    | opt cs=>exact mR hS ks id h1 hnd hid h
    | nil=>exact mR hS ks id h1 hnd hid h
    | ro t=>exact mR hS ks id h1 hnd hid h
    | fn a r=>exact mR hS ks id h1 hnd hid h
    | cF cs=>exact mR hS ks id h1 hnd hid h
    | err=>exact mR hS ks id h1 hnd hid h
theorem MJ {bx:Bx S.C} {b:Nat} {ws vs:List (Sy.V S.C)} {cs:List CK} {y':bH S.C cs} {u':aR S.C} (hb:bx b=some (.cells ws)) (hy':dY S (aC bx b (some .dead)) cs vs=some (y',u'))
 (k1:Tk S bx (aD bx ((b, .dead)::u'))):aD bx ((b, .dead)::u') b=some .dead:=by
 have hpre:Tk S (aC bx b (some .dead)) (aD (aC bx b (some .dead)) u'):=by
  intro i
  by_cases e:i=b
  · -- from the whole step
    subst e
    rcases k1 i with e1 | ⟨e1,_⟩ | ⟨e',l',e1,e2⟩
    · -- unchanged: then it was cells, but the parts' taking leaves cells alone
      exfalso
      rw [hb] at e1
      have : ∀ (cs:List CK) (bx:Bx S.C) (vs:List (Sy.V S.C)) (x:bH S.C cs) (us:aR S.C),dY S bx cs vs=some (x,us)→ ∀ u ∈ us,u.2= .dead∨ ∃ e l,u.2= .bM e l:=by
       intro cs
       induction cs with
       | nil=>intro bx vs x us h; cases h; simp
       | cons c cs ih=>
        intro bx vs x us h
        simp only [dY] at h
        obtain ⟨⟨p,q⟩,h1,h⟩:=Option.bind_eq_some_iff.1 h
        obtain ⟨⟨p',q'⟩,h2,h⟩:=Option.bind_eq_some_iff.1 h
        cases h
        intro u hu
        rcases List.mem_append.1 hu with hu | hu
        · cases c with
          | data t=>
           simp only [ez] at h1
           obtain ⟨z,_,h1⟩:=Option.bind_eq_some_iff.1 h1
           cases h1
           obtain ⟨v,_,hv⟩:=List.mem_flatMap.1 hu
           obtain ⟨e,l,he,_⟩:=dj.cY bx v u hv
           exact .inr ⟨e,l,he⟩
          | bk e=>
           simp only [ez] at h1
           split at h1
           · split at h1
             · obtain ⟨z,_,h1⟩:=Option.bind_eq_some_iff.1 h1
               cases h1
               simp at hu; subst hu; exact .inl rfl
             · cases h1
           · cases h1; simp at hu
           · cases h1
          | aS e=>
           simp only [ez] at h1
           split at h1
           · split at h1
             · obtain ⟨z,_,h1⟩:=Option.bind_eq_some_iff.1 h1
               cases h1
               simp at hu; subst hu; exact .inl rfl
             · cases h1
           · split at h1
             · obtain ⟨z,_,h1⟩:=Option.bind_eq_some_iff.1 h1
               cases h1
               simp at hu; subst hu; exact .inl rfl
             · cases h1
           · cases h1; simp at hu
           · cases h1
        · exact ih _ _ _ _ h2 u hu
      have aW:=this _ _ _ _ _ hy'
      have : ∀ (us:aR S.C) (bx:Bx S.C),(∀ u ∈ us,u.2= .dead∨ ∃ e l,u.2= .bM e l)→(∀ ws,bx i≠some (.cells ws))→ ∀ ws,aD bx us i≠some (.cells ws):=by
       intro us
       induction us with
       | nil=>intro bx _ h; exact h
       | cons u us ih=>
        intro bx hu h
        refine ih _ (fun u' aW=>hu u' (by simp [aW])) fun ws=> ?_
        by_cases e:i=u.1
        · rw [e,aY]
          rcases hu u (by simp) with h | ⟨_,_,h⟩ <;> rw [h] <;> simp
        · rw [br _ _ e]; exact h ws
      exact this u' (aC bx i (some .dead)) aW (by intro ws; rw [aY]; simp) _ e1
    · exact .inl (e1.trans (aY _ _ _).symm)
    · rw [hb] at e1; cases e1
  · rcases k1 i with e1 | ⟨e1,h2⟩ | ⟨e',l',e1,e2⟩
    · exact .inl (e1.trans (br _ _ e).symm)
    · exact .inr (.inl ⟨e1,(eI S (br _ _ e)).2 h2⟩)
    · exact .inr (.inr ⟨e',l',(br _ _ e).trans e1,e2⟩)
 exact qW hpre (aY _ _ _)
theorem abg {fs:List (iy S)} {bx:Bx S.C} {cs:List CK} {b:Nat} :cq S fs bx (.obj cs) (.ptr b 0)=gY S bx cs b:=by
 simp only [cq,gY]
 cases hb:bx b with
 | none=>rfl
 | some B=>cases B <;> rfl
theorem Pc {bx:Bx S.C} {cs:List CK} {b:Nat} {y:bH S.C cs} {us:aR S.C} (h:gY S bx cs b=some (y,us)) (hk:Tk S bx (aD bx us)):
 (∃ ws,bx b=some (.cells ws)∧ws.length=CK.cz S cs)∧aD bx us b=some .dead:=by
 unfold gY at h
 split at h
 · rename_i ws hb
   cases hw:Nat.beq ws.length (CK.cz S cs) with
   | false=>rw [hw] at h; cases h
   | true=>
    rw [hw,cond_true] at h
    obtain ⟨⟨y',u'⟩,hy',h⟩:=Option.bind_eq_some_iff.1 h
    cases h
    exact ⟨⟨ws,hb,Nat.eq_of_beq_eq_true hw⟩,MJ hb hy' hk⟩
 · cases h
theorem Pa {env:Env S.C} {w:World} {s s':St} {μ:Nat→Loc} {fs:List (iy S)} (hn: ∀ i B,env.bx i=some B→RB P S w s μ env.bx (μ i) B):
 ∀ (ks:List K) {bx:Bx S.C} (hk:Tk S env.bx bx) (hks: ∀ (ks:List K) (bx:Bx S.C) (hk:Tk S env.bx bx) (Vs:List (Sy.V S.C)) (args:List Value) (x:Ks S.C ks) (us:aR S.C),fT P S w s' μ env.bx Vs args→eC S fs bx ks Vs=some (x,us)→Tk S bx (aD bx us))
  {Vs:List (Sy.V S.C)} {args:List Value} {x:Ks S.C ks} {us:aR S.C},fT P S w s' μ env.bx Vs args→eC S fs bx ks Vs=some (x,us)→
 sO S μ w s' ks Vs args∧(dN S ks Vs).Nodup∧ ∀ b ∈ dN S ks Vs,(∃ B,ud S B∧bx b=some B)∧aD bx us b=some .dead
 | [],bx,hk,hks,[],args,x,us,h,hx=>⟨trivial,by simp [dN],by simp [dN]⟩
 | [],_,_,_,_::_,_,_,_,_,hx=>by cases hx
 | _::_,_,_,_,[],_,_,_,_,hx=>by cases hx
 | k::ks,bx,hk,hks,V::Vs,args,x,us,⟨v,r,hargs,h1,h2⟩,hx=>by
  subst hargs
  simp only [eC] at hx
  obtain ⟨⟨y,u1⟩,hy,hx⟩:=Option.bind_eq_some_iff.1 hx
  obtain ⟨⟨z,u2⟩,hz,hx⟩:=Option.bind_eq_some_iff.1 hx
  cases hx
  have hone:eC S fs bx [k] [V]=some (Ks.cons (t:=k) (ts:= []) y (),u1++ []):=by
   simp only [eC]
   rw [hy]; rfl
  have k1:=hks [k] bx hk [V] [v] _ _ ⟨v,[],rfl,h1,rfl⟩ hone
  rw [List.append_nil] at k1
  have k2:=hks ks _ (hk.trans S k1) Vs r _ _ h2 hz
  obtain ⟨o1,o2,o3⟩:=Pa hn ks (hk.trans S k1) hks h2 hz
  by_cases yR: ∃ cs,k= .obj cs
  · obtain ⟨cs,rfl⟩:=yR
    simp only [cq] at hy
    split at hy
    · rename_i b off
      split at hy
      · rename_i ws hb
        cases hw:Nat.beq off 0&&Nat.beq ws.length (CK.cz S cs) with
        | false=>rw [hw] at hy; cases hy
        | true=>
         rw [hw,cond_true] at hy
         rw [Bool.and_eq_true] at hw
         have w1:=Nat.eq_of_beq_eq_true hw.1
         have w2:=Nat.eq_of_beq_eq_true hw.2
         subst w1
         obtain ⟨⟨y',u'⟩,hy',hy⟩:=Option.bind_eq_some_iff.1 hy
         cases hy
         have hlb:live S bx b:=by unfold live; rw [hb]; trivial
         have hb0:env.bx b=some (.cells ws):=(hk.eo hlb).symm.trans hb
         have hrb:=hn b _ hb0
         have lu:aD bx ((b, .dead)::u') b=some .dead:=MJ hb hy' k1
         have hv:v= .pointer (some ⟨(μ b).b,(μ b).o+0,none⟩):=h1
         refine ⟨⟨(fun t' cs' e=>nomatch e),fun cs' e=> ?_,(fun e=>nomatch e),o1⟩, ?_, ?_⟩
         · cases e
           exact ⟨b,rfl,hv,by rw [hrb.2.1,w2]⟩
         · rw [zq]
           refine List.nodup_cons.2 ⟨fun hm=> ?_,o2⟩
           obtain ⟨oM,hh,hw'⟩:=(o3 b hm).1
           rw [lu] at hw'
           cases hw'
           exact hh
         · rw [zq,jL]
           intro b' hb'
           rcases List.mem_cons.1 hb' with rfl | hb'
           · exact ⟨⟨_,(by exact trivial),hb⟩,qW k2 lu⟩
           · obtain ⟨⟨oM,hh,hw'⟩,h'⟩:=o3 b' hb'
             have hl':live S (aD bx ((b, .dead)::u')) b':=Bq hh hw'
             exact ⟨⟨oM,hh,by rw [← k1.eo hl']; exact hw'⟩,h'⟩
      · cases hy
    · cases hy
  · have yR: ∀ cs,k≠ .obj cs:=fun cs e=>yR ⟨cs,e⟩
    by_cases hkb:k= .bh
    · subst hkb
      simp only [cq] at hy
      split at hy
      · split at hy
        · split at hy
          · rename_i b off _ j hb _ l hj
            cases hw:Nat.beq off 0 with
            | false=>rw [hw] at hy; cases hy
            | true=>
             rw [hw] at hy
             cases hy
             have ho:=Nat.eq_of_beq_eq_true hw
             subst ho
             have hne:j≠b:=fun e=>by subst e; rw [hb] at hj; cases hj
             have hlb:live S bx b:=by unfold live; rw [hb]; trivial
             have hb0:env.bx b=some (.bh j):=(hk.eo hlb).symm.trans hb
             have hrb:=hn b _ hb0
             have lu:aD bx [(b, .dead),(j, .dead)] b=some .dead:=(br _ _ hne.symm).trans (aY _ _ _)
             have hv:v= .pointer (some ⟨(μ b).b,(μ b).o+0,none⟩):=h1
             have hov:dN S (.bh::ks) (.ptr b 0::Vs)=b::dN S ks Vs:=rfl
             refine ⟨⟨(fun t' cs' e=>nomatch e),(fun cs' e=>nomatch e),fun _=>⟨b,rfl,hv,hrb.1,hrb.2.1⟩,o1⟩, ?_, ?_⟩
             · rw [hov]
               refine List.nodup_cons.2 ⟨fun hm=> ?_,o2⟩
               obtain ⟨oM,hh,hw'⟩:=(o3 b hm).1
               rw [lu] at hw'
               cases hw'
               exact hh
             · rw [hov,jL]
               intro b' hb'
               rcases List.mem_cons.1 hb' with rfl | hb'
               · exact ⟨⟨_,(by exact trivial),hb⟩,qW k2 lu⟩
               · obtain ⟨⟨oM,hh,hw'⟩,h'⟩:=o3 b' hb'
                 have hl':live S (aD bx [(b, .dead),(j, .dead)]) b':=Bq hh hw'
                 exact ⟨⟨oM,hh,by rw [← k1.eo hl']; exact hw'⟩,h'⟩
          · cases hy
        · cases hy
      · cases hy
    by_cases lz: ∃ t cs,k= .bZ t cs
    · obtain ⟨t,cs,rfl⟩:=lz
      simp only [cq] at hy
      split at hy
      · rename_i b c
        obtain ⟨⟨ya,ua⟩,F2,hy⟩:=Option.bind_eq_some_iff.1 hy
        obtain ⟨⟨yb,ub⟩,F3,hy⟩:=Option.bind_eq_some_iff.1 hy
        cases hy
        dsimp only at F2 F3
        have LN: ∀ (bx:Bx S.C) (cs:List CK) (i:Nat) (y:bH S.C cs) (u:aR S.C),Tk S env.bx bx→gY S bx cs i=some (y,u)→Tk S bx (aD bx u):=fun bx cs i y u U4 h0=>by
         have :=hks [.obj cs] bx U4 [.ptr i 0] [.pointer (some ⟨(μ i).b,(μ i).o+0,none⟩)] (Ks.cons (t:= .obj cs) (ts:= []) y ()) (u++ []) ⟨_,_,rfl,rfl,rfl⟩ (by
          simp only [eC]
          rw [abg,h0]; rfl)
         rwa [List.append_nil] at this
        have ka:=LN bx _ _ _ _ hk F2
        have kb':=LN _ _ _ _ _ (hk.trans S ka) F3
        obtain ⟨⟨wa,hca,hla⟩,hda⟩:=Pc F2 ka
        obtain ⟨⟨wb,hcb,hlb⟩,hdb⟩:=Pc F3 kb'
        have Vb:live S (aD bx ua) b:=by unfold live; rw [hcb]; trivial
        have FA:bx b=some (.cells wb):=(ka.eo Vb).symm.trans hcb
        have Vd:live S bx c:=by unfold live; rw [hca]; trivial
        have Vc:live S bx b:=by unfold live; rw [FA]; trivial
        have hne:c≠b:=fun e=>by subst e; rw [hda] at hcb; cases hcb
        have hc0:env.bx c=some (.cells wa):=(hk.eo Vd).symm.trans hca
        have hb0:env.bx b=some (.cells wb):=(hk.eo Vc).symm.trans FA
        obtain ⟨kb,q,e1,e2,e3,e4⟩:=h1
        have cZ:=e2 0 _ rfl
        rw [Nat.add_zero] at cZ
        have hov:dN S (.bZ t cs::ks) (.split b c::Vs)=c::b::dN S ks Vs:=rfl
        have Lo:aD bx (ua++ub) c=some .dead:=by rw [jL]; exact qW kb' hda
        have Ln:aD bx (ua++ub) b=some .dead:=by rw [jL]; exact hdb
        have hout: ∀ i ∈ dN S ks Vs,aD bx (ua++ub) i≠some .dead:=fun i hi he=>by
         obtain ⟨oM,hh,hw'⟩:=(o3 i hi).1
         rw [he] at hw'
         cases hw'
         exact hh
        refine ⟨⟨fun t' cs' e=> ?_,(fun cs' e=>nomatch e),(fun e=>nomatch e),o1⟩, ?_, ?_⟩
        · cases e
          exact ⟨b,c,kb,q,rfl,e1,e3,e4,by rw [(hn b _ hb0).2.1,hlb],by rw [(hn c _ hc0).2.1,hla],cZ.2,cZ.1⟩
        · rw [hov]
          refine List.nodup_cons.2 ⟨fun hm=> ?_,List.nodup_cons.2 ⟨fun hm=>hout b hm Ln,o2⟩⟩
          rcases List.mem_cons.1 hm with e | hm
          · exact hne e
          · exact hout c hm Lo
        · rw [hov,jL]
          intro b' hb'
          rcases List.mem_cons.1 hb' with rfl | hb'
          · exact ⟨⟨_,(by exact trivial),hca⟩,qW k2 Lo⟩
          · rcases List.mem_cons.1 hb' with rfl | hb'
            · exact ⟨⟨_,(by exact trivial),FA⟩,qW k2 Ln⟩
            · obtain ⟨⟨oM,hh,hw'⟩,h'⟩:=o3 b' hb'
              have hl':live S (aD bx (ua++ub)) b':=Bq hh hw'
              exact ⟨⟨oM,hh,by rw [← k1.eo hl']; exact hw'⟩,h'⟩
      · cases hy
    have lz: ∀ t cs,k≠ .bZ t cs:=fun t cs e=>lz ⟨t,cs,e⟩
    rw [MO yR hkb lz,jL]
    refine ⟨⟨fun t cs e=>absurd e (lz t cs),fun cs e=>absurd e (yR cs),fun e=>absurd e hkb,o1⟩,o2,fun b' hb'=> ?_⟩
    obtain ⟨⟨oM,hh,hw'⟩,h'⟩:=o3 b' hb'
    have hl':live S (aD bx u1) b':=Bq hh hw'
    exact ⟨⟨oM,hh,by rw [← k1.eo hl']; exact hw'⟩,h'⟩
end
end Go.Sy
namespace Go.Sy
section
variable {P:Program} {S:bg} {au:Nat→Nat}
variable {w0:World} {M0 s0:St} {dq:List Deferred} {env:Env S.C} {a:Act} {w:World} {μ:Nat→Loc}
theorem bI.mono {w w':World} {s s':St} {μ:Nat→Loc} {bx:Bx S.C} (hl:bX w s w' s') {V:V S.C} {v:Value} (h:bI P S w s μ bx V v):bI P S w' s' μ bx V v:=by
 cases V with
 | d t x=>exact cy.mono S hl h
 | bk b e l=>exact ⟨cy.mono S hl h.1,h.2⟩
 | dL t x=>exact nD.mono S hl h
 | fv a r g=>exact nB.mono P S hl h
 | split b c=>obtain ⟨k,q,h1,h2,h3⟩:=h; exact ⟨k,q,h1,h2.later hl,h3⟩
 | mS c=>obtain ⟨k,q,h1,h2⟩:=h; exact ⟨k,q,h1,h2.later hl⟩
 | _=>exact h
theorem aQ.mono {w w':World} {s s':St} {μ:Nat→Loc} {bx:Bx S.C} (hl:bX w s w' s'): ∀ {vs:List (V S.C)} {cs:List Value},aQ P S w s μ bx vs cs→aQ P S w' s' μ bx vs cs
 | [],_,h=>h
 | _::_,_,⟨c,r,h1,h2,h3⟩=>⟨c,r,h1,h2.mono hl,aQ.mono hl h3⟩
theorem RB.mono {w:World} {s s':St} {μ:Nat→Loc} {bx:Bx S.C} (hl:bX w s w s') {L:Loc} {B:dZ S.C} (h:RB P S w s μ bx L B):RB P S w s' μ bx L B:=by
 cases B with
 | cells vs=>
  obtain ⟨h1,h2,h3,cs,h4,h5⟩:=h
  exact ⟨h1,h2,h3,cs,h4,h5.mono hl⟩
 | bU vs=>
  obtain ⟨h1,cs,h4,h5⟩:=h
  exact ⟨h1,cs,h4.later hl,h5.mono hl⟩
 | arr e l=>
  obtain ⟨h1,h2,h3,h4,h5⟩:=h
  refine ⟨h1,h2,h3,h4,fun i x hi=> ?_⟩
  obtain ⟨ds,d1,d2,n,d3⟩:=h5 i x hi
  exact ⟨ds,d1,d2,n,d3.mono S hl (Nat.le_refl _)⟩
 | bM e l=>
  obtain ⟨h2,h3,h5⟩:=h
  refine ⟨h2,h3,fun i x hi=> ?_⟩
  obtain ⟨ds,d1,d2,n,d3⟩:=h5 i x hi
  exact ⟨ds,d1,d2.later hl,n,d3.mono S hl (Nat.le_refl _)⟩
 | tail=>exact h
 | dead=>trivial
 | bh j=>exact h
 | buf l=>exact h
def DF (us:aR S.C):Prop:= ∀ u ∈ us,u.2= .dead∨ ∃ e l,u.2= .bM e l
theorem DF.append {us vs:aR S.C} (h:DF us) (h':DF vs):DF (us++vs):=fun u hu=>(List.mem_append.1 hu).elim (h u) (h' u)
theorem DF.fz {bx:Bx S.C} {us:aR S.C} (h:dj bx us):DF us:=fun u hu=>by obtain ⟨e,l,he,_⟩:=h u hu; exact .inr ⟨e,l,he⟩
theorem DF.ez {bx:Bx S.C} {c:CK} {vs:List (Sy.V S.C)} {x:c.den S.C} {us:aR S.C} (h1:ez S bx c vs=some (x,us)):DF us:=by
 intro u hu
 cases c with
 | data t=>
  simp only [Sy.ez] at h1
  obtain ⟨z,_,h1⟩:=Option.bind_eq_some_iff.1 h1
  cases h1
  obtain ⟨v,_,hv⟩:=List.mem_flatMap.1 hu
  obtain ⟨e,l,he,_⟩:=dj.cY bx v u hv
  exact .inr ⟨e,l,he⟩
 | bk e=>
  simp only [Sy.ez] at h1
  split at h1
  · split at h1
    · obtain ⟨z,_,h1⟩:=Option.bind_eq_some_iff.1 h1
      cases h1
      simp at hu; subst hu; exact .inl rfl
    · cases h1
  · cases h1; simp at hu
  · cases h1
 | aS e=>
  simp only [Sy.ez] at h1
  split at h1
  · split at h1
    · obtain ⟨z,_,h1⟩:=Option.bind_eq_some_iff.1 h1
      cases h1
      simp at hu; subst hu; exact .inl rfl
    · cases h1
  · split at h1
    · obtain ⟨z,_,h1⟩:=Option.bind_eq_some_iff.1 h1
      cases h1
      simp at hu; subst hu; exact .inl rfl
    · cases h1
  · cases h1; simp at hu
  · cases h1
theorem DF.dY: ∀ {cs:List CK} {bx:Bx S.C} {vs:List (Sy.V S.C)} {x:bH S.C cs} {us:aR S.C},dY S bx cs vs=some (x,us)→DF us
 | [],_,_,_,_,h=>by cases h; intro u hu; simp at hu
 | c::cs,bx,vs,x,us,h=>by
  simp only [Sy.dY] at h
  obtain ⟨⟨p,q⟩,h1,h⟩:=Option.bind_eq_some_iff.1 h
  obtain ⟨⟨p',q'⟩,h2,h⟩:=Option.bind_eq_some_iff.1 h
  cases h
  exact (DF.ez h1).append (DF.dY h2)
theorem DF.gY {cs:List CK} {bx:Bx S.C} {b:Nat} {x:bH S.C cs} {us:aR S.C} (hx:gY S bx cs b=some (x,us)):DF us:=by
 unfold Sy.gY at hx
 split at hx
 · rename_i ws hb
   cases hw:Nat.beq ws.length (CK.cz S cs) with
   | false=>rw [hw] at hx; cases hx
   | true=>
    rw [hw,cond_true] at hx
    obtain ⟨⟨y,u'⟩,hy,hx⟩:=Option.bind_eq_some_iff.1 hx
    cases hx
    intro u hu
    rcases List.mem_cons.1 hu with rfl | hu
    · exact .inl rfl
    · exact DF.dY hy u hu
 · cases hx
theorem DF.cq {fs:List (iy S)} {bx:Bx S.C} {k:K} {V:Sy.V S.C} {x:k.den S.C} {us:aR S.C} (hx:cq S fs bx k V=some (x,us)):DF us:=by
 have obj: ∀ (b:Nat) (us':aR S.C),DF us'→DF ((b, .dead)::us'):=fun b us' h u hu=>by
  rcases List.mem_cons.1 hu with rfl | hu
  · exact .inl rfl
  · exact h u hu
 cases k with
 | val c=>
  cases c with
  | data t=>
   simp only [Sy.cq] at hx
   obtain ⟨y,hy,hx⟩:=Option.bind_eq_some_iff.1 hx
   cases hx
   exact DF.fz (dj.dH bx V)
  | bk e=>exact DF.ez (c:= .bk e) hx
  | aS e=>exact DF.ez (c:= .aS e) hx
 | obj ps=>
  simp only [Sy.cq] at hx
  split at hx
  · split at hx
    · rename_i b off _ ws hb
      cases hw:Nat.beq off 0&&Nat.beq ws.length (CK.cz S ps) with
      | false=>rw [hw] at hx; cases hx
      | true=>
       rw [hw,cond_true] at hx
       obtain ⟨⟨y,u'⟩,hy,hx⟩:=Option.bind_eq_some_iff.1 hx
       cases hx
       exact obj _ _ (DF.dY hy)
    · cases hx
  · cases hx
 | bZ t ps=>
  simp only [Sy.cq] at hx
  split at hx
  · obtain ⟨⟨y,u1⟩,hy,hx⟩:=Option.bind_eq_some_iff.1 hx
    obtain ⟨⟨z,u2⟩,hz,hx⟩:=Option.bind_eq_some_iff.1 hx
    cases hx
    exact (DF.gY hy).append (DF.gY hz)
  · cases hx
 | opt ps=>
  simp only [Sy.cq] at hx
  split at hx
  · cases hx; intro u hu; simp at hu
  · split at hx
    · rename_i b off _ ws hb
      cases hw:Nat.beq off 0&&Nat.beq ws.length (CK.cz S ps) with
      | false=>rw [hw] at hx; cases hx
      | true=>
       rw [hw,cond_true] at hx
       obtain ⟨⟨y,u'⟩,hy,hx⟩:=Option.bind_eq_some_iff.1 hx
       cases hx
       exact obj _ _ (DF.dY hy)
    · cases hx
  · cases hx
 | cF ps=>
  simp only [Sy.cq] at hx
  split at hx
  · split at hx
    · rename_i b n _ ws hb
      cases hw:Nat.beq n ws.length&&Nat.beq ws.length (CK.cz S ps) with
      | false=>rw [hw] at hx; cases hx
      | true=>
       rw [hw,cond_true] at hx
       obtain ⟨⟨y,u'⟩,hy,hx⟩:=Option.bind_eq_some_iff.1 hx
       cases hx
       exact obj _ _ (DF.dY hy)
    · cases hx
  · cases hx
 | err=>
  simp only [Sy.cq] at hx
  split at hx
  · cases hx; intro u hu; simp at hu
  · cases hx
 | bh=>
  simp only [Sy.cq] at hx
  split at hx
  · split at hx
    · split at hx
      · rename_i b off _ j hb _ l hj
        cases hw:Nat.beq off 0 with
        | false=>rw [hw] at hx; cases hx
        | true=>
         rw [hw] at hx
         cases hx
         intro u hu
         simp only [List.mem_cons,List.not_mem_nil,or_false] at hu
         rcases hu with rfl | rfl <;> exact .inl rfl
      · cases hx
    · cases hx
  · cases hx
 | nil=>
  simp only [Sy.cq] at hx
  split at hx
  · cases hx; intro u hu; simp at hu
  · cases hx
 | ro t=>
  simp only [Sy.cq] at hx
  obtain ⟨y,hy,hx⟩:=Option.bind_eq_some_iff.1 hx
  cases hx; intro u hu; simp at hu
 | fn A R=>
  simp only [Sy.cq] at hx
  obtain ⟨y,hy,hx⟩:=Option.bind_eq_some_iff.1 hx
  cases hx; intro u hu; simp at hu
theorem DF.eC {fs:List (iy S)} : ∀ {ks:List K} {bx:Bx S.C} {Vs:List (Sy.V S.C)} {x:Ks S.C ks} {us:aR S.C},eC S fs bx ks Vs=some (x,us)→DF us
 | [],_,[],_,_,h=>by cases h; intro u hu; simp at hu
 | [],_,_::_,_,_,h=>by cases h
 | _::_,_,[],_,_,h=>by cases h
 | k::ks,bx,V::Vs,x,us,h=>by
  simp only [Sy.eC] at h
  obtain ⟨⟨p,q⟩,h1,h⟩:=Option.bind_eq_some_iff.1 h
  obtain ⟨⟨p',q'⟩,h2,h⟩:=Option.bind_eq_some_iff.1 h
  cases h
  exact (DF.cq h1).append (DF.eC h2)
theorem BH {i:Nat} : ∀ {us:aR S.C} {bx kW:Bx S.C} (fZ:Bool),(bx i=some .dead→kW i=some .dead)→aD bx us i=some .dead→aD kW (ku S fZ us) i=some .dead
 | [],bx,kW,fZ,h,hu=>by
  have :ku S fZ ([]:aR S.C)= []:=by cases fZ <;> rfl
  rw [this]; exact h hu
 | u::us,bx,kW,true,h,hu=>BH (us:=us) (bx:=aC bx u.1 (some u.2)) (kW:=aC kW u.1 (some u.2)) true (fun hi=>by
  by_cases e:i=u.1
  · rw [e,aY] at hi ⊢; exact hi
  · rw [br _ _ e] at hi ⊢; exact h hi) hu
 | (k,B)::us,bx,kW,false,h,hu=>by
  have keep:aD kW ((k,B)::ku S false us) i=some .dead:=BH (us:=us) (bx:=aC bx k (some B)) (kW:=aC kW k (some B)) false (fun hi=>by
   by_cases e:i=k
   · rw [e,aY] at hi ⊢; exact hi
   · rw [br _ _ e] at hi ⊢; exact h hi) hu
  cases B with
  | bM e l=>
   refine BH (us:=us) (bx:=aC bx k (some (.bM e l))) (kW:=kW) false (fun hi=> ?_) hu
   by_cases e:i=k
   · rw [e,aY] at hi
     cases hi
   · rw [br _ _ e] at hi; exact h hi
  | _=>exact keep
theorem PA {i:Nat} : ∀ {us:aR S.C} {bx:Bx S.C},(∀ u ∈ us,u.2= .dead)→aD bx us i=bx i∨aD bx us i=some .dead
 | [],_,_=> .inl rfl
 | u::us,bx,h=>by
  rcases PA (us:=us) (bx:=aC bx u.1 (some u.2)) (fun v hv=>h v (by simp [hv])) with h1 | h1
  · by_cases e:i=u.1
    · right; show aD (aC bx u.1 (some u.2)) us i=_
      rw [h1,e,aY,h u (by simp)]
    · left; show aD (aC bx u.1 (some u.2)) us i=_
      rw [h1,br _ _ e]
  · exact .inr h1
theorem V4 {us:aR S.C} (h:DF us) (fZ:Bool) (bx:Bx S.C) (i:Nat):
 aD bx (ku S fZ us) i=bx i∨aD bx (ku S fZ us) i=some .dead∨(fZ=true∧aD bx (ku S fZ us) i=aD bx us i):=by
 cases fZ with
 | true=>exact .inr (.inr ⟨rfl,rfl⟩)
 | false=>
  rcases PA (i:=i) (us:=ku S false us) (bx:=bx) (fun u hu=>by
   unfold ku at hu
   rw [cond_false,List.mem_filter] at hu
   rcases h u hu.1 with h1 | ⟨e,l,h1⟩
   · exact h1
   · rw [h1] at hu; exact absurd hu.2 (by simp)) with h1 | h1
  · exact .inl h1
  · exact .inr (.inl h1)
theorem Inv.call (h:Inv P S w0 M0 s0 dq env a w μ) {dR gs:aR S.C} {fZ:Bool} {M M' s':St} {w':World} {lam:Nat→Loc} {I:Nat→Prop} {FC:List Nat}
 (hdf:DF dR) (hk:Tk S env.bx (aD env.bx dR)) (hM:cx S env μ env.bx (aD env.bx dR) M) (hw:bq w w' M)
 (hs': ∀ b o,s' b o→b<w'.heap.size∧ ¬ M' b o∧(cA S w0 M0 s0 env.bx (aD env.bx dR) μ w b o∨M b o∨w.heap.size≤b))
 (qZ: ∀ b o,M' b o→M b o∨w.heap.size≤b) (hG:cl P S w' s' I gs lam M') (hI: ∀ i,I i→i ∈ FC∨env.bx i=none)
 (hh: ∀ b ∈ FC,(∃ B,ud S B∧env.bx b=some B)∧lam b=μ b∧ ∃ B,ud S B∧(b,B) ∈ gs) (hl:fZ=true∨ ∀ b o, ¬ s' b o):
 ∃ μ',Inv P S w0 M0 s0 dq { env with bx:=aD env.bx (ku S fZ dR++gs) } a w' μ'∧bX w' s' w' (aO S w0 M0 s0 (aD env.bx (ku S fZ dR++gs)) μ' w')∧
  Agree gs lam μ' (aD env.bx (ku S fZ dR++gs)):=by
 rw [jL]
 generalize Fy:aD env.bx (ku S fZ dR)=eF
 let μ':Nat→Loc:=fun i=>if i ∈ gs.map (·.1) then lam i else μ i
 have hin: ∀ u ∈ gs,aD eF gs u.1=some u.2∧μ' u.1=lam u.1:=fun u hu=>⟨Dv gs eF hG.one u hu,if_pos (List.mem_map.2 ⟨u,hu,rfl⟩)⟩
 have hout: ∀ i,(∀ u ∈ gs,u.1≠i)→aD eF gs i=eF i∧μ' i=μ i:=fun i hi=>⟨xB gs eF hi,if_neg fun hm=>by
  obtain ⟨u,hu,he⟩:=List.mem_map.1 hm; exact hi u hu he⟩
 have gS: ∀ i,eF i=env.bx i∨eF i=some .dead∨(fZ=true∧eF i=aD env.bx dR i):=fun i=>by rw [← Fy]; exact V4 hdf fZ env.bx i
 have lu: ∀ i,aD env.bx dR i=some .dead→eF i=some .dead:=fun i hi=>by rw [← Fy]; exact BH fZ (fun h=>h) hi
 have hlv: ∀ i,live S eF i→eF i=env.bx i∧live S env.bx i:=fun i hi=>by
  have h1:eF i=env.bx i:=by
   rcases gS i with h1 | h1 | ⟨_,h1⟩
   · exact h1
   · unfold live at hi; rw [h1] at hi; exact hi.elim
   · rw [h1]; exact hk.eo ((eI S h1).1 hi)
  exact ⟨h1,(eI S h1).1 hi⟩
 let U:Nat→Prop:=fun i=>(∃ u ∈ gs,u.1=i)∨eF i≠env.bx i
 have vC: ∀ b o,M b o→ ∃ i,live S env.bx i∧eF i=some .dead∧(μ i).aN b o:=fun b o hm=>by
  obtain ⟨i,h1,_,h3,h4⟩:=hM b o hm
  exact ⟨i,h1,lu i h3,h4⟩
 have Fo: ∀ i,live S env.bx i→eF i=some .dead→U i:=fun i h1 h2=> .inr fun e=>by
  unfold live at h1; rw [← e,h2] at h1; exact h1
 have hT: ∀ b o,M b o→b<w.heap.size→ ∃ i,U i∧live S env.bx i∧(μ i).aN b o:=fun b o hm _=>by
  obtain ⟨i,h1,h2,h3⟩:=vC b o hm
  exact ⟨i,Fo i h1 h2,h1,h3⟩
 have hU: ∀ i, ¬ U i→aD eF gs i=env.bx i∧μ' i=μ i:=fun i hi=>by
  obtain ⟨h1,h2⟩:=hout i fun u hu e=>hi (.inl ⟨u,hu,e⟩)
  exact ⟨h1.trans (Classical.not_not.1 fun e=>hi (.inr e)),h2⟩
 have vI: ∀ i,live S (aD eF gs) i→(∃ u ∈ gs,u.1=i∧μ' i=lam u.1)∨(eF i=env.bx i∧live S env.bx i∧μ' i=μ i∧aD eF gs i=eF i):=fun i hi=>by
  by_cases hg: ∃ u ∈ gs,u.1=i
  · obtain ⟨u,hu,rfl⟩:=hg
    exact .inl ⟨u,hu,rfl,(hin u hu).2⟩
  · obtain ⟨h1,h2⟩:=hout i fun u hu e=>hg ⟨u,hu,e⟩
    obtain ⟨h3,h4⟩:=hlv i ((eI S h1).1 hi)
    exact .inr ⟨h3,h4,h2,h1⟩
 have Bv: ∀ u ∈ gs, ∀ b o,(lam u.1).aN b o→M' b o:=fun u hu b o hf=>(hG.aN b o).2 ⟨u,hu,hf⟩
 have hf: ∀ i,U i→live S (aD eF gs) i→ ∀ b o,(μ' i).aN b o→w.heap.size≤b∨ ∃ j,U j∧live S env.bx j∧(μ j).aN b o:=by
  intro i hi FJ b o hfo
  rcases vI i FJ with ⟨u,hu,rfl,h2⟩ | ⟨h1,h2,h3,h4⟩
  · rw [h2] at hfo
    rcases qZ b o (Bv u hu b o hfo) with hm | hn
    · obtain ⟨j,j1,j2,j3⟩:=vC b o hm
      exact .inr ⟨j,Fo j j1 j2,j1,j3⟩
    · exact .inl hn
  · rcases hi with ⟨u,hu,rfl⟩ | hi
    · rw [(hin u hu).2] at hfo
      rcases qZ b o (Bv u hu b o hfo) with hm | hn
      · obtain ⟨j,j1,j2,j3⟩:=vC b o hm
        exact .inr ⟨j,Fo j j1 j2,j1,j3⟩
      · exact .inl hn
    · exact absurd h1 hi
 have yN:=h.later hw hT hU hf
 have ia:bX w' s' w' (aO S w0 M0 s0 (aD eF gs) μ' w'):=by
  intro b o hs
  obtain ⟨q1,q2,q3⟩:=hs' b o hs
  refine ⟨⟨q1, ?_,fun i hi hfo=> ?_⟩,rfl⟩
  · rcases q3 with q3 | q3 | q3
    · exact q3.2.1
    · obtain ⟨i,i1,_,i3⟩:=vC b o q3
      exact (h.own i i1 b o i3).elim (fun h=> .inr (.inr h)) (fun h=> .inr (.inl h))
    · exact .inr (.inr (Nat.le_trans h.iZ.size q3))
  · rcases vI i hi with ⟨u,hu,rfl,h2⟩ | ⟨h1,h2,h3,h4⟩
    · rw [h2] at hfo; exact q2 (Bv u hu b o hfo)
    · rw [h3] at hfo
      rcases q3 with q3 | q3 | q3
      · rcases q3.2.2 i h2 with ⟨e,l,hq⟩ | hq
        · rcases hl with hl | hl
          · have :eF i=some (.bM e l):=by rw [← Fy,hl]; exact hq
            have hi':=(eI S h4).1 hi
            unfold live at hi'
            rw [this] at hi'
            exact hi'
          · exact hl b o hs
        · exact hq hfo
      · obtain ⟨k,k1,k2,k3⟩:=vC b o q3
        refine h.dK i k (fun e=> ?_) h2 k1 b o hfo k3
        subst e
        rw [h1] at k2
        unfold live at h2; rw [k2] at h2; exact h2
      · exact absurd (mO P S (h.cc i) h2 hfo).1 (by omega)
 refine ⟨μ',h.step hw hT hU hf ?_ ?_ ?_ ?_,ia,hin⟩
 · intro i B0 hi
   by_cases hg: ∃ u ∈ gs,u.1=i
   · obtain ⟨u,hu,rfl⟩:=hg
     rcases hI u.1 (hG.gf u hu) with hm | hn
     · obtain ⟨⟨ws,d1,e1⟩,e2,vs,d3,e3⟩:=hh _ hm
       rw [hi] at e1
       cases e1
       have :u=(u.1,vs):=hG.one u hu _ e3 rfl
       refine ⟨_,(hin u hu).1, ?_⟩
       rw [show u.2=vs from congrArg Prod.snd this]
       exact S8 S d1 d3 ((hin u hu).2.trans e2)
     · rw [hi] at hn; cases hn
   · obtain ⟨h1,h2⟩:=hout i fun u hu e=>hg ⟨u,hu,e⟩
     rw [h1,h2]
     rcases gS i with e1 | e1 | ⟨e0,e1⟩
     · exact ⟨B0,e1.trans hi,cW.refl S _ _⟩
     · exact ⟨_,e1,by cases B0 <;> rfl⟩
     · rcases hk i with e2 | ⟨e2,_⟩ | ⟨e,l,e2,e3⟩
       · exact ⟨B0,(e1.trans e2).trans hi,cW.refl S _ _⟩
       · exact ⟨_,e1.trans e2,by cases B0 <;> rfl⟩
       · rw [hi] at e2
         cases e2
         exact ⟨_,e1.trans e3,rfl,rfl,rfl⟩
 · intro i j hi hj hij li lj b o fi fj
   rcases vI i li with ⟨u,hu,rfl,h2⟩ | ⟨h1,h2,h3,h4⟩
   · rcases vI j lj with ⟨u',aW,rfl,pq⟩ | ⟨h1',_,_,_⟩
     · rw [h2] at fi; rw [pq] at fj
       exact hG.dK u hu u' aW hij b o fi fj
     · rcases hj with ⟨u',aW,rfl⟩ | hj
       · rw [h2] at fi; rw [(hin u' aW).2] at fj
         exact hG.dK u hu u' aW hij b o fi fj
       · exact hj h1'
   · rcases hi with ⟨u,hu,rfl⟩ | hi
     · rcases vI j lj with ⟨u',aW,rfl,pq⟩ | ⟨h1',_,_,_⟩
       · rw [(hin u hu).2] at fi; rw [pq] at fj
         exact hG.dK u hu u' aW hij b o fi fj
       · rcases hj with ⟨u',aW,rfl⟩ | hj
         · rw [(hin u hu).2] at fi; rw [(hin u' aW).2] at fj
           exact hG.dK u hu u' aW hij b o fi fj
         · exact hj h1'
     · exact hi h1
 · intro i B hi hB
   by_cases hg: ∃ u ∈ gs,u.1=i
   · obtain ⟨u,hu,rfl⟩:=hg
     rw [(hin u hu).1] at hB
     cases hB
     rw [(hin u hu).2]
     exact (hG.rb μ' _ hin u hu).mono ia
   · obtain ⟨h1,h2⟩:=hout i fun u hu e=>hg ⟨u,hu,e⟩
     rw [h1] at hB
     rw [h2]
     have hne:eF i≠env.bx i:=hi.resolve_left hg
     rcases gS i with e1 | e1 | ⟨e0,e1⟩
     · exact absurd e1 hne
     · rw [e1] at hB; cases hB; trivial
     · rcases hk i with e2 | ⟨e2,_⟩ | ⟨e,l,e2,e3⟩
       · exact absurd (e1.trans e2) hne
       · rw [e1,e2] at hB; cases hB; trivial
       · have Lg:eF i=some (.bM e l):=e1.trans e3
         rw [Lg] at hB
         cases hB
         have cg:live S env.bx i:=by unfold live; rw [e2]; trivial
         obtain ⟨g1,g2,g3,g4,g5⟩:=h.cc i _ e2
         refine ⟨g2,g3,fun k x yL=> ?_⟩
         obtain ⟨ds,d1,d2,n,d3⟩:=g5 k x yL
         refine ⟨ds,d1,fun j u hj=> ?_,n,d3.mono S yN (Nat.le_refl _)⟩
         have hj':=(List.getElem?_eq_some_iff.1 hj).1
         have vJ:=(List.getElem?_eq_some_iff.1 yL).1
         have jc:(μ i).aN (μ i).b ((μ i).o+k*Ty.sz S e+j):=by
          refine ⟨rfl,by omega, ?_⟩
          have :(k+1)*Ty.sz S e≤(μ i).cap*Ty.sz S e:=Nat.mul_le_mul_right _ (by omega)
          rw [Nat.add_mul,Nat.one_mul] at this
          omega
         have LI: ¬ M (μ i).b ((μ i).o+k*Ty.sz S e+j):=fun hm=>by
          obtain ⟨q,q1,q2,q3⟩:=vC _ _ hm
          refine h.dK i q (fun e=> ?_) cg q1 _ _ jc q3
          subst e
          rw [Lg] at q2
          cases q2
         have LG:=(mO P S (h.cc i) cg jc).1
         refine ⟨(hw.cell _ _ LG LI).trans (d2 j u hj),Nat.lt_of_lt_of_le LG hw.size,(h.own i cg _ _ jc).elim (fun h=> .inr (.inr h)) (fun h=> .inr (.inl h)),fun q hq vH=> ?_⟩
         rcases vI q hq with ⟨u,hu,rfl,h2⟩ | ⟨r1,r2,r3,r4⟩
         · rw [h2] at vH
           rcases qZ _ _ (Bv u hu _ _ vH) with hm | hn
           · exact LI hm
           · omega
         · rw [r3] at vH
           refine h.dK q i (fun e=> ?_) r2 cg _ _ vH jc
           subst e
           exact hne r1
 · intro i vs hi hvs v hv j hj
   by_cases hg: ∃ u ∈ gs,u.1=i
   · obtain ⟨u,hu,rfl⟩:=hg
     rw [(hin u hu).1] at hvs
     obtain ⟨u',aW,he⟩:=hG.ref u hu vs (by rcases hvs with hvs | hvs <;> · rw [Option.some.inj hvs]; simp) v hv j hj
     rw [← he,(hin u' aW).1]; simp
   · obtain ⟨h1,h2⟩:=hout i fun u hu e=>hg ⟨u,hu,e⟩
     have hne:eF i≠env.bx i:=hi.resolve_left hg
     rw [h1] at hvs
     rcases gS i with e1 | e1 | ⟨e0,e1⟩
     · exact absurd e1 hne
     · rw [e1] at hvs; rcases hvs with hvs | hvs <;> cases hvs
     · rcases hk i with e2 | ⟨e2,_⟩ | ⟨e,l,e2,e3⟩
       · exact absurd (e1.trans e2) hne
       · rw [e1,e2] at hvs; rcases hvs with hvs | hvs <;> cases hvs
       · rw [e1,e3] at hvs; rcases hvs with hvs | hvs <;> cases hvs
end
end Go.Sy
namespace Go.Sy
section
variable {P:Program} {S:bg} {au:Nat→Nat}
theorem vb {bx aq:Bx S.C} {W:Sy.V S.C} {t:Ty} (hW: ∀ i ∈ aG S W,aq i=bx i):dn S aq t W=dn S bx t W:=by
 cases W with
 | aS b=>simp only [dn]; rw [hW b (by simp [aG])]
 | _=>rfl
theorem T5 {bx aq:Bx S.C} {W:Sy.V S.C} (hW: ∀ i ∈ aG S W,aq i=bx i):cY S aq W=cY S bx W:=by
 cases W with
 | aS b=>simp only [cY]; rw [hW b (by simp [aG])]
 | _=>rfl
theorem Pn {bx aq:Bx S.C} : ∀ {ts:List Ty} {vs:List (Sy.V S.C)},(∀ v ∈ vs, ∀ i ∈ aG S v,aq i=bx i)→iQ S aq ts vs=iQ S bx ts vs
 | [],_,_=>rfl
 | t::ts,[],_=>rfl
 | t::ts,v::vs,h=>by
  simp only [iQ]
  rw [vb (h v (by simp)),Pn fun v hv=>h v (by simp [hv])]
theorem F9 {bx aq:Bx S.C} {t:Ty} {vs:List (Sy.V S.C)} (h: ∀ v ∈ vs, ∀ i ∈ aG S v,aq i=bx i):jd S aq t vs=jd S bx t vs:=by
 cases t with
 | st u=>simp only [jd]; rw [Pn h]
 | _=>
  cases vs with
  | nil=>rfl
  | cons v vs=>exact vb (h v (by simp))
theorem KT {bx aq:Bx S.C} : ∀ {vs:List (Sy.V S.C)},(∀ v ∈ vs, ∀ i ∈ aG S v,aq i=bx i)→vs.flatMap (cY S aq)=vs.flatMap (cY S bx)
 | [],_=>rfl
 | v::vs,h=>by
  simp only [List.flatMap_cons]
  rw [T5 (h v (by simp)),KT fun v hv=>h v (by simp [hv])]
theorem O7 {bx aq:Bx S.C} {c:CK} {vs:List (Sy.V S.C)} (h: ∀ v ∈ vs, ∀ i ∈ aG S v,aq i=bx i):ez S aq c vs=ez S bx c vs:=by
 cases c with
 | data t=>
  simp only [ez]
  rw [F9 h,KT fun v hv=>h v (List.mem_of_mem_take hv)]
 | bk e=>
  cases vs with
  | nil=>rfl
  | cons v vs=>
   have :=h v (by simp)
   cases v with
   | bk b e' l=>simp only [ez]; rw [this b (by simp [aG])]
   | _=>rfl
 | aS e=>
  cases vs with
  | nil=>rfl
  | cons v vs=>
   have :=h v (by simp)
   cases v with
   | aS b=>simp only [ez]; rw [this b (by simp [aG])]
   | pre b n=>simp only [ez]; rw [this b (by simp [aG])]
   | _=>rfl
theorem sG {i:Nat} : ∀ (us:aR S.C) {bx aq:Bx S.C},aq i=bx i→aD aq us i=aD bx us i
 | [],_,_,h=>h
 | u::us,bx,aq,h=>sG us (bx:=aC bx u.1 (some u.2)) (aq:=aC aq u.1 (some u.2)) (by
  by_cases e:i=u.1
  · rw [e,aY,aY]
  · rw [br _ _ e,br _ _ e]; exact h)
theorem Dr: ∀ {cs:List CK} {bx aq:Bx S.C} {vs:List (Sy.V S.C)},(∀ v ∈ vs, ∀ i ∈ aG S v,aq i=bx i)→dY S aq cs vs=dY S bx cs vs
 | [],_,_,_,_=>rfl
 | c::cs,bx,aq,vs,h=>by
  simp only [dY]
  rw [O7 h]
  cases ez S bx c vs with
  | none=>rfl
  | some a=>
   simp only [Option.bind_some]
   rw [Dr fun v hv i hi=>sG _ (h v (List.mem_of_mem_drop hv) i hi)]
def jN (S:bg) (bx aq:Bx S.C) (V:Sy.V S.C):Prop:=
 ∀ i ∈ aI S V,aq i=bx i∧(∀ vs,(bx i=some (.cells vs)∨bx i=some (.bU vs))→ ∀ v ∈ vs, ∀ j ∈ aG S v,aq j=bx j)∧ ∀ j,bx i=some (.bh j)→aq j=bx j
theorem ab0 {us:aR S.C} {i:Nat} {vs:List (Sy.V S.C)} (h:DF us): ∀ {bx:Bx S.C},(aD bx us i=some (.cells vs)∨aD bx us i=some (.bU vs))→(bx i=some (.cells vs)∨bx i=some (.bU vs)):=by
 induction us with
 | nil=>exact fun h=>h
 | cons u us ih=>
  intro bx hu
  have :=ih (fun v hv=>h v (by simp [hv])) (bx:=aC bx u.1 (some u.2)) hu
  by_cases e:i=u.1
  · rw [e,aY] at this
    rcases h u (by simp) with h1 | ⟨_,_,h1⟩ <;> · rw [h1] at this; rcases this with h2 | h2 <;> cases h2
  · rw [br _ _ e] at this; exact this
theorem ab1 {us:aR S.C} {i j:Nat} (h:DF us): ∀ {bx:Bx S.C},aD bx us i=some (.bh j)→bx i=some (.bh j):=by
 induction us with
 | nil=>exact fun h=>h
 | cons u us ih=>
  intro bx hu
  have :=ih (fun v hv=>h v (by simp [hv])) (bx:=aC bx u.1 (some u.2)) hu
  by_cases e:i=u.1
  · rw [e,aY] at this
    rcases h u (by simp) with h1 | ⟨_,_,h1⟩ <;> · rw [h1] at this; cases this
  · rw [br _ _ e] at this; exact this
theorem jN.aD {bx aq:Bx S.C} {V:Sy.V S.C} {us:aR S.C} (hd:DF us) (h:jN S bx aq V):jN S (aD bx us) (aD aq us) V:=fun i hi=>
 ⟨sG us (h i hi).1,fun vs hvs v hv j hj=>sG us ((h i hi).2.1 vs (ab0 hd hvs) v hv j hj),fun j hj=>sG us ((h i hi).2.2 j (ab1 hd hj))⟩
theorem R9 {bx aq:Bx S.C} {t:Ty} {v:Sy.V S.C} (this: ∀ i ∈ aG S v,aq i=bx i∧ ∀ ws,(bx i=some (.cells ws)∨bx i=some (.bU ws))→ ∀ v ∈ ws, ∀ j ∈ aG S v,aq j=bx j):nK S aq t v=nK S bx t v:=by
 cases v with
 | ptr b off=>
  obtain ⟨h1,h2⟩:=this b (by simp [aG])
  cases off with
  | zero=>
   simp only [nK]
   rw [h1]
   split
   · rename_i ws hb
     rw [F9 (h2 ws (.inr hb))]
   · rfl
  | succ n=>rfl
 | _=>rfl
theorem Ei {bx aq:Bx S.C} : ∀ {ts:List Ty} {vs:List (Sy.V S.C)},(∀ v ∈ vs, ∀ i ∈ aG S v,aq i=bx i∧ ∀ ws,(bx i=some (.cells ws)∨bx i=some (.bU ws))→ ∀ v ∈ ws, ∀ j ∈ aG S v,aq j=bx j)→caps S aq ts vs=caps S bx ts vs
 | [],[],_=>rfl
 | [],_::_,_=>rfl
 | t::ts,[],_=>rfl
 | t::ts,v::vs,h=>by
  simp only [caps]
  have h1:nK S aq t v=nK S bx t v:=by
   have :=h v (by simp)
   cases v with
   | ptr b off=>
    obtain ⟨h1,h2⟩:=this b (by simp [aG])
    cases off with
    | zero=>
     simp only [nK]
     rw [h1]
     split
     · rename_i ws hb
       rw [F9 (h2 ws (.inr hb))]
     · rfl
    | succ n=>rfl
   | _=>rfl
  rw [h1,Ei fun v hv=>h v (by simp [hv])]
theorem TX {fs:List (iy S)} {bx aq:Bx S.C} {A R:List Ty} {V:Sy.V S.C} (h:jN S bx aq V):tD S fs aq A R V=tD S fs bx A R V:=by
 cases V with
 | fX f vs=>
  simp only [tD]
  have : ∀ ts,caps S aq ts vs=caps S bx ts vs:=fun ts=>Ei fun v hv i hi=>have q:=h i (by simp only [aI,List.mem_flatMap]; exact ⟨v,hv,hi⟩); ⟨q.1,q.2.1⟩
  simp only [this]
 | _=>rfl
theorem Pd {bx aq:Bx S.C} {cs:List CK} {b:Nat} (h:jN S bx aq (.ptr b 0)):gY S aq cs b=gY S bx cs b:=by
 unfold gY
 rw [(h b (by simp [aI,aG])).1]
 split
 · rename_i vs hb
   have :dY S (aC aq b (some .dead)) cs (vs.drop 0)=dY S (aC bx b (some .dead)) cs (vs.drop 0):=by
    refine Dr fun v hv i hi=> ?_
    have :=(h b (by simp [aI,aG])).2.1 vs (.inl hb) v (List.mem_of_mem_drop hv) i hi
    by_cases e:i=b
    · rw [e,aY,aY]
    · rw [br _ _ e,br _ _ e]; exact this
   rw [this]
 · rfl
theorem abd {fs:List (iy S)} {bx aq:Bx S.C} {k:K} {V:Sy.V S.C} (h:jN S bx aq V):cq S fs aq k V=cq S fs bx k V:=by
 have h1: ∀ (c:CK),ez S aq c [V]=ez S bx c [V]∨ ∃ u vs,V= .agg u vs∨V= .fX u vs∨V= .jq vs:=by
  intro c
  cases V with
  | agg u vs=>exact .inr ⟨u,vs, .inl rfl⟩
  | fX u vs=>exact .inr ⟨u,vs, .inr (.inl rfl)⟩
  | jq vs=>exact .inr ⟨0,vs, .inr (.inr rfl)⟩
  | _=>exact .inl (O7 fun v hv i hi=>by simp at hv; subst hv; exact (h i hi).1)
 have obj: ∀ (cs:List CK) (b:Nat) (vs:List (Sy.V S.C)) (off:Nat),V= .ptr b off→bx b=some (.cells vs)→dY S (aC aq b (some .dead)) cs (vs.drop off)=dY S (aC bx b (some .dead)) cs (vs.drop off):=by
  rintro cs b vs off rfl hb
  refine Dr fun v hv i hi=> ?_
  have :=(h b (by simp [aI,aG])).2.1 vs (.inl hb) v (List.mem_of_mem_drop hv) i hi
  by_cases e:i=b
  · rw [e,aY,aY]
  · rw [br _ _ e,br _ _ e]; exact this
 cases k with
 | val c=>
  cases c with
  | data t=>
   obtain ⟨d1,d2⟩:=yh (t:=t) fun i hi=>(h i hi).1
   simp only [cq,d1,d2]
  | bk e=>
   rcases h1 (.bk e) with h1 | ⟨u,vs,rfl | rfl | rfl⟩
   · exact h1
   all_goals rfl
  | aS e=>
   rcases h1 (.aS e) with h1 | ⟨u,vs,rfl | rfl | rfl⟩
   · exact h1
   all_goals rfl
 | obj cs=>
  cases V with
  | ptr b off=>
   simp only [cq]
   rw [(h b (by simp [aI,aG])).1]
   split
   · rename_i vs hb
     rw [obj cs b vs off rfl hb]
   · rfl
  | _=>rfl
 | opt cs=>
  cases V with
  | ptr b off=>
   simp only [cq]
   rw [(h b (by simp [aI,aG])).1]
   split
   · rename_i vs hb
     rw [obj cs b vs off rfl hb]
   · rfl
  | _=>rfl
 | cF cs=>
  cases V with
  | cF b n=>
   simp only [cq]
   rw [(h b (by simp [aI,aG])).1]
   split
   · rename_i vs hb
     have :dY S (aC aq b (some .dead)) cs (vs.drop 0)=dY S (aC bx b (some .dead)) cs (vs.drop 0):=by
      refine Dr fun v hv i hi=> ?_
      have :=(h b (by simp [aI,aG])).2.1 vs (.inl hb) v (List.mem_of_mem_drop hv) i hi
      by_cases e:i=b
      · rw [e,aY,aY]
      · rw [br _ _ e,br _ _ e]; exact this
     rw [this]
   · rfl
  | _=>rfl
 | bZ t cs=>
  cases V with
  | split b c=>
   simp only [cq]
   have hc:jN S bx aq (.ptr c 0):=fun i hi=>h i (by simp [aI,aG] at hi ⊢; exact .inr hi)
   have hb:jN S bx aq (.ptr b 0):=fun i hi=>h i (by simp [aI,aG] at hi ⊢; exact .inl hi)
   rw [Pd hc]
   cases hy:gY S bx [.data t] c with
   | none=>rfl
   | some y=>
    simp only [Option.bind_some]
    rw [Pd (hb.aD (DF.gY (us:=y.2) (x:=y.1) hy))]
  | _=>rfl
 | nil=>rfl
 | err=>rfl
 | bh=>
  cases V with
  | ptr b off=>
   simp only [cq]
   rw [(h b (by simp [aI,aG])).1]
   split
   · rename_i j hb
     rw [(h b (by simp [aI,aG])).2.2 j hb]
   · rfl
  | _=>rfl
 | ro t=>
  cases V with
  | ptr b off=>
   simp only [cq]
   have :=R9 (t:=t) (v:= .ptr b off) fun i hi=>⟨(h i hi).1,(h i hi).2.1⟩
   rw [this]
  | _=>rfl
 | fn A R=>simp only [cq]; rw [TX h]
theorem O_ {fs:List (iy S)} : ∀ {ks:List K} {bx aq:Bx S.C} {Vs:List (Sy.V S.C)},(∀ V ∈ Vs,jN S bx aq V)→eC S fs aq ks Vs=eC S fs bx ks Vs
 | [],_,_,[],_=>rfl
 | [],_,_,_::_,_=>rfl
 | k::ks,_,_,[],_=>rfl
 | k::ks,bx,aq,V::Vs,h=>by
  simp only [eC]
  rw [abd (h V (by simp))]
  cases hk:cq S fs bx k V with
  | none=>rfl
  | some a=>
   simp only [Option.bind_some]
   rw [O_ fun V' Up=>(h V' (by simp [Up])).aD (DF.cq (us:=a.2) (x:=a.1) hk)]
theorem b_.length {w:World} {s:St} : ∀ {M:St} {ks:List K} {x:Ks S.C ks} {vs:List Value},b_ P S w s M ks x vs→vs.length=ks.length
 | _,[],_,_,h=>by rw [h.2]; rfl
 | _,k::ks,_,_,⟨M1,M2,v,r,h1,h2,h3,h4⟩=>by subst h2; rw [List.length_cons,b_.length h4]; rfl
theorem aM.flat {w:World} {s s':St} {n:Nat} {t:Ty} (hf:Bf S t=true) {x:t.den S.C} {cs:List Value} (h:aM S w s n t x cs):aM S w s' n t x cs:=by
 cases n with
 | zero=>exact h.elim
 | succ n=>cases t with
  | int k=>exact h
  | bool=>exact h
  | str=>exact h
  | pt=>exact h
  | sl e=>simp [Bf] at hf
  | st u=>
   cases n with
   | zero=>
    have : ∀ (ts:List Ty) (x:ay S.C ts) (cs:List Value),bG S (fun t x cs=>aM S w s 0 t x cs) ts x cs→bG S (fun t x cs=>aM S w s' 0 t x cs) ts x cs:=by
     intro ts x cs h
     exact bG.mono S (fun t x cs h=>h.elim) ts x cs h
    exact this _ _ _ h
   | succ m=>exact (bG.flat S (m:=m) _ _ _ hf h)
theorem mc.flat {w:World} {s s' M:St} {c:CK} (hf:tC S c=true) {x:c.den S.C} {cs:List Value} (h:mc S w s M c x cs):mc S w s' M c x cs:=by
 cases c with
 | data t=>exact ⟨h.1,h.2.imp fun _ hn=>hn.flat hf⟩
 | bk e=>simp [tC] at hf
 | aS e=>
  obtain ⟨a,cap,L,h1,h2,h3,h4,h5⟩:=h
  refine ⟨a,cap,L,h1,h2,h3,h4,fun i y hi=> ?_⟩
  obtain ⟨ds,d1,d2,n,d3⟩:=h5 i y hi
  exact ⟨ds,d1,d2,n,d3.flat hf⟩
theorem iS.flat {w:World} {s s':St} : ∀ {M:St} {cs:List CK} {x:bH S.C cs} {vs:List Value},cs.all (tC S)=true→iS S w s M cs x vs→iS S w s' M cs x vs
 | _,[],_,_,_,h=>h
 | _,_::_,_,_,hf,⟨M1,M2,v1,v2,h1,h2,h3,h4,h5⟩=>by
  simp only [List.all_cons,Bool.and_eq_true] at hf
  exact ⟨M1,M2,v1,v2,h1,h2,h3,h4.flat hf.1,iS.flat hf.2 h5⟩
theorem eD.flat {w:World} {s s' M:St} {cs:List CK} (hf:cs.all (tC S)=true) {x:bH S.C cs} {v:Value} (h:eD S w s M cs x v):eD S w s' M cs x v:=by
 obtain ⟨b,o,ds,M',h1,h2,h3,h4,h5⟩:=h
 exact ⟨b,o,ds,M',h1,h2,h3,h4,h5.flat hf⟩
theorem nC.flat {w:World} {s s' M:St} {k:K} (hf:vv S k=true) {x:k.den S.C} {v:Value} (h:nC P S w s M k x v):nC P S w s' M k x v:=by
 cases k with
 | val c=>exact ⟨h.1.flat hf,h.2⟩
 | obj cs=>exact eD.flat hf h
 | bh=>exact h
 | opt cs=>
  cases x with
  | none=>exact h
  | some y=>exact eD.flat hf h
 | nil=>exact h
 | ro t=>simp [vv] at hf
 | fn a r=>simp [vv] at hf
 | bZ t cs=>simp [vv] at hf
 | cF cs=>
  obtain ⟨p,h1,h2⟩:=h
  exact ⟨p,h1,eD.flat hf h2⟩
 | err=>exact h
theorem b_.flat {w:World} {s s':St} : ∀ {M:St} {ks:List K} {x:Ks S.C ks} {vs:List Value},ks.all (vv S)=true→b_ P S w s M ks x vs→b_ P S w s' M ks x vs
 | _,[],_,_,_,h=>h
 | _,_::_,_,_,hf,⟨M1,M2,v,r,h1,h2,h3,h4⟩=>by
  simp only [List.all_cons,Bool.and_eq_true] at hf
  exact ⟨M1,M2,v,r,h1,h2,h3.flat hf.1,b_.flat hf.2 h4⟩
def av (P:Program) (S:bg) (e:Entry S):Prop:=jM P e.f∧ ∀ (w:World) (s M:St) (x:Ks S.C e.ps) (args:List Value) (r:Ks S.C (e.rs++outs e.ps)),
 b_ P S w s M e.ps x args→(∀ b o,s b o→b<w.heap.size∧ ¬ M b o)→js S w M→e.sp x=some r→
 Calls P e.f args.toArray w fun en w'=> ∃ us s' M',en= .returned (lS us)∧bq w w' M∧b_ P S w' s' M' (e.rs++outs e.ps) r (us++fE e.ps args)∧
  (∀ b o,s' b o→b<w'.heap.size∧ ¬ M' b o∧(s b o∨M b o∨w.heap.size≤b))∧ ∀ b o,M' b o→M b o∨w.heap.size≤b
def qF (P:Program) (S:bg) (w0:World) (M0:St) (e:Entry S):Prop:=jM P e.f∧ ∀ (w:World) (s M:St) (x:Ks S.C e.ps) (args:List Value) (r:Ks S.C (e.rs++outs e.ps)),
 bq w0 w M0→(∀ b o,M b o→w0.heap.size≤b∨M0 b o)→b_ P S w s M e.ps x args→(∀ b o,s b o→b<w.heap.size∧ ¬ M b o)→e.sp x=some r→
 Calls P e.f args.toArray w fun en w'=> ∃ us s' M',en= .returned (lS us)∧bq w w' M∧b_ P S w' s' M' (e.rs++outs e.ps) r (us++fE e.ps args)∧
  (∀ b o,s' b o→b<w'.heap.size∧ ¬ M' b o∧(s b o∨M b o∨w.heap.size≤b))∧ ∀ b o,M' b o→M b o∨w.heap.size≤b
theorem av.at {w0:World} {M0:St} {e:Entry S} (h:av P S e) (hG:js S w0 M0):qF P S w0 M0 e:=
 ⟨h.1,fun w s M x args r hc hM hx hs hr=>h.2 w s M x args r hx hs ⟨fun g hg=>by
  obtain ⟨g1,g2,v,g3,g4⟩:=hG.1 g hg
  refine ⟨Nat.lt_of_lt_of_le g1 hc.size,fun hm=> ?_,v,(hc.cell g.1.1 g.1.2 g1 g2).trans g3,g4⟩
  rcases hM _ _ hm with h1 | h1
  · exact absurd g1 (Nat.not_lt.2 h1)
  · exact g2 h1,fun g hg=>by
  obtain ⟨g1,g2,v,g3,g4⟩:=hG.2 g hg
  refine ⟨Nat.lt_of_lt_of_le g1 hc.size,fun o hm=> ?_,v,(hc.same g.1 g1 g2).trans g3,g4⟩
  rcases hM _ _ hm with h1 | h1
  · exact absurd g1 (Nat.not_lt.2 h1)
  · exact g2 o h1⟩ hr⟩
end
end Go.Sy
namespace Go.Sy
section
variable {P:Program} {S:bg} {au:Nat→Nat}
variable {w0:World} {M0 s0:St} {dq:List Deferred} {env:Env S.C} {a:Act} {w:World} {μ:Nat→Loc} {K:Act→World→Prop} {Q:Exit→Act→World→Prop} {o:Oper} {V:V S.C} {us:aR S.C}
theorem II {s:St} {bx:Bx S.C} {vs:List (Sy.V S.C)} {us:List Value} (h:aQ P S w s μ bx vs us):RV P S w s μ bx (sF S vs) (lS us):=by
 cases vs with
 | nil=>cases h; exact ⟨#[],rfl,rfl⟩
 | cons v vs=>
  obtain ⟨c,r,rfl,h1,h2⟩:=h
  cases vs with
  | nil=>cases h2; exact nE h1
  | cons v' vs=>
   obtain ⟨c',r',rfl,h3,h4⟩:=h2
   exact ⟨_,rfl,c,c'::r',by simp,h1,c',r',rfl,h3,h4⟩
theorem L4 {vs:List (Sy.V S.C)} {j:Nat} (h:j ∈ aI S (sF S vs)): ∃ v ∈ vs,j ∈ aG S v∨j ∈ aI S v:=by
 cases vs with
 | nil=>simp [sF,aI] at h
 | cons v vs=>
  cases vs with
  | nil=>exact ⟨v,by simp, .inr h⟩
  | cons v' vs=>
   simp only [sF,aI,List.mem_flatMap] at h
   obtain ⟨u,hu,hj⟩:=h
   exact ⟨u,hu, .inl hj⟩
theorem VQ {s:St} {bx:Bx S.C} {V:Sy.V S.C} {v:Value} (h:bI P S w s μ bx V v) {j:Nat} (hj:j ∈ aI S V):j ∈ aG S V:=by
 cases V <;> first | exact hj | exact (h:False).elim
theorem L3 {s:St} {bx:Bx S.C} : ∀ {vs:List (Sy.V S.C)} {cs:List Value},aQ P S w s μ bx vs cs→ ∀ v ∈ vs, ∀ j ∈ aI S v,j ∈ aG S v
 | [],_,_,v,hv,_,_=>by simp at hv
 | u::vs,_,⟨c,r,h1,h2,h3⟩,v,hv,j,hj=>by
  rcases List.mem_cons.1 hv with rfl | hv
  · exact VQ h2 hj
  · exact L3 h3 v hv j hj
theorem HJ {c:Call} (ho:o.op= .call c) {f:Operand} (hc:c.callee= .value f) {g:Nat} {first cap:Array Value} (hf:a.eval f= .func (.func g) first cap) (hok:jM P g):
 (execOp a.eval o).run P w= .ok (.enter g (first++c.args.map a.eval++cap)) w:=by
 obtain ⟨fn,h1,h2,h3⟩:=hok
 unfold execOp
 simp only [ho]
 have pq: ¬ fn.name= "runtime.NumGoroutine" :=by simpa using h2
 have Ui: ¬ fn.body=none:=fun e=>by rw [e] at h3; cases h3
 simp [resolve,hc,hf,Deferred.ofValue,invoke,callFunc,h1,pq,Ui]
theorem GG: ∀ (ps:List Sy.K) (args:List Value),args.length=ps.length→(fE ps args).length=(outs ps).length
 | [],_,_=>by simp [fE,outs]
 | _::_,[],h=>by simp at h
 | k::ps,v::args,h=>by
  have ih:=GG ps args (by simpa using h)
  cases k <;> simp [fE,outs,ih]
theorem Jw (hP:bf P S au) {T:iA S} {f:Nat} {args:Array Value} {C:(Ending→World→Prop)→Prop} (hmono: ∀ R R',(∀ en w',R en w'→R' en w')→C R→C R')
 (hT: ∀ e ∈ T.es,e.f=f→ ∀ (s M:St) (x:Ks S.C e.ps) (r:Ks S.C (e.rs++outs e.ps)),(∀ b o,M b o→w0.heap.size≤b∨M0 b o)→b_ P S w s M e.ps x args.toList→(∀ b o,s b o→b<w.heap.size∧ ¬ M b o)→e.sp x=some r→
  C fun en w'=> ∃ us s' M',en= .returned (lS us)∧bq w w' M∧b_ P S w' s' M' (e.rs++outs e.ps) r (us++fE e.ps args.toList)∧
   (∀ b o,s' b o→b<w'.heap.size∧ ¬ M' b o∧(s b o∨M b o∨w.heap.size≤b))∧ ∀ b o,M' b o→M b o∨w.heap.size≤b)
 (hF: ∀ e ∈ T.fs,eZ P S e) (h:Inv P S w0 M0 s0 dq env a w μ) {B:Nat} {gp:Bx S.C}
 {Vs:List (Sy.V S.C)} (hargs:fT P S w (aO S w0 M0 s0 env.bx μ w) μ env.bx Vs args.toList)
 (hkn: ∀ V ∈ Vs,jN S env.bx gp V) (hnew: ∀ u ∈ us,B≤u.1→u.1<B+16→env.bx u.1=none)
 (hl:(qM S T B gp f Vs).leaf (V,us)):
 C fun en w'=> ∃ v μ',en= .returned v∧Inv P S w0 M0 s0 dq { env with bx:=aD env.bx us } a w' μ'∧RV P S w' (aO S w0 M0 s0 (aD env.bx us) μ' w') μ' (aD env.bx us) V v∧ ∀ j ∈ aI S V,aD env.bx us j≠none:=by
 unfold qM at hl
 split at hl
 · rename_i e tk hfind
   obtain ⟨e0,yI,hsel⟩:=List.exists_of_findSome?_eq_some hfind
   split at hsel
   · rename_i mN
     obtain ⟨qu,htk,hsel⟩:=Option.bind_eq_some_iff.1 hsel
     cases hsel
     cases hlim:Nat.ble (jy e.rs+jy (outs e.ps)) 16&&(dN S e.ps Vs).all fun b=> !(Nat.ble B b&&Nat.blt b (B+16)) with
     | false=>rw [hlim] at hl; exact hl.elim
     | true=>
      rw [hlim,cond_true] at hl
      rw [Bool.and_eq_true] at hlim
      obtain ⟨hlim,UB⟩:=hlim
      have hlim:=Nat.le_of_ble_eq_true hlim
      obtain ⟨r,hr,hl⟩:=hl
      rw [O_ hkn] at htk
      obtain ⟨x,dR⟩:=tk
      dsimp only at hr hl
      obtain ⟨k1,M,kr,fr⟩:=Af hP.todm h hF e.ps (Tk.refl S env.bx) hargs htk
      have VA: ∀ (ks:List Sy.K) (bx:Bx S.C) (hk:Tk S env.bx bx) (Vs:List (Sy.V S.C)) (args:List Value) (x:Ks S.C ks) (us:aR S.C),fT P S w (aO S w0 M0 s0 env.bx μ w) μ env.bx Vs args→eC S T.fs bx ks Vs=some (x,us)→Tk S bx (aD bx us):=
       fun ks bx hk Vs args x us h1 h2=>(Af hP.todm h hF ks hk h1 h2).1
      obtain ⟨oo,Xd,od⟩:=Pa (s:=aO S w0 M0 s0 env.bx μ w) (s':=aO S w0 M0 s0 env.bx μ w) h.cc e.ps (Tk.refl S env.bx) VA hargs htk
      have hdf:=DF.eC htk
      have LX: ∀ b o,cA S w0 M0 s0 env.bx (aD env.bx dR) μ w b o→b<w.heap.size∧ ¬ M b o:=by
       intro b o ⟨q1,q2,q3⟩
       refine ⟨q1,fun hm=> ?_⟩
       obtain ⟨i,i1,_,i3,i4⟩:=fr b o hm
       rcases q3 i i1 with ⟨_,_,hq⟩ | hq
       · rw [i3] at hq; cases hq
       · exact hq i4
      refine hmono _ _ ?_ (hT e yI mN _ M x r (fun b o hm=>by obtain ⟨i,i1,_,_,i4⟩:=fr b o hm; exact h.own i i1 b o i4) kr LX hr)
      rintro en w' ⟨vs,s',M',rfl,hw,hks,hs',qZ⟩
      have UW: ∃ s2:St,b_ P S w' s2 M' (e.rs++outs e.ps) r (vs++fE e.ps args.toList)∧(∀ b o,s2 b o→s' b o)∧(BK S e=true∨ ∀ b o, ¬ s2 b o):=by
       cases hlk:BK S e with
       | true=>exact ⟨s',hks,fun _ _ h=>h, .inl rfl⟩
       | false=>
        unfold BK at hlk
        simp only [Bool.not_eq_false'] at hlk
        exact ⟨fun _ _=>False,hks.flat hlk,fun _ _ h=>h.elim, .inr fun _ _ h=>h⟩
      obtain ⟨s2,LC,hs2,hlk⟩:=UW
      obtain ⟨q,M1,M2,us',ws,hq,hv1,hsp,LK,n1,n2,l1,g1,r1,qe⟩:=MB hP.todm e.rs B LC hl
      obtain ⟨rfl,rfl⟩:=bF hq
      have hlen:=b_.length LC
      have hlo:=b_.length LK
      have hla:args.toList.length=e.ps.length:=b_.length kr
      have hol:=GG e.ps args.toList hla
      have hsame:vs=us'∧fE e.ps args.toList=ws:=by
       refine List.append_inj hv1 ?_
       have :=congrArg List.length hv1
       simp only [List.length_append] at this
       omega
      obtain ⟨rfl,rfl⟩:=hsame
      have FH: ∀ b ∈ dN S e.ps Vs, ∀ i,B≤i→i<B+16→i≠b:=by
       rintro b hb i h1 h2 rfl
       have :=List.all_eq_true.1 UB i hb
       rw [show Nat.ble B i=true from Nat.ble_eq_true_of_le h1,show Nat.blt i (B+16)=true from Nat.ble_eq_true_of_le h2] at this
       cases this
      obtain ⟨l2,g2,LA⟩:=mR (P:=P) hP.todm e.ps q.2.2 (oo.later fun b o hs=>have hq:=LX b o (oG S w0 M0 s0 env.bx (aD env.bx dR) μ w b o hs).1; hw.cell b o hq.1 hq.2) Xd (fun b hb i h1 h2=>FH b hb i (by omega) (by omega)) LK
      obtain ⟨g,hag⟩:=cl.both g1 g2 (fun i h1 h2=>by
       rcases h2 with h2 | h2
       · exact FH i h2 i (by omega) (by omega) rfl
       · omega) hsp
      have FG:cl P S w' s2 (fun i=> ∃ u ∈ (q.2.1++fO S q.2.2 e.ps Vs (kN S e.rs (outs e.ps) r).2),u.1=i) (q.2.1++fO S q.2.2 e.ps Vs (kN S e.rs (outs e.ps) r).2) _ M':=
       ⟨fun u hu=>⟨u,hu,rfl⟩,g.one,g.rb,g.lv,g.aN,g.dK,g.ref⟩
      obtain ⟨μ',hI,ia,Le⟩:=h.call (FC:=dN S e.ps Vs) hdf k1 fr hw (fun b o hs=>hs' b o (hs2 b o hs)) qZ FG (fun i hi=>by
       obtain ⟨u,hu,rfl⟩:=hi
       rcases g.gf u hu with h1 | h1 | h1
       · exact .inr (hnew u (List.mem_append.2 (.inr hu)) h1.1 (by omega))
       · exact .inl h1
       · exact .inr (hnew u (List.mem_append.2 (.inr hu)) (by omega) (by omega)))
       (fun b hb=>⟨(od b hb).1,by
        unfold both
        rw [if_neg]
        · exact (LA b hb).1
        · intro hm
          obtain ⟨u,hu,he⟩:=List.mem_map.1 hm
          have :=g1.gf u hu
          rw [he] at this
          exact FH b hb b this.1 (by omega) rfl,by
        obtain ⟨vs,hh,hvs⟩:=(LA b hb).2
        exact ⟨vs,hh,List.mem_append.2 (.inr hvs)⟩⟩) hlk
      have dr:=(qe _ _ (hag _ _ Le).1).mono ia
      refine ⟨_,μ',rfl,hI,II dr,fun j hj=> ?_⟩
      obtain ⟨v,hv,hj⟩:=L4 hj
      obtain ⟨u,hu,he⟩:=r1 v hv j (hj.elim id fun hj=>L3 dr v hv j hj)
      have :=(Le u (List.mem_append.2 (.inl hu))).1
      rw [he] at this
      rw [this]
      simp
   · cases hsel
 · exact hl.elim
theorem R7 (hP:bf P S au) {T:iA S} (hT: ∀ e ∈ T.es,qF P S w0 M0 e) (hF: ∀ e ∈ T.fs,eZ P S e) (h:Inv P S w0 M0 s0 dq env a w μ) (hd: ∀ d,o.dst=some d→d<a.tmps.size) {B:Nat} {ids:List Nat}
 {Vs:List (Sy.V S.C)} {args:Array Value} {f:Nat} (hrun:jM P f→(execOp a.eval o).run P w= .ok (.enter f args) w) (hargs:fT P S w (aO S w0 M0 s0 env.bx μ w) μ env.bx Vs args.toList)
 (hkn: ∀ V ∈ Vs,jN S env.bx (restrict S env.bx ids) V) (hnew: ∀ u ∈ us,B≤u.1→u.1<B+16→env.bx u.1=none)
 (hl:(qM S T B (restrict S env.bx ids) f Vs).leaf (V,us)) (hK:Goal P S w0 M0 s0 dq env a o.dst V us K):o.wp P a w K Q:=by
 have hok:jM P f:=by
  unfold qM at hl
  split at hl
  · rename_i e tk hfind
    obtain ⟨e0,yI,hsel⟩:=List.exists_of_findSome?_eq_some hfind
    split at hsel
    · rename_i mN
      rw [← mN]; exact (hT e0 yI).1
    · cases hsel
  · exact hl.elim
 unfold Oper.wp
 rw [hrun hok]
 refine Calls.mono (Jw (dq:=dq) hP (C:=fun R=>Calls P f args w R) (fun R R' hR hc=>Calls.mono hc hR) (fun e he mN s M x r hM hx hs hr=> ?_) hF h hargs hkn hnew hl) ?_
 · have hc:=(hT e he).2 w s M x args.toList r h.iZ hM hx hs hr
   rw [mN,show args.toList.toArray=args from by simp] at hc
   exact hc
 · rintro en w' ⟨v,μ',rfl,hI,dr,gr⟩
   refine hK _ w' μ' (hI.put hd dr gr) ?_
   cases o.dst <;> simp [Act.put]
end
end Go.Sy
namespace Go.Sy
section
variable {P:Program} {S:bg} {au:Nat→Nat}
variable {w0:World} {M0 s0:St} {dq:List Deferred} {env:Env S.C} {a:Act} {w:World} {μ:Nat→Loc} {K:Act→World→Prop} {Q:Exit→Act→World→Prop} {o:Oper} {V:V S.C} {us:aR S.C}
theorem Inv.world (h:Inv P S w0 M0 s0 dq env a w μ) {w':World} (hw:bq w w' (fun _ _=>False)):
 Inv P S w0 M0 s0 dq env a w' μ∧bX w' (grown (aO S w0 M0 s0 env.bx μ w) w w') w' (aO S w0 M0 s0 env.bx μ w'):=by
 have yN:=h.later (T:=fun _ _=>False) (U:=fun _=>False) (aq:=env.bx) (μ':=μ) hw (fun _ _ h=>h.elim) (fun _ _=>⟨rfl,rfl⟩) (fun _ h=>h.elim)
 refine ⟨h.step (T:=fun _ _=>False) (U:=fun _=>False) hw (fun _ _ h=>h.elim) (fun _ _=>⟨rfl,rfl⟩) (fun _ h=>h.elim) (fun i B0 hi=>⟨B0,hi,cW.refl S _ _⟩) (fun _ _ h=>h.elim) (fun _ _ h=>h.elim) (fun _ _ h=>h.elim), ?_⟩
 rintro b o (hs | ⟨h1,h2⟩)
 · exact ⟨(yN b o hs).1,rfl⟩
 · exact ⟨⟨h2, .inr (.inr (Nat.le_trans h.iZ.size h1)),fun i li hf=>absurd (mO P S (h.cc i) li hf).1 (by omega)⟩,rfl⟩
theorem J1 {bx aq:Bx S.C} : ∀ {ts:List Ty} {Vs:List (Sy.V S.C)},(∀ V ∈ Vs, ∀ i ∈ aI S V,aq i=bx i)→lf S aq ts Vs=lf S bx ts Vs
 | [],[],_=>rfl
 | [],_::_,_=>rfl
 | _::_,[],_=>rfl
 | t::ts,V::Vs,h=>by
  obtain ⟨h1,h2⟩:=yh (t:=t) (h V (by simp))
  simp only [lf,h1,h2]
  rw [J1 fun V hV=>h V (by simp [hV])]
theorem EH {bx:Bx S.C} : ∀ {ts:List Ty} {Vs:List (Sy.V S.C)} {x:ay S.C ts} {us:aR S.C},lf S bx ts Vs=some (x,us)→dj bx us
 | [],[],_,_,h=>by cases h; intro u hu; simp at hu
 | [],_::_,_,_,h=>by cases h
 | _::_,[],_,_,h=>by cases h
 | t::ts,V::Vs,x,us,h=>by
  simp only [lf] at h
  obtain ⟨y,hy,h⟩:=Option.bind_eq_some_iff.1 h
  obtain ⟨⟨z,u2⟩,hz,h⟩:=Option.bind_eq_some_iff.1 h
  cases h
  exact (dj.dH bx V).append (EH hz)
theorem EI (hS:dm S) (h:Inv P S w0 M0 s0 dq env a w μ) {US:aR S.C} (hU:dj env.bx US): ∀ {ts:List Ty} {Vs:List (Sy.V S.C)} {args:List Value} {x:ay S.C ts} {us:aR S.C},
 fT P S w (aO S w0 M0 s0 env.bx μ w) μ env.bx Vs args→lf S env.bx ts Vs=some (x,us)→(∀ u ∈ us,u ∈ US)→gk S w (cA S w0 M0 s0 env.bx (aD env.bx US) μ w) ts x args
 | [],[],_,_,_,hv,h,_=>hv
 | [],_::_,_,_,_,_,h,_=>by cases h
 | _::_,[],_,_,_,_,h,_=>by cases h
 | t::ts,V::Vs,args,x,us,⟨v,r,hargs,h1,h2⟩,hx,hs=>by
  simp only [lf] at hx
  obtain ⟨y,hy,hx⟩:=Option.bind_eq_some_iff.1 hx
  obtain ⟨⟨z,u2⟩,hz,hx⟩:=Option.bind_eq_some_iff.1 hx
  cases hx
  obtain ⟨_,d2⟩:=A6 hS h (Tk.refl S env.bx) h1 hy
  refine ⟨v,r,hargs, ?_, ?_⟩
  · rw [show ay.head (ay.cons y z)=y from by cases ts <;> rfl]
    exact d2.mono S (xu S (hU.tk (us:=dH S env.bx V) fun u hu=>hs u (by simp [hu])))
  · rw [show ay.tail (ay.cons y z)=z from by cases ts <;> rfl]
    exact EI hS h hU h2 hz fun u hu=>hs u (by simp [hu])
theorem Pp {s:St} {bx:Bx S.C} : ∀ {ts:List Ty} {x:ay S.C ts} {us:List Value},gk S w s ts x us→aQ P S w s μ bx (uR S ts x) us∧ ∀ v ∈ uR S ts x,aI S v= []∧aG S v= []
 | [],_,_,h=>⟨h,by simp [uR]⟩
 | t::ts,x,us,⟨v,r,h1,h2,h3⟩=>by
  obtain ⟨h4,h5⟩:=Pp (bx:=bx) h3
  refine ⟨⟨v,r,h1,h2,h4⟩,fun u hu=> ?_⟩
  rcases List.mem_cons.1 hu with rfl | hu
  · exact ⟨rfl,rfl⟩
  · exact h5 u hu
theorem PD (hP:bf P S au) (h:Inv P S w0 M0 s0 dq env a w μ) (hd: ∀ d,o.dst=some d→d<a.tmps.size) {f:Nat} {args:Array Value} {us:aR S.C} (hfz:dj env.bx us) {r:List Ty} {y:ay S.C r}
 (hrun:(execOp a.eval o).run P w= .ok (.enter f args) w)
 (hc:Calls P f args w fun e w'=> ∃ us',e= .returned (lS us')∧bq w w' (fun _ _=>False)∧gk S w' (grown (aO S w0 M0 s0 (aD env.bx us) μ w) w w') r y us')
 (hK:Goal P S w0 M0 s0 dq env a o.dst (sF S (uR S r y)) us K):o.wp P a w K Q:=by
 have h1:=h.tk hfz.qu
 unfold Oper.wp
 rw [hrun]
 refine Calls.mono hc ?_
 rintro en w' ⟨vs,rfl,hw,ko⟩
 obtain ⟨h2,hl⟩:=h1.world hw
 obtain ⟨h3,h4⟩:=Pp (P:=P) (μ:=μ) (bx:=aD env.bx us) (ko.mono S hl)
 refine hK _ w' μ (h2.put hd (II h3) fun j hj=> ?_) ?_
 · obtain ⟨v,hv,hj⟩:=L4 hj
   obtain ⟨e1,e2⟩:=h4 v hv
   rw [e1,e2] at hj
   simp at hj
 · cases o.dst <;> simp [Act.put]
theorem R8 (hP:bf P S au) {T:iA S} (hT: ∀ e ∈ T.es,qF P S w0 M0 e) (hF: ∀ e ∈ T.fs,eZ P S e) (h:Inv P S w0 M0 s0 dq env a w μ) (hd: ∀ d,o.dst=some d→d<a.tmps.size) {B:Nat} {ids:List Nat}
 {c:Call} (ho:o.op= .call c) {f:Operand} (hc:c.callee= .value f) {Vs:List (Sy.V S.C)} {Vf:Sy.V S.C} (hargs:c.args.toList.mapM (aX S env.tm)=some Vs) (hf:aX S env.tm f=some Vf)
 (hkn: ∀ V ∈ Vs,jN S env.bx (restrict S env.bx ids) V) (U7:jN S env.bx (restrict S env.bx ids) Vf) (hnew: ∀ u ∈ us,B≤u.1→u.1<B+16→env.bx u.1=none)
 (hl:(xW S T B (restrict S env.bx ids) Vs Vf).leaf (V,us)) (hK:Goal P S w0 M0 s0 dq env a o.dst V us K):o.wp P a w K Q:=by
 obtain ⟨hvs,_⟩:=AG h hargs
 obtain ⟨BB,_⟩:=bD h hf
 have vF: ∀ {ts:List Ty} {x:ay S.C ts} {us:aR S.C},lf S (restrict S env.bx ids) ts Vs=some (x,us)→lf S env.bx ts Vs=some (x,us):=fun hx=>by
  rw [J1 (bx:=env.bx) fun V hV i hi=>(hkn V hV i hi).1] at hx; exact hx
 cases Vf with
 | fv A R g=>
  simp only [xW] at hl
  split at hl
  · rename_i x us' hx
    obtain ⟨y,hy,hl⟩:=hl
    obtain ⟨rfl,rfl⟩:=bF hl
    have hx:=vF hx
    have hfz:=EH hx
    have ko:=(EI hP.todm h hfz hvs hx fun u hu=>hu).mono S (Dq hfz.qu)
    have BB:nB P S w (aO S w0 M0 s0 env.bx μ w) A R g (a.eval f):=BB
    obtain ⟨g',first,cap,he,hok,tV⟩:=BB
    have :=tV w _ (O6 hfz.qu) (h.tF.at h.iZ fun _ _ h=>h.elim) x _ y ko hy
    refine PD hP h hd hfz (HJ ho hc he hok) ?_ hK
    rw [show (c.args.toList.map a.eval).toArray=c.args.map a.eval from by rw [← Array.toList_map,Array.toArray_toList]] at this
    exact this
  · exact hl.elim
 | fX g vs=>
  obtain ⟨cs,he,hcs⟩:=BB
  cases vs with
  | nil=>
   simp only [xW] at hl
   have FB:cs= #[]:=by have h0:cs.toList= []:=hcs; exact Array.toList_eq_nil_iff.1 h0
   subst FB
   refine R7 hP hT hF h hd (args:=c.args.map a.eval) (fun hok=> ?_) (by simpa using hvs) hkn hnew hl hK
   have :=HJ (w:=w) ho hc he hok
   simpa using this
  | cons v vs=>
   simp only [xW] at hl
   split at hl
   · rename_i e hfind
     split at hl
     · rename_i y x us' hy hx
       obtain ⟨z,hz,hl⟩:=hl
       obtain ⟨rfl,rfl⟩:=bF hl
       have hx:=vF hx
       have hfz:=EH hx
       have ko:=(EI hP.todm h hfz hvs hx fun u hu=>hu).mono S (Dq hfz.qu)
       have hmem:=List.mem_of_find?_eq_some hfind
       have mN:e.f=g:=by simpa using List.find?_some hfind
       obtain ⟨hok,tV⟩:=hF e hmem
       rw [mN] at hok tV
       have hy:caps S env.bx e.c (v::vs)=some y:=by
        rw [← Ei (bx:=env.bx) (aq:=restrict S env.bx ids) fun u hu i hi=>have q:=U7 i (by simp only [aI,List.mem_flatMap]; exact ⟨u,hu,hi⟩); ⟨q.1,q.2.1⟩]
        exact hy
       have hcap:=Ej hP.todm h (Tk.refl S env.bx) e.c hcs hy
       have hcap2:iw S w (aO S w0 M0 s0 (aD env.bx us) μ w) e.c y cs.toList:=by
        refine iw.mono ?_ _ _ _ hcap
        exact (xu S hfz.qu).trans (Dq hfz.qu)
       refine PD hP h hd hfz (HJ ho hc he hok) ?_ hK
       have :=tV w _ x y z (c.args.toList.map a.eval) cs.toList (h.tF.at h.iZ fun _ _ h=>h.elim) ko hcap2 hz
       rw [show (c.args.toList.map a.eval++cs.toList).toArray= #[]++c.args.map a.eval++cs from by simp] at this
       exact this
     · exact hl.elim
   · exact hl.elim
 | _=>exact hl.elim
theorem Fa {bx gp:Bx S.C} : ∀ (vs:List (Sy.V S.C)) (u:Nat×dZ S.C),u ∈ mJ S gp vs→(∀ i B,gp i=some B→bx i=some B)→ ∃ ws,u.2= .bU ws∧bx u.1=some (.cells ws)
 | [],u,hu,_=>by simp [mJ] at hu
 | v::vs,u,hu,h=>by
  cases v with
  | ptr b off=>
   simp only [mJ,List.mem_append] at hu
   rcases hu with hu | hu
   · split at hu
     · rename_i ws hb
       simp at hu
       subst hu
       exact ⟨ws,rfl,h _ _ hb⟩
     · simp at hu
   · exact Fa vs u hu h
  | _=>exact Fa vs u hu h
theorem KI {bx:Bx S.C} {i:Nat} : ∀ {us:aR S.C} (aq:Bx S.C),(∀ u ∈ us, ∃ ws,u.2= .bU ws∧bx u.1=some (.cells ws))→aD aq us i=aq i∨ ∃ ws,bx i=some (.cells ws)∧aD aq us i=some (.bU ws)
 | [],_,_=> .inl rfl
 | u::us,aq,h=>by
  rcases KI (us:=us) (aC aq u.1 (some u.2)) (fun v hv=>h v (by simp [hv])) with h1 | h1
  · by_cases e:i=u.1
    · right
      obtain ⟨ws,h2,h3⟩:=h u (by simp)
      refine ⟨ws,e▸h3, ?_⟩
      show aD (aC aq u.1 (some u.2)) us i=_
      rw [h1,e,aY,h2]
    · left
      show aD (aC aq u.1 (some u.2)) us i=_
      rw [h1,br _ _ e]
  · exact .inr h1
theorem Inv.Bi (h:Inv P S w0 M0 s0 dq env a w μ) {aq:Bx S.C} (hk: ∀ i,aq i=env.bx i∨ ∃ ws,env.bx i=some (.cells ws)∧aq i=some (.bU ws)):Inv P S w0 M0 s0 dq { env with bx:=aq } a w μ:=by
 have hlv: ∀ i,live S aq i→aq i=env.bx i:=fun i hi=>by
  rcases hk i with e | ⟨ws,_,e⟩
  · exact e
  · unfold live at hi; rw [e] at hi; exact hi.elim
 have hf: ∀ i, ¬ aq i=env.bx i→live S aq i→False:=fun i hi hl=>hi (hlv i hl)
 have hl:bX w (aO S w0 M0 s0 env.bx μ w) w (aO S w0 M0 s0 aq μ w):=h.later (T:=fun _ _=>False) (U:=fun i=> ¬ aq i=env.bx i) (bq.refl w _) (fun _ _ h=>h.elim) (fun i hi=>⟨Classical.not_not.1 hi,rfl⟩) (fun i hi hl=>(hf i hi hl).elim)
 have hc: ∀ i B0,env.bx i=some B0→ ∃ B,aq i=some B∧cW S (μ i) (μ i) B0 B:=fun i B0 bQ=>by
  rcases hk i with e | ⟨ws,e1,e2⟩
  · exact ⟨B0,e.trans bQ,cW.refl S _ _⟩
  · rw [bQ] at e1; cases e1
    exact ⟨_,e2,rfl⟩
 refine h.step (T:=fun _ _=>False) (U:=fun i=> ¬ aq i=env.bx i) (bq.refl w _) (fun _ _ h=>h.elim) (fun i hi=>⟨Classical.not_not.1 hi,rfl⟩)
  (fun i hi hl=>(hf i hi hl).elim) hc (fun i _ hi _ _ hl=>(hf i hi hl).elim) (fun i B hi hB=> ?_) (fun i vs hi hvs v hv j hj=> ?_)
 · rcases hk i with e | ⟨ws,e1,e2⟩
   · exact absurd e hi
   · rw [e2] at hB
     cases hB
     obtain ⟨g1,g2,g3,cs,g4,g5⟩:=h.cc i _ e1
     have cg:live S env.bx i:=by unfold live; rw [e1]; trivial
     have hlen:=aQ.length P S g5
     refine ⟨g1,cs,fun j u hj=>⟨g4 j u hj, ?_⟩,aQ.step P S hl hc (h.lQ i ws (.inl e1)) g5⟩
     have hj':=(List.getElem?_eq_some_iff.1 hj).1
     have jc:(μ i).aN (μ i).b ((μ i).o+j):=⟨rfl,by omega,by omega⟩
     refine ⟨(mO P S (h.cc i) cg jc).1,(h.own i cg _ _ jc).elim (fun h=> .inr (.inr h)) (fun h=> .inr (.inl h)),fun q hq vH=> ?_⟩
     refine h.dK q i (fun e=> ?_) ((eI S (hlv q hq)).1 hq) cg _ _ vH jc
     subst e
     unfold live at hq; rw [e2] at hq; exact hq
 · rcases hk i with e | ⟨ws,e1,e2⟩
   · exact absurd e hi
   · rw [e2] at hvs
     rcases hvs with hvs | hvs
     · cases hvs
     · cases hvs
       have :=h.lQ i _ (.inl e1) v hv j hj
       obtain ⟨B0,bQ⟩:=Option.ne_none_iff_exists'.1 this
       obtain ⟨B',iE,_⟩:=hc j B0 bQ
       rw [iE]; simp
theorem IF {s:St} {bx:Bx S.C} : ∀ {vs:List (Sy.V S.C)} {cs:List Value},vs.all (bS S)=true→fT P S w s μ bx vs cs→aQ P S w s μ bx vs cs
 | [],_,_,h=>h
 | v::vs,_,hs,⟨c,r,h1,h2,h3⟩=>by
  simp only [List.all_cons,Bool.and_eq_true] at hs
  refine ⟨c,r,h1, ?_,IF hs.2 h3⟩
  cases v <;> first | exact h2 | simp [bS] at hs
theorem WV (h:Inv P S w0 M0 s0 dq env a w μ) (hd: ∀ d,o.dst=some d→d<a.tmps.size) {f:Nat} {cs:Array Operand} {ids:List Nat} (ho:o.op= .makeFunc (.func f) #[] cs)
 (hl:(match cs.toList.mapM (aX S env.tm) with
  | some vs=>cond (vs.all (bS S)) (aL S (.fX f vs) (mJ S (restrict S env.bx ids) vs)) .fail
  | none=> .fail).leaf (V,us)) (hK:Goal P S w0 M0 s0 dq env a o.dst V us K):o.wp P a w K Q:=by
 split at hl
 · rename_i vs hvs
   cases hs:vs.all (bS S) with
   | false=>rw [hs] at hl; exact hl.elim
   | true=>
    rw [hs,cond_true] at hl
    obtain ⟨rfl,rfl⟩:=bF hl
    obtain ⟨h1,h2⟩:=AG h hvs
    have h3:=IF hs h1
    have hall: ∀ i,aD env.bx (mJ S (restrict S env.bx ids) vs) i=env.bx i∨ ∃ ws,env.bx i=some (.cells ws)∧aD env.bx (mJ S (restrict S env.bx ids) vs) i=some (.bU ws):=fun i=>
     KI env.bx fun u hu=>Fa vs u hu fun i B hB=>fH hB
    have hI:=h.Bi hall
    have hc: ∀ i B0,env.bx i=some B0→ ∃ B,aD env.bx (mJ S (restrict S env.bx ids) vs) i=some B∧cW S (μ i) (μ i) B0 B:=fun i B0 bQ=>by
     rcases hall i with e | ⟨ws,e1,e2⟩
     · exact ⟨B0,e.trans bQ,cW.refl S _ _⟩
     · rw [bQ] at e1; cases e1
       exact ⟨_,e2,rfl⟩
    have yN:bX w (aO S w0 M0 s0 env.bx μ w) w (aO S w0 M0 s0 (aD env.bx (mJ S (restrict S env.bx ids) vs)) μ w):=fun b o ⟨q1,q2,q3⟩=>⟨⟨q1,q2,fun i hi=>q3 i (by
     rcases hall i with e | ⟨ws,_,e⟩
     · exact (eI S e).1 hi
     · unfold live at hi; rw [e] at hi; exact hi.elim)⟩,rfl⟩
    have gr: ∀ v ∈ vs, ∀ j ∈ aG S v,env.bx j≠none:=fun v hv j hj=>by
     obtain ⟨x,hx,he⟩:=h2 v hv
     refine (bD h he).2 j ?_
     cases v <;> first | exact hj | simp [aG] at hj
    unfold Oper.wp
    have hrun:(execOp a.eval o).run P w= .ok (.value (.func (.func f) #[] (cs.map a.eval))) w:=by
     unfold execOp
     simp only [ho]
     simp [Instr.makeFunc]
    rw [hrun]
    refine hK _ w μ (hI.put hd (V:= .fX f vs) ⟨_,rfl, ?_⟩ fun j hj=> ?_) ?_
    · have :=aQ.step P S yN hc gr h3
      simpa using this
    · simp only [aI,List.mem_flatMap] at hj
      obtain ⟨v,hv,hj⟩:=hj
      obtain ⟨B0,bQ⟩:=Option.ne_none_iff_exists'.1 (gr v hv j hj)
      obtain ⟨B',iE,_⟩:=hc j B0 bQ
      dsimp only
      rw [iE]; simp
    · cases o.dst <;> simp [Act.put]
 · exact hl.elim
theorem WY (h:Inv P S w0 M0 s0 dq env a w μ) (hd: ∀ d,o.dst=some d→d<a.tmps.size) {c:Call} (ho:o.op= .call c) {b:Builtin} (hc:c.callee= .builtin b) {args:List (Sy.V S.C)}
 (hargs:c.args.toList.mapM (aX S env.tm)=some args)
 (hl:(match args with
  | [v,w]=>match v.int?,w.int? with
   | some (k,x),some (k',y)=>if k=k' then match b with
    | .min=>aL S (.d (.int k) (Min.min (α:=Int) x y)) []
    | .max=>aL S (.d (.int k) (Max.max (α:=Int) x y)) []
    | _=>Tr.fail else Tr.fail
   | _,_=>Tr.fail
  | _=>Tr.fail).leaf (V,us)) (hK:Goal P S w0 M0 s0 dq env a o.dst V us K):o.wp P a w K Q:=by
 split at hl
 · rename_i v u
   obtain ⟨xs,xx,hxs,pF,hex⟩:=Jc hargs
   have har:c.args= #[xs,xx]:=by
    have :c.args=c.args.toList.toArray:=by simp
    rw [this,hxs]
   split at hl
   · rename_i k x k' y hv hu
     split at hl
     · rename_i hkk
       subst hkk
       have e1:=jW (bD h pF).1 hv
       have e2:=jW (bD h hex).1 hu
       split at hl
       · obtain ⟨rfl,rfl⟩:=bF hl
         refine wp_pure (V:= .d (.int k) (Min.min (α:=Int) x y)) h (v:= .int k (Min.min x y)) ?_ hd (jz ..) (by simp [aI,aG]) hK
         unfold execOp
         simp only [ho]
         simp [resolve,hc,har,e1,e2,invoke,builtin,Builtin.min_,Builtin.min2]
         split <;> first | omega | (simp; omega)
       · obtain ⟨rfl,rfl⟩:=bF hl
         refine wp_pure (V:= .d (.int k) (Max.max (α:=Int) x y)) h (v:= .int k (Max.max x y)) ?_ hd (jz ..) (by simp [aI,aG]) hK
         unfold execOp
         simp only [ho]
         simp [resolve,hc,har,e1,e2,invoke,builtin,Builtin.max_,Builtin.max2]
         split <;> first | omega | (simp; omega)
       · exact hl.elim
     · exact hl.elim
   · exact hl.elim
 · exact hl.elim
end
end Go.Sy
namespace Go.Sy
section
variable {P:Program} {S:bg} {au:Nat→Nat}
variable {w0:World} {M0 s0:St} {dq:List Deferred} {env:Env S.C} {a:Act} {w:World} {μ:Nat→Loc} {K:Act→World→Prop} {Q:Exit→Act→World→Prop} {o:Oper} {V:V S.C} {us:aR S.C}
theorem Jf {s:St} {bx:Bx S.C} {e:Ty} (he:bA e=false) {V:Sy.V S.C} {v:Value} {x:e.den S.C} (hv:bI P S w s μ bx V v) (hx:dn S (fun _=>none) e V=some x): ∃ n,aM S w s n e x [v]:=by
 have hd: ∀ (u:Ty) (y:u.den S.C),cy S w s u y v→eV S u e y=some x→ ∃ n,aM S w s n e x [v]:=by
  intro u y hr hc
  obtain ⟨rfl,rfl⟩:=eG hc
  obtain ⟨h1,n,hn⟩:=hr
  rw [aM.mB h1 he] at hn
  exact ⟨n,hn⟩
 cases V with
 | d u y=>exact hd u y hv hx
 | pr p i=>
  obtain ⟨rfl,rfl⟩:=eG hx
  cases hv
  exact ⟨1,rfl⟩
 | bk b e l=>exact hd (.sl e) l hv.1 hx
 | cO=>
  cases e with
  | sl e=>
   cases hx
   cases hv
   exact ⟨1,none,0,rfl,Nat.le_refl _, .inl rfl⟩
  | _=>cases hx
 | _=>cases hx
theorem Pk {s:St} {bx:Bx S.C} : ∀ (ts:List Ty) (hts:ts.all (fun t=> !bA t)=true) {vs:List (Sy.V S.C)} {cs:List Value} {x:ay S.C ts},aQ P S w s μ bx vs cs→iQ S (fun _=>none) ts vs=some x→ ∃ n,bG S (fun t x cs=>aM S w s n t x cs) ts x (cs.take ts.length)
 | [],_,_,cs,_,_,_=>⟨0,by simp [bG]⟩
 | t::ts,hts,[],_,_,_,hx=>by simp [iQ] at hx
 | t::ts,hts,V::vs,cs,x,⟨c,r,hcs,hv,hr⟩,hx=>by
  simp only [List.all_cons,Bool.and_eq_true,Bool.not_eq_true'] at hts
  simp only [iQ] at hx
  obtain ⟨y,hy,hx⟩:=Option.bind_eq_some_iff.1 hx
  obtain ⟨z,hz,hx⟩:=Option.bind_eq_some_iff.1 hx
  cases hx
  obtain ⟨n,hn⟩:=Jf hts.1 hv hy
  obtain ⟨m,hm⟩:=Pk ts hts.2 hr hz
  refine ⟨max n m,c,r.take ts.length,by simp [hcs], ?_, ?_⟩
  · rw [show ay.head (ay.cons y z)=y from by cases ts <;> rfl]
    exact hn.up S (by omega)
  · rw [show ay.tail (ay.cons y z)=z from by cases ts <;> rfl]
    exact bG.mono S (fun t x cs hr=>hr.up S (by omega)) _ _ _ hm
theorem J2 (hP:bf P S au) {s:St} {bx:Bx S.C} {u:Nat} {V:Sy.V S.C} {v:Value} {x:S.C u} (hv:RV P S w s μ bx V v) (hx:datum S (fun _=>none) (.st u) V=some x): ∃ cs n,v= .agg cs∧bG S (fun t x cs=>aM S w s n t x cs) (S.F u) (S.ex u x) cs.toList:=by
 cases V with
 | agg u' vs=>
  simp only [datum] at hx
  split at hx
  · rename_i hu
    obtain ⟨cs,g1,g2,g3,g4⟩:=hv
    simp only [jd] at hx
    obtain ⟨y,hy,hx⟩:=Option.bind_eq_some_iff.1 hx
    cases hx
    obtain ⟨n,hn⟩:=Pk (S.F u) (hP.flat u) g4 hy
    have hlen:=aQ.length P S g4
    rw [List.take_of_length_le (by rw [hlen,g2,hu]; exact Nat.le_refl _)] at hn
    refine ⟨cs,n,g1, ?_⟩
    rw [hP.vq]
    exact hn
  · cases hx
 | d t y=>
  simp only [datum] at hx
  obtain ⟨rfl,h2⟩:=eG hx
  cases h2
  obtain ⟨ha,n,hr⟩:=hv
  have : ∃ cs,v= .agg cs:=by
   cases v <;> first | exact ⟨_,rfl⟩ | (simp [Go.Sy.isAgg,bA] at ha)
  obtain ⟨cs,rfl⟩:=this
  cases n with
  | zero=>exact hr.elim
  | succ n=>exact ⟨cs,n,rfl,hr⟩
 | _=>cases hx
theorem Ba {t:Ty} {ts:List Ty} (x y:ay S.C (t::ts)):jS S (t::ts) x y↔vp S t (ay.head x) (ay.head y)∧jS S ts (ay.tail x) (ay.tail y):=by
 cases ts with
 | nil=>exact ⟨fun h=>⟨h,trivial⟩,fun h=>h.1⟩
 | cons u ts=>exact Iff.rfl
theorem aak (hP:bf P S au) {s:St} {n m:Nat} {t:Nat} {T:Ty} (h4:match T with | .int _=>True | .bool=>True | .str=>True | _=>False) (h3:S.ty t=some T) {x y:T.den S.C} {c c':Value} (e2:aM S w s n T x [c]) (f2:aM S w s m T y [c']) (d:Nat):
 ∃ b0,(Op.equalIn (d+1) t c c').run P w= .ok b0 w∧(b0=true↔vp S T x y):=by
 have hty:=(hP.ty t T h3).2
 cases n with
 | zero=>exact e2.elim
 | succ n=>
 cases m with
 | zero=>exact f2.elim
 | succ m=>
 cases T with
 | int k=>
  have e2: [c]= [Value.int k _]:=e2
  have f2: [c']= [Value.int k _]:=f2
  cases e2; cases f2
  exact ⟨_,run_equalIn_int w d t k k _ _ hty,by show _↔ @Eq Int _ _; exact beq_iff_eq⟩
 | bool=>
  have e2: [c]= [Value.bool _]:=e2
  have f2: [c']= [Value.bool _]:=f2
  cases e2; cases f2
  exact ⟨_,run_equalIn_bool' w d t _ _ hty,by show _↔ @Eq Bool _ _; exact beq_iff_eq⟩
 | str=>
  have e2: [c]= [Value.string ⟨List.toArray _⟩]:=e2
  have f2: [c']= [Value.string ⟨List.toArray _⟩]:=f2
  cases e2; cases f2
  exact ⟨_,run_equalIn_string w d t _ _ hty,by show _↔ @Eq (List UInt8) _ _; rw [ByteArray.toList_eq,ByteArray.toList_eq]; exact beq_iff_eq⟩
 | st u=>exact h4.elim
 | sl e=>exact h4.elim
 | pt=>exact h4.elim
theorem Ow (hP:bf P S au) {s:St} {d:Nat} {n m:Nat} : ∀ (fs:List Field) (ts:List Ty) (i:Nat) (xs ys:Array Value) (x y:ay S.C ts),xG S fs ts i→
 bG S (fun t x cs=>aM S w s n t x cs) ts x (xs.toList.drop i)→bG S (fun t x cs=>aM S w s m t x cs) ts y (ys.toList.drop i)→ ∃ b,(Op.eqFields (d+1) xs ys fs).run P w= .ok b w∧(b=true↔jS S ts x y)
 | [],[],_,_,_,_,_,_,_,_=>⟨true,by simp [Op.eqFields],by simp [jS]⟩
 | [],_::_,_,_,_,_,_,h,_,_=>h.elim
 | _::_,[],_,_,_,_,_,h,_,_=>h.elim
 | fd::fs,T::ts,i,xs,ys,x,y,⟨h1,h2,h3,h4,h5⟩,⟨c,r,e1,e2,e3⟩,⟨c',r',f1,f2,f3⟩=>by
  have nx:xs.toList.drop (i+1)=r:=by rw [← List.drop_drop,e1]; rfl
  have ny:ys.toList.drop (i+1)=r':=by rw [← List.drop_drop,f1]; rfl
  obtain ⟨b,g1,g2⟩:=Ow hP (d:=d) fs ts (i+1) xs ys (ay.tail x) (ay.tail y) h5 (by rw [nx]; exact e3) (by rw [ny]; exact f3)
  have hsz:Ty.sz S T=1∧bA T=false:=by cases T <;> first | exact ⟨rfl,rfl⟩ | exact h4.elim
  have Ve:i<xs.size:=by
   have :=congrArg List.length e1
   simp at this; omega
  have Vg:i<ys.size:=by
   have :=congrArg List.length f1
   simp at this; omega
  have hm: ∀ ds,fD T ds=ds.headD Go.undef:=by intro ds; cases T <;> first | rfl | exact h4.elim
  have px:=qd hP h3 (cs:=xs) (off:=i) (by rw [hsz.1]; omega) w
  have py:=qd hP h3 (cs:=ys) (off:=i) (by rw [hsz.1]; omega) w
  rw [hm,e1,hsz.1] at px
  rw [hm,f1,hsz.1] at py
  have px:(part fd.type xs i).run P w= .ok c w:=px
  have py:(part fd.type ys i).run P w= .ok c' w:=py
  have heq: ∃ b0,(Op.equalIn (d+1) fd.type c c').run P w= .ok b0 w∧(b0=true↔vp S T (ay.head x) (ay.head y)):=by
   have hty:=(hP.ty fd.type T h3).2
   cases n with
   | zero=>exact e2.elim
   | succ n=>
   cases m with
   | zero=>exact f2.elim
   | succ m=>
   cases T with
   | int k=>
    have e2: [c]= [Value.int k _]:=e2
    have f2: [c']= [Value.int k _]:=f2
    cases e2; cases f2
    exact ⟨_,run_equalIn_int w d fd.type k k _ _ hty,by show _↔ @Eq Int _ _; exact beq_iff_eq⟩
   | bool=>
    have e2: [c]= [Value.bool _]:=e2
    have f2: [c']= [Value.bool _]:=f2
    cases e2; cases f2
    exact ⟨_,run_equalIn_bool' w d fd.type _ _ hty,by show _↔ @Eq Bool _ _; exact beq_iff_eq⟩
   | str=>
    have e2: [c]= [Value.string ⟨List.toArray _⟩]:=e2
    have f2: [c']= [Value.string ⟨List.toArray _⟩]:=f2
    cases e2; cases f2
    exact ⟨_,run_equalIn_string w d fd.type _ _ hty,by show _↔ @Eq (List UInt8) _ _; rw [ByteArray.toList_eq,ByteArray.toList_eq]; exact beq_iff_eq⟩
   | st u=>exact h4.elim
   | sl e=>exact h4.elim
   | pt=>exact h4.elim
  obtain ⟨b0,k1,k2⟩:=heq
  rw [Ba]
  simp only [Op.eqFields,h2,ne_eq,not_false_eq_true,if_true,h1,Sem.run_bind,px,py,k1,Result.andThen_ok]
  cases b0 with
  | true=>
   simp only [Bool.not_true,Bool.false_eq_true,if_false]
   exact ⟨b,g1,by rw [g2]; exact ⟨fun h=>⟨k2.1 rfl,h⟩,fun h=>h.2⟩⟩
  | false=>
   simp only [Bool.not_false,if_true,Sem.run_pure]
   exact ⟨false,rfl,fun h=>(by cases h),fun h=>(by have :=k2.2 h.1; cases this)⟩
def qw:(ts us:List Ty)→ay S.C (ts++us)→ay S.C ts
 | [],_,_=>()
 | _::ts,us,x=>ay.cons (ay.head x) (qw ts us (ay.tail x))
def Ah:(ts us:List Ty)→ay S.C (ts++us)→ay S.C us
 | [],_,x=>x
 | _::ts,us,x=>Ah ts us (ay.tail x)
theorem head_cons {t:Ty} {ts:List Ty} (x:t.den S.C) (r:ay S.C ts):ay.head (ay.cons x r)=x:=by cases ts <;> rfl
theorem tail_cons {t:Ty} {ts:List Ty} (x:t.den S.C) (r:ay S.C ts):ay.tail (ay.cons x r)=r:=by cases ts <;> rfl
theorem Ko: ∀ (ts us:List Ty) (x y:ay S.C (ts++us)),jS S (ts++us) x y↔jS S ts (qw ts us x) (qw ts us y)∧jS S us (Ah ts us x) (Ah ts us y)
 | [],us,x,y=>by
  show _↔True∧_
  rw [true_and]; rfl
 | t::ts,us,x,y=>by
  have h:=Ba (S:=S) (t:=t) (ts:=ts++us) x y
  have h2:=Ba (S:=S) (t:=t) (ts:=ts) (qw (t::ts) us x) (qw (t::ts) us y)
  show jS S (t::(ts++us)) x y↔_
  rw [h,h2,Ko ts us]
  simp only [qw,Ah,head_cons,tail_cons]
  exact and_assoc.symm
theorem DI {R:(t:Ty)→t.den S.C→List Value→Prop} : ∀ (ts us:List Ty) (x:ay S.C (ts++us)) (cs:List Value),bG S R (ts++us) x cs→bG S R ts (qw ts us x) (cs.take ts.length)∧bG S R us (Ah ts us x) (cs.drop ts.length)∧ts.length≤cs.length
 | [],us,x,cs,h=>⟨rfl,h,Nat.zero_le _⟩
 | t::ts,us,x,cs,⟨c,r,hc,h1,h2⟩=>by
  subst hc
  obtain ⟨a,b,l⟩:=DI ts us _ _ h2
  refine ⟨⟨c,r.take ts.length,rfl, ?_, ?_⟩,b,by simpa using l⟩
  · simp only [qw,head_cons]; exact h1
  · simp only [qw,tail_cons]; exact a
theorem HK (hP:bf P S au) {s:St} {d:Nat} {n m:Nat} : ∀ (fs:List Field) (ts:List Ty) (i:Nat) (xs ys:Array Value) (x y:ay S.C ts),xH P S fs ts i→
 bG S (fun t x cs=>aM S w s n t x cs) ts x (xs.toList.drop i)→bG S (fun t x cs=>aM S w s m t x cs) ts y (ys.toList.drop i)→ ∃ b,(Op.eqFields (d+3) xs ys fs).run P w= .ok b w∧(b=true↔jS S ts x y)
 | [],ts,_,_,_,_,_,h,_,_=>by
  have h:ts= []:=h
  subst h
  exact ⟨true,by simp [Op.eqFields],by simp [jS]⟩
 | fd::fs,ts,i,xs,ys,x,y,⟨h1,h2,h3⟩,hx,hy=>by
  have step: ∀ (b0 b:Bool) (c c':Value) (A B:Prop),(part fd.type xs i).run P w= .ok c w→(part fd.type ys i).run P w= .ok c' w→(Op.equalIn (d+3) fd.type c c').run P w= .ok b0 w→(b0=true↔A)→(Op.eqFields (d+3) xs ys fs).run P w= .ok b w→(b=true↔B)→
   ∃ b,(Op.eqFields (d+3) xs ys (fd::fs)).run P w= .ok b w∧(b=true↔A∧B):=by
   intro b0 b c c' A B px py k1 k2 g1 g2
   simp only [Op.eqFields,h2,ne_eq,not_false_eq_true,if_true,h1,Sem.run_bind,px,py,k1,Result.andThen_ok]
   cases b0 with
   | true=>
    simp only [Bool.not_true,Bool.false_eq_true,if_false]
    exact ⟨b,g1,by rw [g2]; exact ⟨fun h=>⟨k2.1 rfl,h⟩,fun h=>h.2⟩⟩
   | false=>
    simp only [Bool.not_false,if_true,Sem.run_pure]
    exact ⟨false,rfl,fun h=>(by cases h),fun h=>(by have :=k2.2 h.1; cases this)⟩
  rcases h3 with ⟨T,r,rfl,hty,hsc,h5⟩ | ⟨v,r,gs,rfl,hty,hu,hsi,hpos,hfl,h5⟩
  · obtain ⟨c,cr,e1,e2,e3⟩:=hx
    obtain ⟨c',Ta,f1,f2,f3⟩:=hy
    have nx:xs.toList.drop (i+1)=cr:=by rw [← List.drop_drop,e1]; rfl
    have ny:ys.toList.drop (i+1)=Ta:=by rw [← List.drop_drop,f1]; rfl
    obtain ⟨b,g1,g2⟩:=HK hP (d:=d) fs r (i+1) xs ys (ay.tail x) (ay.tail y) h5 (by rw [nx]; exact e3) (by rw [ny]; exact f3)
    have h1f:xG S [fd] [T] i:=⟨h1,h2,hty,hsc,trivial⟩
    have hsz:Ty.sz S T=1∧bA T=false:=by cases T <;> first | exact ⟨rfl,rfl⟩ | exact hsc.elim
    have Ve:i<xs.size:=by
     have :=congrArg List.length e1
     simp at this; omega
    have Vg:i<ys.size:=by
     have :=congrArg List.length f1
     simp at this; omega
    have hm: ∀ ds,fD T ds=ds.headD Go.undef:=by intro ds; cases T <;> first | rfl | exact hsc.elim
    have px:=qd hP hty (cs:=xs) (off:=i) (by rw [hsz.1]; omega) w
    have py:=qd hP hty (cs:=ys) (off:=i) (by rw [hsz.1]; omega) w
    rw [hm,e1,hsz.1] at px
    rw [hm,f1,hsz.1] at py
    have px:(part fd.type xs i).run P w= .ok c w:=px
    have py:(part fd.type ys i).run P w= .ok c' w:=py
    obtain ⟨b0,k1,k2⟩:=aak (w:=w) hP hsc hty e2 f2 (d+2)
    rw [Ba]
    exact step b0 b c c' _ _ px py k1 k2 g1 g2
  · obtain ⟨x1,x2,lx⟩:=DI (S.F v) r x _ hx
    obtain ⟨y1,y2,ly⟩:=DI (S.F v) r y _ hy
    rw [List.drop_drop] at x2 y2
    obtain ⟨b,g1,g2⟩:=HK hP (d:=d) fs r (i+(S.F v).length) xs ys _ _ h5 x2 y2
    rw [List.length_drop] at lx ly
    have px:=qd hP hty (cs:=xs) (off:=i) (by show i+(S.F v).length≤_; have :xs.toList.length=xs.size:=Array.length_toList; omega) w
    have py:=qd hP hty (cs:=ys) (off:=i) (by show i+(S.F v).length≤_; have :ys.toList.length=ys.size:=Array.length_toList; omega) w
    have hfo:P.underlying fd.type=some (.struct (P.fieldsOf fd.type)):=by unfold Program.fieldsOf; rw [hu]
    have FD:P.fieldsOf fd.type=gs:=by unfold Program.fieldsOf; rw [hu]
    obtain ⟨b0,k1,k2⟩:=Ow hP (d:=d+1) gs.toList (S.F v) 0 ((xs.toList.drop i).take (S.F v).length).toArray ((ys.toList.drop i).take (S.F v).length).toArray _ _ hfl (by simpa using x1) (by simpa using y1)
    rw [Ko]
    refine step b0 b (.agg ((xs.toList.drop i).take (S.F v).length).toArray) (.agg ((ys.toList.drop i).take (S.F v).length).toArray) _ _ px py ?_ k2 g1 g2
    rw [run_equalIn_agg w (d+2) fd.type _ _ hfo hsi,FD]
    exact k1
theorem aa9 (hP:bf P S au) (h:Inv P S w0 M0 s0 dq env a w μ) (hd: ∀ d,o.dst=some d→d<a.tmps.size) {op:BinOp} {t t':TypeId} {x y:Operand} (ho:o.op= .binOp op t x y t') (he:S.eq t=true)
 (hl:(match aX S env.tm x,aX S env.tm y with
  | some p,some q=>structEq S op t p q
  | _,_=> .fail).leaf (V,us)) (hK:Goal P S w0 M0 s0 dq env a o.dst V us K):o.wp P a w K Q:=by
 obtain ⟨u,ht,⟨fs,hu,hfl⟩,hsi,hgt⟩:=hP.eq t he
 have hfo:P.underlying t=some (.struct (P.fieldsOf t)):=by unfold Program.fieldsOf; rw [hu]
 have FD:P.fieldsOf t=fs:=by unfold Program.fieldsOf; rw [hu]
 split at hl
 · rename_i p q hx hy
   obtain ⟨hv1,_⟩:=bD h hx
   obtain ⟨ig,_⟩:=bD h hy
   unfold structEq at hl
   rw [ht] at hl
   dsimp only at hl
   split at hl
   · rename_i c d hc hd'
     obtain ⟨xs,n,e1,r1⟩:=J2 hP hv1 hc
     obtain ⟨ys,m,e2,r2⟩:=J2 hP ig hd'
     obtain ⟨b,g1,g2⟩:=HK hP (d:=9996) fs.toList (S.F u) 0 xs ys _ _ hfl (by simpa using r1) (by simpa using r2)
     have hrun:(Op.equalIn 10000 t (.agg xs) (.agg ys)).run P w= .ok b w:=by
      rw [run_equalIn_agg w 9999 t xs ys hfo hsi,FD]
      exact g1
     have fin: ∀ (z:Bool),(binOp op t (.agg xs) (.agg ys)).run P w= .ok (.bool z) w→RV P S w (aO S w0 M0 s0 env.bx μ w) μ env.bx V (.bool z)→aI S V= []→us= []→o.wp P a w K Q:=by
      rintro z hz hr hi rfl
      refine wp_pure h (v:= .bool z) ?_ hd hr (by simp [hi]) hK
      unfold execOp
      simp only [ho,e1,e2]
      simp [run_eqGuard_agg w op t x y xs ys hgt,hz]
     split at hl
     · obtain ⟨rfl,rfl⟩:=bF hl
       refine fin b (by rw [run_eql_struct,hrun]; rfl) ?_ rfl rfl
       show Value.bool b=Value.bool (@decide _ (yp S _ _ _))
       congr 1
       cases hb:b with
       | true=>exact (@decide_eq_true _ (_) (g2.1 hb)).symm
       | false=>exact (@decide_eq_false _ (_) (fun hq=>by rw [g2.2 hq] at hb; cases hb)).symm
     · obtain ⟨rfl,rfl⟩:=bF hl
       refine fin (!b) (by rw [run_neq_struct,hrun]; rfl) ?_ rfl rfl
       show Value.bool (!b)=Value.bool (@decide _ (@instDecidableNot _ (yp S _ _ _)))
       congr 1
       cases hb:b with
       | true=>exact (@decide_eq_false _ (_) (fun hq=>hq (g2.1 hb))).symm
       | false=>exact (@decide_eq_true _ (_) (fun hq=>by rw [g2.2 hq] at hb; cases hb)).symm
     · exact hl.elim
   · exact hl.elim
 · exact hl.elim
theorem CQ {s:St} {bx:Bx S.C} {e:Ty} (he:bA e=false): ∀ {vs:List (Sy.V S.C)} {cs:List Value} {l:List (e.den S.C)},aQ P S w s μ bx vs cs→rowOf S e vs=some l→l.length=vs.length∧
 ∀ (j:Nat) (x:e.den S.C),l[j]? =some x→ ∃ c n,cs[j]? =some c∧aM S w s n e x [c]
 | [],_,_,_,hl=>by
  cases hl
  exact ⟨rfl,fun j x h=>by simp at h⟩
 | v::vs,_,l,⟨c,r,rfl,h1,h2⟩,hl=>by
  simp only [rowOf] at hl
  obtain ⟨x,hx,hl⟩:=Option.bind_eq_some_iff.1 hl
  obtain ⟨l',hl',hl⟩:=Option.bind_eq_some_iff.1 hl
  cases hl
  obtain ⟨h3,h4⟩:=CQ he h2 hl'
  refine ⟨by simp [h3],fun j y hj=> ?_⟩
  cases j with
  | zero=>
   simp at hj
   subst hj
   obtain ⟨n,hn⟩:=Jf he h1 hx
   exact ⟨c,n,rfl,hn⟩
  | succ j=>
   obtain ⟨c',n,h5,h6⟩:=h4 j y (by simpa using hj)
   exact ⟨c',n,by simpa using h5,h6⟩
theorem D5 (hP:bf P S au) {t n u:Nat} {e:Ty} (h:qJ S t=some (n,e,u)): ∃ te,S.ty t=some (.st u)∧P.underlying t=some (.array n te)∧S.ty te=some e∧Ty.sz S e=1∧bA e=false∧S.F u=List.replicate n e:=by
 unfold qJ at h
 cases ha:S.ar t with
 | none=>rw [ha] at h; cases h
 | some p=>
  obtain ⟨n',e'⟩:=p
  rw [ha] at h
  dsimp only at h
  split at h
  · cases h
  · rename_i u' Vo hu
    cases h
    obtain ⟨_,_,h3⟩:=hP.ty t _ hu
    rw [ha] at h3
    obtain ⟨te,h4,h5,h6,_⟩:=h3
    rcases h6 with ⟨h6,h7,h8⟩ | ⟨w,rfl,_⟩
    · exact ⟨te,hu,h4,h5,h6,h7,h8⟩
    · exact absurd rfl (Vo w)
  · cases h
theorem Rv (hP:bf P S au) {t n m u:Nat} (h:AI S t=some (n,m,u)): ∃ te,S.ty t=some (.st u)∧P.underlying t=some (.array n te)∧S.ty te=some (.st m):=by
 unfold AI at h
 cases ha:S.ar t with
 | none=>rw [ha] at h; cases h
 | some p=>
  obtain ⟨n',e'⟩:=p
  rw [ha] at h
  dsimp only at h
  split at h
  · rename_i w u' hu
    cases h
    obtain ⟨_,_,h3⟩:=hP.ty t _ hu
    rw [ha] at h3
    obtain ⟨te,h4,h5,_⟩:=h3
    exact ⟨te,hu,h4,h5⟩
  · cases h
theorem aao (hP:bf P S au) {t n te:Nat} {e:Ty} (hu:P.underlying t=some (.array n te)) (he:S.ty te=some e) (h1:Ty.sz S e=1) {b o':Nat} {k:IntKind} {i:Int} (h0:0≤i) (hi:i<(n:Int)) (w:World):
 (Instr.indexAt t (.pointer (some ⟨b,o',none⟩)) (.int k i)).run P w= .ok (.pointer (some ⟨b,o'+i.toNat,none⟩)) w:=by
 simp [Instr.indexAt,asIntOf,run_underlying hu,h0,hi,hP.size he w,Addr.add_mid,h1,Instr.sureAddr]
theorem aam (hP:bf P S au) {t n te:Nat} {e:Ty} (hu:P.underlying t=some (.array n te)) (he:S.ty te=some e) (h1:Ty.sz S e=1) (hst:bA e=false) {cs:Array Value} {c:Value} {k:IntKind} {i:Int} (h0:0≤i) (hi:i<(n:Int)) (hc:cs.toList[i.toNat]? =some c) (w:World):
 (Instr.index t (.agg cs) (.int k i)).run P w= .ok c w:=by
 have hlt:i.toNat<cs.size:=by
  have :=(List.getElem?_eq_some_iff.1 hc).1
  simpa using this
 have :=qd hP he (cs:=cs) (off:=i.toNat) (by rw [h1]; omega) w
 rw [h1] at this
 simp only [Instr.index,asIntOf,Sem.run_bind,Sem.run_pure,Result.andThen_ok,run_underlying hu]
 simp only [h0,hi,and_self,if_true,Sem.run_bind,hP.size he w,Result.andThen_ok,h1,Nat.mul_one,this]
 congr 1
 have hm: ∀ ds,fD e ds=ds.headD Go.undef:=by intro ds; cases e <;> first | rfl | simp [bA] at hst
 have tW:cs.toList[i.toNat]=c:=by
  have :=(List.getElem?_eq_some_iff.1 hc).2
  exact this
 rw [hm,List.drop_eq_getElem_cons (by simpa using hlt),tW]
 rfl
theorem ab8 (h:Inv P S w0 M0 s0 dq env a w μ) {o:Oper} {K:Act→World→Prop} {Q:Exit→Act→World→Prop} {V:Sy.V S.C} {v:Value} {us:aR S.C}
 (hrun:(execOp a.eval o).run P w= .ok (.value v) w) (hd: ∀ d,o.dst=some d→d<a.tmps.size) (hk: ∀ i,aD env.bx us i=env.bx i∨ ∃ ws,env.bx i=some (.cells ws)∧aD env.bx us i=some (.bU ws))
 (hv:Inv P S w0 M0 s0 dq { env with bx:=aD env.bx us } a w μ→RV P S w (aO S w0 M0 s0 (aD env.bx us) μ w) μ (aD env.bx us) V v) (hr: ∀ i ∈ aI S V,aD env.bx us i≠none)
 (hK: ∀ a' w' μ',Inv P S w0 M0 s0 dq (env.apply o.dst V us) a' w' μ'→a'.tmps.size=a.tmps.size→K a' w'):o.wp P a w K Q:=by
 unfold Oper.wp
 rw [hrun]
 have hI:=h.Bi hk
 refine hK _ w μ (hI.put hd (hv hI) hr) ?_
 cases o.dst <;> simp [Act.put]
theorem Rq (hP:bf P S au) (h:Inv P S w0 M0 s0 dq env a w μ) (hd: ∀ d,o.dst=some d→d<a.tmps.size) {t:TypeId} {x i:Operand} {ids:List Nat} {n u:Nat} {e:Ty} (ho:o.op= .indexAddr t x i) (hte:qJ S t=some (n,e,u))
 (hl:(match aX S env.tm x,aX S env.tm i with
  | some v,some w=>match w.int? with
   | some (_,j)=>D6 S n e u (restrict S env.bx ids) j v
   | none=> .fail
  | _,_=> .fail).leaf (V,us)) (hK:Goal P S w0 M0 s0 dq env a o.dst V us K):o.wp P a w K Q:=by
 obtain ⟨te,ht,hu,he,h1,hst,hF⟩:=D5 hP hte
 split at hl
 · rename_i v wv hx hi
   obtain ⟨hv,dM⟩:=bD h hx
   obtain ⟨pJ,_⟩:=bD h hi
   split at hl
   · rename_i k j hn
     have hin:=jW pJ hn
     have run: ∀ (b off:Nat),a.eval x= .pointer (some ⟨b,off,none⟩)→0≤j→j<(n:Int)→(execOp a.eval o).run P w= .ok (.value (.pointer (some ⟨b,off+j.toNat,none⟩))) w:=by
      intro b off he' h0 hj
      unfold execOp
      simp only [ho,he',hin]
      simp [aao hP hu he h1 h0 hj]
     unfold D6 at hl
     split at hl
     · rename_i b off
       have main: ∀ (vs:List (Sy.V S.C)),(env.bx b=some (.cells vs)∨env.bx b=some (.bU vs))→(match rowOf S e ((vs.drop off).take n) with
        | some l=> .gd (eH j l.length) (aL S (.dL e (iD S e l j)) [(b, .bU vs)])
        | none=> .fail:Rt S).leaf (V,us)→o.wp P a w K Q:=by
        intro vs hb cv
        clear hl
        split at cv
        · rename_i l hrow
          obtain ⟨hg,rfl,rfl⟩:=gq cv
          have g0:0≤j:=hg ⟨0≤j,inferInstance⟩ (by simp [eH,gd])
          have g1:j<(l.length:Int):=hg ⟨j<(l.length:Int),inferInstance⟩ (by simp [eH,gd])
          have hk: ∀ i,aD env.bx [(b,dZ.bU vs)] i=env.bx i∨ ∃ ws,env.bx i=some (.cells ws)∧aD env.bx [(b,dZ.bU vs)] i=some (.bU ws):=by
           intro i
           by_cases e':i=b
           · subst e'
             rcases hb with hb | hb
             · exact .inr ⟨vs,hb,aY ..⟩
             · exact .inl ((aY ..).trans hb.symm)
           · exact .inl (br _ _ e')
          have hlen:l.length≤n∧l.length≤vs.length - off:=by
           have : ∀ (e:Ty) (vs:List (Sy.V S.C)) (l:List (e.den S.C)),rowOf S e vs=some l→l.length=vs.length:=by
            intro e vs
            induction vs with
            | nil=>intro l hl; cases hl; rfl
            | cons v vs ih=>
             intro l hl
             simp only [rowOf] at hl
             obtain ⟨x,hx,hl⟩:=Option.bind_eq_some_iff.1 hl
             obtain ⟨l',hl',hl⟩:=Option.bind_eq_some_iff.1 hl
             cases hl
             simp [ih l' hl']
           have :=this e _ l hrow
           rw [List.length_take,List.length_drop] at this
           omega
          have FX:a.eval x= .pointer (some ⟨(μ b).b,(μ b).o+off,none⟩):=hv
          refine ab8 (V:= .dL e (iD S e l j)) h (run _ _ FX g0 (by omega)) hd hk (fun hI=> ?_) (by simp [aI,aG]) hK
          have mM:aD env.bx [(b,dZ.bU vs)] b=some (.bU vs):=aY ..
          obtain ⟨_,cs,cZ,dr⟩:=hI.cc b _ mM
          obtain ⟨_,jw⟩:=CQ hst (aQ.take P S n (aQ.drop P S off dr)) hrow
          obtain ⟨c,m,hc,hr⟩:=jw j.toNat _ (vA g0 g1)
          refine ⟨(μ b).b,(μ b).o+off+j.toNat,[c],rfl,fun q u hq=> ?_,by rw [h1]; rfl,m,hr⟩
          cases q with
          | zero=>
           simp at hq
           subst hq
           rw [List.getElem?_take] at hc
           split at hc
           · rw [List.getElem?_drop] at hc
             have :=cZ (off+j.toNat) c hc
             rw [Nat.add_zero,Nat.add_assoc]
             exact this
           · cases hc
          | succ q=>simp at hq
        · exact cv.elim
       split at hl
       · rename_i vs hb; exact main vs (.inl (fH hb)) hl
       · rename_i vs hb; exact main vs (.inr (fH hb)) hl
       · exact hl.elim
     · rename_i t' y
       split at hl
       · rename_i y' hc
         obtain ⟨rfl,rfl⟩:=eG hc
         split at hl
         · rename_i l hrow
           obtain ⟨hg,rfl,rfl⟩:=gq hl
           have g0:0≤j:=hg ⟨0≤j,inferInstance⟩ (by simp [eH,gd])
           have g1:j<(l.length:Int):=hg ⟨j<(l.length:Int),inferInstance⟩ (by simp [eH,gd])
           obtain ⟨b,o',ds,FX,cZ,hlen,m,hr⟩:=hv
           obtain ⟨dr,_⟩:=nQ (P:=P) hP.todm μ env.bx hr
           obtain ⟨yP,jw⟩:=CQ hst (aQ.take P S n dr) hrow
           rw [List.length_take] at yP
           obtain ⟨c,m',hc,hr'⟩:=jw j.toNat _ (vA g0 g1)
           refine wp_pure (V:= .dL e (iD S e l j)) h (run _ _ FX g0 (by omega)) hd ⟨b,o'+j.toNat,[c],rfl,fun q u hq=> ?_,by rw [h1]; rfl,m',hr'⟩ (by simp [aI,aG]) hK
           cases q with
           | zero=>
            simp at hq
            subst hq
            rw [List.getElem?_take] at hc
            split at hc
            · have :=cZ j.toNat c hc
              rw [Nat.add_zero]
              exact this
            · cases hc
           | succ q=>simp at hq
         · exact hl.elim
       · exact hl.elim
     · exact hl.elim
   · exact hl.elim
 · exact hl.elim
theorem aa7 (hP:bf P S au) (h:Inv P S w0 M0 s0 dq env a w μ) (hd: ∀ d,o.dst=some d→d<a.tmps.size) {t:TypeId} {x y:Operand} {ids:List Nat} {n u:Nat} {e:Ty} (ho:o.op= .store t x y) (hte:qJ S t=some (n,e,u))
 (gr: ∀ V,aX S env.tm y=some V→ ∀ i ∈ aI S V,restrict S env.bx ids i=env.bx i)
 (hl:(match aX S env.tm x,aX S env.tm y with
  | some p,some v=>Ie S u (restrict S env.bx ids) v p
  | _,_=> .fail).leaf (V,us)) (hK:Goal P S w0 M0 s0 dq env a o.dst V us K):o.wp P a w K Q:=by
 obtain ⟨te,ht,_⟩:=D5 hP hte
 split at hl
 · rename_i p v hx hy
   unfold Ie at hl
   split at hl
   · rename_i b off
     split at hl
     · rename_i vs hb
       cases hf:fits S (cellsOf S v) (Ty.sz S (.st u))&&Nat.ble (off+Ty.sz S (.st u)) vs.length with
       | false=>rw [hf] at hl; exact hl.elim
       | true=>
        rw [hf] at hl
        obtain ⟨rfl,rfl⟩:=bF hl
        refine O4 hP h hd (V:= .skip) (us:= [(b, .cells (setCells S vs off (cellsOf S v)))]) ho gr ?_ fun a' w' μ' hI hsz=> ?_
        · rw [ht,hx,hy]
          simp only [Ae]
          rw [hb]
          dsimp only
          rw [hf]
          rfl
        · have hfr:=hI.Bi (aq:=aD env.bx [(b, .bU (setCells S vs off (cellsOf S v)))]) fun i=>by
           by_cases e':i=b
           · subst e'
             exact .inr ⟨_,aY ..,aY ..⟩
           · exact .inl ((br _ _ e').trans (br _ _ e').symm)
          exact hK a' w' μ' hfr hsz
     · exact hl.elim
   · exact hl.elim
 · exact hl.elim
theorem Rs (hP:bf P S au) (h:Inv P S w0 M0 s0 dq env a w μ) (hd: ∀ d,o.dst=some d→d<a.tmps.size) {t:TypeId} {x i:Operand} {n u:Nat} {e:Ty} (ho:o.op= .index t x i) (hte:qJ S t=some (n,e,u))
 (hl:(match aX S env.tm x,aX S env.tm i with
  | some v,some w=>match w.int? with
   | some (_,j)=>D7 S n e u j v
   | none=> .fail
  | _,_=> .fail).leaf (V,us)) (hK:Goal P S w0 M0 s0 dq env a o.dst V us K):o.wp P a w K Q:=by
 obtain ⟨te,ht,hu,he,h1,hst,hF⟩:=D5 hP hte
 split at hl
 · rename_i v wv hx hi
   obtain ⟨hv,dM⟩:=bD h hx
   obtain ⟨pJ,_⟩:=bD h hi
   split at hl
   · rename_i k j hn
     have hin:=jW pJ hn
     unfold D7 at hl
     split at hl
     · rename_i vs hcells
       split at hl
       · rename_i l hrow
         obtain ⟨hg,rfl,rfl⟩:=gq hl
         have g0:0≤j:=hg ⟨0≤j,inferInstance⟩ (by simp [eH,gd])
         have g1:j<(l.length:Int):=hg ⟨j<(l.length:Int),inferInstance⟩ (by simp [eH,gd])
         have FQ: ∃ cs,a.eval x= .agg cs∧aQ P S w (aO S w0 M0 s0 env.bx μ w) μ env.bx vs cs.toList:=by
          unfold xS at hcells
          split at hcells
          · rename_i u' vs'
            cases hb:Nat.beq u u' with
            | false=>rw [hb] at hcells; cases hcells
            | true=>
             rw [hb] at hcells
             cases hcells
             obtain ⟨cs,g1,g2,g3,g4⟩:=hv
             exact ⟨cs,g1,g4⟩
          · rename_i t' y
            obtain ⟨y',hc,hcells⟩:=Option.bind_eq_some_iff.1 hcells
            cases hcells
            obtain ⟨rfl,rfl⟩:=eG hc
            obtain ⟨ha,m,hr⟩:=hv
            have : ∃ cs,a.eval x= .agg cs:=by
             cases e':a.eval x <;> rw [e'] at ha <;> first | exact ⟨_,rfl⟩ | (simp [Go.Sy.isAgg,bA] at ha)
            obtain ⟨cs,hcs⟩:=this
            rw [hcs] at hr
            exact ⟨cs,hcs,(nQ (P:=P) hP.todm μ env.bx hr).1⟩
          · cases hcells
         obtain ⟨cs,hcs,dr⟩:=FQ
         obtain ⟨yP,jw⟩:=CQ hst (aQ.take P S n dr) hrow
         rw [List.length_take] at yP
         obtain ⟨c,m',hc,hr'⟩:=jw j.toNat _ (vA g0 g1)
         have iF:cs.toList[j.toNat]? =some c:=by
          rw [List.getElem?_take] at hc
          split at hc
          · exact hc
          · cases hc
         refine wp_pure (V:= .d e (iD S e l j)) h (v:=c) ?_ hd ?_ (by simp [aI,aG]) hK
         · unfold execOp
           simp only [ho,hcs,hin]
           simp [aam hP hu he h1 hst g0 (by omega:j<(n:Int)) iF]
         · have :=BU hr'
           have hm: ∀ ds,fD e ds=ds.headD Go.undef:=by intro ds; cases e <;> first | rfl | simp [bA] at hst
           rw [hm] at this
           exact this
       · exact hl.elim
     · exact hl.elim
   · exact hl.elim
 · exact hl.elim
theorem Jd {w k:Nat} {j:Int} {vs:List (Sy.V S.C)} : ∀ {i m:Nat},(AH S w k j vs i m).leaf (V,us)→ ∃ q,i≤q∧q<i+m∧j=(q:Int)∧V= .agg w ((vs.drop (q*k)).take k)∧us= []
 | _,0,h=>h.elim
 | i,m+1,h=>by
  rcases h with ⟨hj,h⟩ | ⟨_,h⟩
  · obtain ⟨rfl,rfl⟩:=bF h
    exact ⟨i,Nat.le_refl _,by omega,hj,rfl,rfl⟩
  · obtain ⟨q,h1,h2,h3⟩:=Jd h
    exact ⟨q,by omega,by omega,h3⟩
theorem aan (hP:bf P S au) {t n te m:Nat} (hu:P.underlying t=some (.array n te)) (he:S.ty te=some (.st m)) {cs:Array Value} {k:IntKind} {q:Nat} (hi:q<n) (hle:q*(S.F m).length+(S.F m).length≤cs.size) (w:World):
 (Instr.index t (.agg cs) (.int k (q:Int))).run P w= .ok (fD (.st m) ((cs.toList.drop (q*(S.F m).length)).take (S.F m).length)) w:=by
 have :=qd hP he (cs:=cs) (off:=q*(S.F m).length) hle w
 have h0:(0:Int)≤(q:Int):=by omega
 have hi':(q:Int)<(n:Int):=by omega
 have hsz:Ty.sz S (.st m)=(S.F m).length:=rfl
 rw [hsz] at this
 simp only [Instr.index,asIntOf,Sem.run_bind,Sem.run_pure,Result.andThen_ok,run_underlying hu]
 simp only [h0,hi',and_self,if_true,Sem.run_bind,hP.size he w,Result.andThen_ok,hsz,Int.toNat_natCast,this]
theorem Rr (hP:bf P S au) (h:Inv P S w0 M0 s0 dq env a w μ) (hd: ∀ d,o.dst=some d→d<a.tmps.size) {t:TypeId} {x i:Operand} {n m u:Nat} (ho:o.op= .index t x i) (hte:AI S t=some (n,m,u))
 (hl:(match aX S env.tm x,aX S env.tm i with
  | some v,some w=>match xS S u v,w.int? with
   | some vs,some (_,j)=>cond (Nat.beq vs.length (n*(S.F m).length)) (AH S m (S.F m).length j vs 0 n) .fail
   | _,_=> .fail
  | _,_=> .fail).leaf (V,us)) (hK:Goal P S w0 M0 s0 dq env a o.dst V us K):o.wp P a w K Q:=by
 obtain ⟨te,ht,hu,he⟩:=Rv hP hte
 split at hl
 · rename_i v wv hx hi
   obtain ⟨hv,dM⟩:=bD h hx
   obtain ⟨pJ,_⟩:=bD h hi
   split at hl
   · rename_i vs k j hcells hn
     have hin:=jW pJ hn
     cases hb:Nat.beq vs.length (n*(S.F m).length) with
     | false=>rw [hb] at hl; exact hl.elim
     | true=>
      rw [hb,cond_true] at hl
      have hlen:=Nat.eq_of_beq_eq_true hb
      obtain ⟨q,_,hq,rfl,rfl,rfl⟩:=Jd hl
      have FQ: ∃ cs:Array Value,a.eval x= .agg cs∧vs.all (bS S)=true∧aQ P S w (aO S w0 M0 s0 env.bx μ w) μ env.bx vs cs.toList∧ ∀ V ∈ vs, ∀ i ∈ aG S V,env.bx i≠none:=by
       unfold xS at hcells
       split at hcells
       · rename_i u' vs'
         cases hb:Nat.beq u u' with
         | false=>rw [hb] at hcells; cases hcells
         | true=>
          rw [hb] at hcells
          cases hcells
          obtain ⟨cs,g1,g2,g3,g4⟩:=hv
          exact ⟨cs,g1,g3,g4,fun V hV i hi=>dM i (by simp only [aI,List.mem_flatMap]; exact ⟨V,hV,hi⟩)⟩
       · rename_i t' y
         obtain ⟨y',hc,hcells⟩:=Option.bind_eq_some_iff.1 hcells
         cases hcells
         obtain ⟨rfl,rfl⟩:=eG hc
         obtain ⟨ha,r,hr⟩:=hv
         have : ∃ cs,a.eval x= .agg cs:=by
          cases e':a.eval x <;> rw [e'] at ha <;> first | exact ⟨_,rfl⟩ | (simp [Go.Sy.isAgg,bA] at ha)
         obtain ⟨cs,hcs⟩:=this
         rw [hcs] at hr
         obtain ⟨x1,x2,x3⟩:=nQ (P:=P) hP.todm μ env.bx hr
         exact ⟨cs,hcs,x2,x1,fun V hV i hi=>by rw [x3 V hV] at hi; simp at hi⟩
       · cases hcells
      obtain ⟨cs,hcs,rm,dr,gr⟩:=FQ
      have hcl:cs.size=n*(S.F m).length:=by
       have :=aQ.length P S dr
       rw [hlen] at this
       simpa using this
      have hle:q*(S.F m).length+(S.F m).length≤n*(S.F m).length:=by
       have :(q+1)*(S.F m).length≤n*(S.F m).length:=Nat.mul_le_mul_right _ (by omega)
       rw [Nat.add_mul,Nat.one_mul] at this
       exact this
      have hvl:((vs.drop (q*(S.F m).length)).take (S.F m).length).length=(S.F m).length:=by
       rw [List.length_take,List.length_drop]; omega
      refine wp_pure (V:= .agg m ((vs.drop (q*(S.F m).length)).take (S.F m).length)) h (v:= .agg ((cs.toList.drop (q*(S.F m).length)).take (S.F m).length).toArray) ?_ hd
       ⟨_,rfl,hvl, ?_,by rw [List.toList_toArray]; exact aQ.take P S _ (aQ.drop P S _ dr)⟩ (fun i hi=> ?_) hK
      · unfold execOp
        simp only [ho,hcs,hin]
        simp [aan hP hu he (cs:=cs) (k:=k) (by omega:q<n) (by omega),fD]
      · rw [List.all_eq_true] at rm ⊢
        exact fun V hV=>rm V (List.mem_of_mem_drop (List.mem_of_mem_take hV))
      · simp only [aI,List.mem_flatMap] at hi
        obtain ⟨V,hV,hi⟩:=hi
        exact gr V (List.mem_of_mem_drop (List.mem_of_mem_take hV)) i hi
   · exact hl.elim
 · exact hl.elim
end
end Go.Sy
namespace Go.Sy
section
variable {P:Program} {S:bg} {au:Nat→Nat}
variable {w0:World} {M0 s0:St} {dq:List Deferred} {env:Env S.C} {a:Act} {w:World} {μ:Nat→Loc} {K:Act→World→Prop} {Q:Exit→Act→World→Prop} {o:Oper} {V:V S.C} {us:aR S.C}
theorem WL {x y:Operand} {n:Nat} (h:BQ x y=some n):x= .const (.int .i64 (n:Int))∧y= .const (.int .i64 (n:Int))∧n≤8:=by
 unfold BQ at h
 split at h
 · rename_i p q
   cases hc:Nat.beq p q&&Nat.ble p 8 with
   | false=>rw [hc] at h; cases h
   | true=>
    rw [hc,cond_true] at h
    cases h
    rw [Bool.and_eq_true] at hc
    have e1:=Nat.eq_of_beq_eq_true hc.1
    subst e1
    exact ⟨rfl,rfl,Nat.le_of_ble_eq_true hc.2⟩
 · cases h
theorem IG {s:St} {bx:Bx S.C} : ∀ (n:Nat) (cs:List Value),cs=List.replicate n (Value.slice none 0 0)→aQ P S w s μ bx (List.replicate n (.cO:Sy.V S.C)) cs
 | 0,_,h=>h
 | n+1,_,h=>⟨.slice none 0 0,List.replicate n (.slice none 0 0),h,rfl,IG n _ rfl⟩
theorem WU (hP:bf P S au) (h:Inv P S w0 M0 s0 dq env a w μ) (hd: ∀ d,o.dst=some d→d<a.tmps.size) {vw:Bool} {B:Nat} {t:TypeId} {x y:Operand} (ho:o.op= .makeSlice t x y)
 (hnew: ∀ u ∈ us,B≤u.1→u.1<B+16→env.bx u.1=none)
 (hl:(match fB S t,aX S env.tm x,aX S env.tm y with
  | some e,some v,some w=>match cond (vw&&Gb e&&Nat.ble (au t) 64) (BQ x y) none with
   | some n=>aL S (.cF B n) [(B, .cells (List.replicate n .cO))]
   | none=>match v.int?,w.int? with
    | some (.i64,n),some (.i64,m)=>Tr.gd [gd (0≤n),gd (n≤m),gd (m*au t≤limit)] (aL S (.aS (B)) [(B, .arr e (List.replicate n.toNat (Ty.zero S e)))])
    | _,_=>Tr.fail
  | _,_,_=>Tr.fail).leaf (V,us)) (hK:Goal P S w0 M0 s0 dq env a o.dst V us K):o.wp P a w K Q:=by
 split at hl
 · rename_i e v u ht hx hy
   split at hl
   · rename_i n hn
     cases hc:(vw&&Gb e&&Nat.ble (au t) 64) with
     | false=>rw [hc] at hn; cases hn
     | true=>
     rw [hc,cond_true] at hn
     simp only [Bool.and_eq_true] at hc
     obtain ⟨⟨_,ia⟩,dX⟩:=hc
     have dX:=Nat.le_of_ble_eq_true dX
     obtain ⟨hex,UT,hn8⟩:=WL hn
     obtain ⟨rfl,rfl⟩:=bF hl
     obtain ⟨e1,rfl⟩: ∃ e1,e= .sl e1:=by
      cases e with
      | sl e1=>exact ⟨e1,rfl⟩
      | _=>cases ia
     have ht':=o9 ht
     obtain ⟨te,ie,z,hu,hte,hie,hby,gS,_⟩:=hP.sl ht'
     obtain ⟨⟨i,z,h1,h2,h3,h4,h5⟩,_⟩:=hP.ty te _ hte
     rw [hie] at h1
     cases h1
     have hz:z.cells.toList= [.slice none 0 0]:=h5
     have hsz:ie.size=1:=h2
     have hbig:(n:Int)*au t≤512:=by
      have q1:(au t:Int)≤64:=by omega
      have q2:(n:Int)≤8:=by omega
      exact Int.le_trans (Int.mul_le_mul q2 q1 (by omega) (by omega)) (by decide)
     have hrun:=run_make (P:=P) w t te ie z hu hie h3 .i64 .i64 n n (by omega) (Int.le_refl _) (by rw [hby,Int.mul_comm]; omega) (by omega)
     have hB:=hnew _ (List.mem_singleton.2 rfl) (Nat.le_refl _) (by show B<B+16; omega)
     have hcells:(madeCells z.cells (n*1)).toList=List.replicate n (Value.slice none 0 0):=by
      have hzs:z.cells= #[.slice none 0 0]:=by
       have :z.cells=z.cells.toList.toArray:=by simp
       rw [this,hz]
      rw [hzs,Nat.mul_one]
      unfold madeCells
      apply List.ext_getElem
      · simp
      · intro j hj1 hj2
        simp [Nat.mod_one]
     have nt:=rD (w:=w) (cs:=madeCells z.cells (n*1)) (t:=te)
     rw [size_madeCells,Nat.mul_one] at nt
     refine sH (i:=B) (B:= .cells (List.replicate n .cO)) (V:= .cF B n) (v:= .slice (some ⟨w.heap.size,0,none⟩) n n) (L:=⟨w.heap.size,0,n,0,false⟩) (w':=w.alloc (.cells (madeCells z.cells (n*1)) te)) h ?_ hd (bq.alloc w _ _) hB (fun b o' hf=>Nat.le_of_eq hf.1.symm)
      (fun hl _ h3=>⟨⟨?_, ?_, ?_,_, ?_,IG n _ hcells⟩, ?_⟩) (fun vs hvs v hv j hj=> ?_) (fun j hj=> .inl (by simpa [aI,aG] using hj)) hK
     · unfold execOp
       simp only [ho,hex,UT]
       have :(Instr.makeSlice t (.int .i64 (n:Int)) (.int .i64 (n:Int))).run P w= .ok (.slice (some ⟨w.heap.size,0,none⟩) n n) (w.alloc (.cells (madeCells z.cells (n*1)) te)):=by
        rw [hrun,hsz]; rfl
       simp [this,Act.eval]
     · rw [List.all_eq_true]
       intro v hv
       rw [List.eq_of_mem_replicate hv]; rfl
     · simp
     · simpa using nt.1
     · simpa using nt.2
     · show Value.slice _ n n= .slice (some ⟨(aC μ B _ B).b,(aC μ B _ B).o,none⟩) n n
       rw [aY]
     · have :v= .cO:=by
        rcases hvs with hvs | hvs
        · cases hvs; exact List.eq_of_mem_replicate hv
        · cases hvs
       rw [this] at hj
       simp [aG] at hj
   · exact WW hP h hd ho hnew (by rw [ht,hx,hy]; exact hl) hK
 · exact hl.elim
theorem Ph {e:Ty} : ∀ {vs:List (Sy.V S.C)} {l:List (List (e.den S.C))},xz S e vs=some l→l.length=vs.length
 | [],l,h=>by cases h; rfl
 | v::vs,l,h=>by
  cases v with
  | bk b e' x=>
   simp only [xz] at h
   obtain ⟨y,hy,h⟩:=Option.bind_eq_some_iff.1 h
   obtain ⟨r,hr,h⟩:=Option.bind_eq_some_iff.1 h
   cases h
   show (y::r).length=_
   simp only [List.length_cons]
   exact congrArg (· +1) (Ph hr)
  | _=>cases h
theorem Pg {s:St} {bx:Bx S.C} {e:Ty} : ∀ {vs:List (Sy.V S.C)} {l:List (List (e.den S.C))} {cs:List Value},xz S e vs=some l→aQ P S w s μ bx vs cs→ ∀ (i:Nat) (x:List (e.den S.C)),l[i]? =some x→ ∃ c,cs[i]? =some c∧cy S w s (.sl e) x c
 | [],l,cs,h,_,i,x,hx=>by cases h; simp at hx
 | v::vs,l,cs,h,⟨c,r,hc,h1,h2⟩,i,x,hx=>by
  cases v with
  | bk b e' y=>
   simp only [xz] at h
   obtain ⟨z,hz,h⟩:=Option.bind_eq_some_iff.1 h
   obtain ⟨q,hq,h⟩:=Option.bind_eq_some_iff.1 h
   cases h
   subst hc
   cases i with
   | zero=>
    have hx:some z=some x:=hx
    cases hx
    refine ⟨c,rfl, ?_⟩
    obtain ⟨he,hz⟩:=eG hz
    cases he
    cases hz
    exact h1.1
   | succ i=>
    have hx:q[i]? =some x:=hx
    exact Pg hq h2 i x hx
  | _=>cases h
theorem Rw {nl:Bool} (h:Inv P S w0 M0 s0 dq env a w μ) (hd: ∀ d,o.dst=some d→d<a.tmps.size) {x:Operand} {B:Nat} {ids:List Nat} (ho:execOp a.eval o=pure (.value (a.eval x)))
 (hnew: ∀ u ∈ us,B≤u.1→u.1<B+16→env.bx u.1=none)
 (hl:(match aX S env.tm x with
  | some .cO=>cond nl (aL S .cO []) (match fB S o.type with
   | some e=>aL S (.bk B e []) [(B, .tail)]
   | none=> .fail)
  | some (.cF b n)=>settle S (fB S o.type) (restrict S env.bx ids) b n
  | some v=>aL S v []
  | none=> .fail).leaf (V,us)) (hK:Goal P S w0 M0 s0 dq env a o.dst V us K):o.wp P a w K Q:=by
 have hrun:(execOp a.eval o).run P w= .ok (.value (a.eval x)) w:=by rw [ho]; rfl
 split at hl
 · rename_i hx
   exact Gw (nl:=nl) h hd (x:=x) (B:=B) ho hnew (by rw [hx]; exact hl) hK
 · rename_i b n hx
   obtain ⟨hv,hr⟩:=bD h hx
   unfold settle at hl
   split at hl
   · rename_i vs hb
     have hb:=fH hb
     split at hl
     · obtain ⟨rfl,rfl⟩:=bF hl
       exact wp_pure h hrun hd hv hr hK
     · split at hl
       · rename_i e he
         split at hl
         · rename_i l hlr
           cases hn:Nat.beq n vs.length with
           | false=>rw [hn] at hl; exact hl.elim
           | true=>
            rw [hn,cond_true] at hl
            have hn:=Nat.eq_of_beq_eq_true hn
            obtain ⟨rfl,rfl⟩:=bF hl
            have hall: ∀ i,aD env.bx [(b,dZ.bU vs)] i=env.bx i∨ ∃ ws,env.bx i=some (.cells ws)∧aD env.bx [(b,dZ.bU vs)] i=some (.bU ws):=fun i=>by
             by_cases e:i=b
             · subst e; exact .inr ⟨vs,hb,aY _ _ _⟩
             · exact .inl (br _ _ e)
            have hI:=h.Bi hall
            obtain ⟨_,cs,cZ,dr⟩:=hI.cc b (.bU vs) (aY _ _ _)
            have yP:=Ph hlr
            have hv:a.eval x= .slice (some ⟨(μ b).b,(μ b).o,none⟩) n n:=hv
            unfold Oper.wp
            rw [hrun]
            refine hK _ w μ (hI.put hd (V:= .d (.sl (.sl e)) l) ?_ (by simp [aI,aG])) ?_
            · rw [hv,hn, ← yP]
              refine H9 (Nat.le_refl _) fun i y hy=> ?_
              obtain ⟨c,hc,ha,m,hm⟩:=Pg hlr dr i y hy
              refine ⟨[c],rfl,fun j u hj=> ?_,m, ?_⟩
              · cases j with
                | zero=>
                 simp at hj
                 subst hj
                 have :=cZ i c hc
                 rw [show i*Ty.sz S (.sl e)=i from Nat.mul_one i]
                 exact this
                | succ j=>simp at hj
              · rwa [aM.mB ha rfl] at hm
            · cases o.dst <;> simp [Act.put]
         · exact hl.elim
       · exact hl.elim
   · exact hl.elim
 · rename_i v Vm acv hx
   refine Gw (nl:=nl) h hd (x:=x) (B:=B) ho hnew ?_ hK
   rw [hx]
   cases v with
   | cO=>exact absurd rfl Vm
   | _=>exact hl
 · exact hl.elim
theorem Tz (hP:bf P S au) (h:Inv P S w0 M0 s0 dq env a w μ) (hd: ∀ d,o.dst=some d→d<a.tmps.size) {op:BinOp} {t t':TypeId} {x:Operand} (ho:o.op= .binOp op t x (.const .nilIface) t')
 (hl:(match aX S env.tm x with
  | some (.err b)=>cond (S.ru t) (match op with
   | .eql=>aL S (.d .bool b) []
   | .neq=>aL S (.d .bool (Bool.not b)) []
   | _=> .fail) .fail
  | _=> .fail).leaf (V,us)) (hK:Goal P S w0 M0 s0 dq env a o.dst V us K):o.wp P a w K Q:=by
 split at hl
 · rename_i b hx
   obtain ⟨hv,_⟩:=bD h hx
   have hv:xI b (a.eval x):=hv
   cases hi:S.ru t with
   | false=>rw [hi] at hl; exact hl.elim
   | true=>
    rw [hi,cond_true] at hl
    obtain ⟨ms,hu⟩:=hP.ru t hi
    have hif:P.isIface t=true:=by unfold Program.isIface; rw [hu]
    have hg:(eqGuard op t x (.const .nilIface) (a.eval x) .nilIface).run P w= .ok () w:=by
     cases b with
     | true=>
      have hv:a.eval x= .nilIface:=hv
      rw [hv,eqGuard_nil_constR]; rfl
     | false=>
      obtain ⟨u,p,hv⟩:=hv
      rw [hv]
      exact ES rfl w
    have fin: ∀ r:Bool,V= .d .bool r→us= []→(binOp op t (a.eval x) .nilIface).run P w= .ok (.bool r) w→o.wp P a w K Q:=by
     rintro r rfl rfl hr
     refine wp_pure h (V:= .d .bool r) (v:= .bool r) ?_ hd (oU ..) (by simp [aI,aG]) hK
     unfold execOp
     simp only [ho]
     have e:a.eval (.const .nilIface)= .nilIface:=rfl
     rw [e]
     simp [hg,hr]
    split at hl
    · obtain ⟨h1,h2⟩:=bF hl
      refine fin b h1 h2 ?_
      cases b with
      | true=>
       have hv:a.eval x= .nilIface:=hv
       rw [hv]; exact run_eql_nil_nil_at w t hif
      | false=>
       obtain ⟨u,p,hv⟩:=hv
       rw [hv]; exact run_eql_iface_nil w t hif u p
    · obtain ⟨h1,h2⟩:=bF hl
      refine fin (Bool.not b) h1 h2 ?_
      cases b with
      | true=>
       have hv:a.eval x= .nilIface:=hv
       rw [hv]; exact run_neq_nil_nil_at w t hif
      | false=>
       obtain ⟨u,p,hv⟩:=hv
       rw [hv]; exact run_neq_iface_nil w t hif u p
    · exact hl.elim
 · exact hl.elim
theorem GC {T:iA S} {B:Nat} {op:BinOp} {t t' ty:TypeId} {x y:Operand} {tm:Nat→Sy.V S.C} {bx:Bx S.C} (hy:y≠ .const .nilIface):
 c7 S T au B (.binOp op t x y t') ty tm bx=cond (S.eq t) (match aX S tm x,aX S tm y with
 | some a,some b=>structEq S op t a b
 | _,_=> .fail) (match aX S tm x,aX S tm y with
 | some a,some b=>match AL S op t a b with
  | some (gs,v)=> .gd gs (aL S v [])
  | none=> .fail
 | _,_=> .fail):=by
 cases y with
 | const v=>cases v <;> first | rfl | exact absurd rfl hy
 | _=>rfl
end
end Go.Sy
namespace Go.Sy
section
variable {P:Program} {S:bg} {au:Nat→Nat}
variable {w0:World} {M0 s0:St} {dq:List Deferred} {env:Env S.C} {a:Act} {w:World} {μ:Nat→Loc} {K:Act→World→Prop} {Q:Exit→Act→World→Prop} {o:Oper} {V:V S.C} {us:aR S.C}
theorem Wt {B:Nat} {fp:List Nat} {bx:Bx S.C} (h:nY S bx B fp us=true): ∀ u ∈ us,B≤u.1→u.1<B+16→bx u.1=none:=by
 intro u hu h1 h2
 have :=List.all_eq_true.1 h u hu
 rw [Bool.and_eq_true,show Nat.ble B u.1=true from Nat.ble_eq_true_of_le h1,show Nat.blt u.1 (B+16)=true from Nat.ble_eq_true_of_le h2] at this
 exact Option.isNone_iff_eq_none.1 (by simpa using this.2)
theorem vz {o:Op} {tm:Nat→Sy.V S.C} {x:Operand} (hx:x ∈ o.operands.toList) {V:Sy.V S.C} (hV:aX S tm x=some V) {i:Nat} (hi:i ∈ aI S V):
 i ∈ o.operands.toList.flatMap (vT S tm):=
 List.mem_flatMap.2 ⟨x,hx,by unfold vT; rw [hV]; exact hi⟩
theorem uK {bx:Bx S.C} {ids:List Nat} {i:Nat} (h:i ∈ ids):restrict S bx ids i=bx i:=by
 unfold restrict
 rw [List.contains_iff_mem.2 h]; rfl
theorem J5 {bx:Bx S.C} {ids more:List Nat} {V:Sy.V S.C} (h: ∀ i ∈ aI S V,i ∈ ids):jN S bx (restrict S bx (deep S bx ids++more)) V:=fun i hi=>
 ⟨uK (List.mem_append.2 (.inl (List.mem_append.2 (.inl (h i hi))))),fun vs hvs v hv j hj=>uK (List.mem_append.2 (.inl (List.mem_append.2 (.inr (List.mem_flatMap.2 ⟨i,h i hi,by
  rcases hvs with hvs | hvs <;> · rw [hvs]; exact List.mem_flatMap.2 ⟨v,hv,hj⟩⟩))))),
  fun j hj=>uK (List.mem_append.2 (.inl (List.mem_append.2 (.inr (List.mem_flatMap.2 ⟨i,h i hi,by rw [hj]; simp⟩)))))⟩
theorem Xi (hP:bf P S au) {T:iA S} (hT: ∀ e ∈ T.es,qF P S w0 M0 e) (hF: ∀ e ∈ T.fs,eZ P S e) (h:Inv P S w0 M0 s0 dq env a w μ) (hd: ∀ d,o.dst=some d→d<a.tmps.size) {B:Nat}
 (hl:(c7 S T au B o.op o.type env.tm (restrict S env.bx (aN S T.vw B o.op env.tm env.bx).1)).leaf (V,us)) (vN:nY S env.bx B (aN S T.vw B o.op env.tm env.bx).2 us=true)
 (hK:Goal P S w0 M0 s0 dq env a o.dst V us K):o.wp P a w K Q:=by
 have hnew:=Wt vN
 clear vN
 cases ho:o.op with
 | move x=>rw [ho] at hl; exact Gw h hd (x:=x) (by unfold execOp; simp only [ho]) hnew hl hK
 | assign x=>rw [ho] at hl; exact Rw h hd (x:=x) (by unfold execOp; simp only [ho]) hnew hl hK
 | pick c x y=>rw [ho] at hl; exact Xv h hd ho hl hK
 | alloc t=>rw [ho] at hl; exact Rh hP h hd ho hnew hl hK
 | box t x=>rw [ho] at hl; exact RW hP h hd ho hnew hl hK
 | build t ps=>rw [ho] at hl; exact RZ hP h hd ho hl hK
 | buildSlice t len ps=>
  rw [ho] at hl
  unfold c7 at hl
  dsimp only at hl
  split at hl
  rotate_left
  · exact hl.elim
  rename_i e het
  cases hv:(T.vw&&Nat.beq len 0) with
  | true=>
   rw [hv,cond_true] at hl
   have h0:=Nat.eq_of_beq_eq_true (Bool.and_eq_true_iff.1 hv).2
   subst h0
   exact Tn hP h hd ho het hnew hl hK
  | false=>
  rw [hv,cond_false] at hl
  refine RY hP h hd ho (fun i x hm V hV j hj=> ?_) hnew (by rw [het]; exact hl) hK
  exact uK (List.mem_append.2 (.inl (vz (x:=x) (by simp only [Op.operands]; exact List.mem_map.2 ⟨(i,x),hm,rfl⟩) hV hj)))
 | load t x=>rw [ho] at hl; exact WO hP h hd ho hl hK
 | store t x y=>
  rw [ho] at hl
  unfold c7 at hl
  dsimp only at hl
  split at hl
  · rename_i n e u hte
    refine aa7 hP h hd ho hte (fun V hV j hj=> ?_) hl hK
    exact uK (List.mem_append.2 (.inl (vz (x:=y) (by simp [Op.operands]) hV hj)))
  · refine O4 hP h hd ho (fun V hV j hj=> ?_) hl hK
    exact uK (List.mem_append.2 (.inl (vz (x:=y) (by simp [Op.operands]) hV hj)))
 | nilCheck x=>rw [ho] at hl; exact W6 h hd ho hl hK
 | binOp op t x y t'=>
  rw [ho] at hl
  by_cases hy:y= .const .nilIface
  · subst hy
    exact Tz hP h hd ho hl hK
  rw [GC hy] at hl
  cases he:S.eq t with
  | true=>rw [he,cond_true] at hl; exact aa9 hP h hd ho he hl hK
  | false=>rw [he,cond_false] at hl; exact RI hP h hd ho hl hK
 | unOp op t x=>rw [ho] at hl; exact abZ h hd ho hl hK
 | convert s t x=>rw [ho] at hl; exact S9 hP h hd ho hl hK
 | makeFunc fn first cs=>
  rw [ho] at hl
  cases fn with
  | func f=>
   obtain ⟨l⟩:=first
   cases l with
   | nil=>exact WV h hd ho hl hK
   | cons x r=>exact hl.elim
  | _=>exact hl.elim
 | makeSlice t x y=>rw [ho] at hl; exact WU hP h hd ho hnew hl hK
 | slice t x lo hi m=>
  rw [ho] at hl
  cases m with
  | none=>exact aaQ hP h hd ho hl hK
  | some m=>
   cases lo with
   | none=>exact hl.elim
   | some lo=>
    cases hi with
    | none=>exact hl.elim
    | some hi=>exact aaP hP h hd ho hl hK
 | fieldAddr t x f=>rw [ho] at hl; exact TV hP h hd ho hl hK
 | field t x f=>rw [ho] at hl; exact TW hP h hd ho hl hK
 | indexAddr t x i=>
  rw [ho] at hl
  unfold c7 at hl
  dsimp only at hl
  split at hl
  · rename_i n e u hte; exact Rq hP h hd ho hte hl hK
  · exact VS hP h hd ho hl hK
 | index t x i=>
  rw [ho] at hl
  unfold c7 at hl
  dsimp only at hl
  split at hl
  · rename_i n e u hte; exact Rs hP h hd ho hte hl hK
  · split at hl
    · rename_i n m u hte; exact Rr hP h hd ho hte hl hK
    · exact VU hP h hd ho hl hK
 | extract x i=>rw [ho] at hl; exact TT h hd ho hl hK
 | call c=>
  rw [ho] at hl
  unfold c7 at hl
  dsimp only at hl
  split at hl
  · exact hl.elim
  · rename_i args hargs
    obtain ⟨callee,xX,JX⟩:=c
    have hmem: ∀ V ∈ args, ∃ x ∈ xX.toList,aX S env.tm x=some V:=(AG h hargs).2
    cases callee with
    | builtin b=>
     cases b with
     | len=>exact Wr hP h hd ho rfl hargs hl hK
     | append=>
      refine Rn hP h hd ho rfl hargs (fun V hV j hj=> ?_) hnew hl hK
      obtain ⟨x,hx,he⟩:=hmem V hV
      exact uK (List.mem_append.2 (.inl (vz (x:=x) (by simp only [Op.operands,Call.operands]; simpa using hx) he hj)))
     | clear=>exact S0 hP h hd ho rfl hargs hl hK
     | _=>exact WY h hd ho rfl hargs hl hK
    | value f=>
     dsimp only at hl
     split at hl
     · rename_i Vf hf
       refine R8 hP hT hF h hd ho rfl hargs hf (fun V hV=> ?_) ?_ hnew hl hK
       · obtain ⟨x,hx,he⟩:=hmem V hV
         exact J5 fun i hi=>vz (x:=x) (by simp only [Op.operands,Call.operands]; simp; right; simpa using hx) he hi
       · exact J5 fun i hi=>vz (x:=f) (by simp only [Op.operands,Call.operands]; simp) hf hi
     · exact hl.elim
    | invoke r n=>exact hl.elim
 | _=>rw [ho] at hl; exact hl.elim
end
end Go.Sy
namespace Go.Sy
section
variable {P:Program} {S:bg} {au:Nat→Nat} {T:iA S}
variable {w0:World} {M0 s0:St} {dq:List Deferred} {env:Env S.C} {a:Act} {w:World} {μ:Nat→Loc}
theorem O3 {R:Type} {B:Nat} {dst:Option Nat} {o:Op} {ty:Nat} {k:Env S.C→Option R} {r:R} (h:Ic S T au B dst o ty env k=some r):
 ∃ V us,(c7 S T au B o ty env.tm (restrict S env.bx (aN S T.vw B o env.tm env.bx).1)).leaf (V,us)∧nY S env.bx B (aN S T.vw B o env.tm env.bx).2 us=true∧k (env.apply dst V us)=some r:=by
 unfold Ic at h
 obtain ⟨⟨V,us⟩,h1,h2⟩:=Tr.uO _ h
 dsimp only at h2
 cases hl:nY S env.bx B (aN S T.vw B o env.tm env.bx).2 us with
 | false=>rw [hl] at h2; cases h2
 | true=>rw [hl] at h2; exact ⟨V,us,h1,hl,h2⟩
def sM (V:Sy.V S.C) (x:Bool):Prop:=(V= .d .bool x)∨ ∃ p i,V= .pr p i∧ @decide p i=x
theorem sM.val {s:St} {bx:Bx S.C} {V:Sy.V S.C} {x:Bool} (h:sM V x) {v:Value} (hv:RV P S w s μ bx V v):v= .bool x:=by
 rcases h with rfl | ⟨p,i,rfl,rfl⟩
 · exact sQ hv
 · exact hv
theorem Ia {R:Type} {g:Bool} {dst:Option Nat} {k:Env S.C→Option R} {r:R} (h:splitK S g dst env k=some r):
 (g=false∧k env=some r)∨ ∃ t x,g=true∧dst=some t∧sM (env.tm t) x∧k { env with tm:=aC env.tm t (.d .bool x) } =some r:=by
 cases g with
 | false=>exact .inl ⟨rfl,h⟩
 | true=>
  right
  cases dst with
  | none=>cases h
  | some t=>
   simp only [splitK] at h
   split at h
   · rename_i x ht
     cases x with
     | true=>exact ⟨t,true,rfl,rfl, .inl ht,h⟩
     | false=>exact ⟨t,false,rfl,rfl, .inl ht,h⟩
   · rename_i p i ht
     by_cases hp:p
     · rw [if_pos hp] at h
       exact ⟨t,true,rfl,rfl, .inr ⟨p,i,ht,decide_eq_true hp⟩,h⟩
     · rw [if_neg hp] at h
       exact ⟨t,false,rfl,rfl, .inr ⟨p,i,ht,decide_eq_false hp⟩,h⟩
   · cases h
theorem Inv.HC (h:Inv P S w0 M0 s0 dq env a w μ) {t:Nat} {x:Bool} (hk:sM (env.tm t) x):Inv P S w0 M0 s0 dq { env with tm:=aC env.tm t (.d .bool x) } a w μ:=by
 have hv:=hk.val (h.j9 t)
 refine ⟨fun u=> ?_,h.cc,h.dK,h.own,fun u i hi=> ?_,h.lQ,h.iZ,h.vn,h.tF⟩
 · by_cases e:u=t
   · subst e
     show RV P S w _ μ env.bx (aC env.tm u (.d .bool x) u) _
     rw [aY,hv]
     exact oU ..
   · show RV P S w _ μ env.bx (aC env.tm t (.d .bool x) u) _
     rw [br _ _ e]
     exact h.j9 u
 · have hi':i ∈ aI S (aC env.tm t (.d .bool x) u):=hi
   by_cases e:u=t
   · subst e
     rw [aY] at hi'
     simp [aI,aG] at hi'
   · rw [br _ _ e] at hi'
     exact h.ref u i hi'
theorem T_ {a:Act} {t:Nat} {x:Bool} (h:a.tmps.getD t Go.undef= .bool x):a.tmps[t]? =some (.bool x):=by
 rw [Array.getD_eq_getD_getElem?] at h
 cases e:a.tmps[t]? with
 | none=>rw [e] at h; cases h
 | some v=>rw [e] at h; exact congrArg some h
theorem Iq {ops:Array Oper} {o:Oper} {b:Bool} (h:Inv P S w0 M0 s0 dq env a w μ) (hw:oK S ops o env.tm=some b):Region.wanted o (yielded ops a.tmps)=b:=by
 unfold oK at hw
 unfold Region.wanted
 split at hw
 · rename_i hg
   rw [hg]
   exact Option.some.inj hw
 · rename_i j want hg
   rw [hg]
   dsimp only
   split at hw
   · cases hw
   · rename_i t ht
     unfold yielded
     rw [ht]
     simp only [Option.bind_some]
     split at hw
     · rename_i x hx
       have hv:=h.j9 t
       rw [hx] at hv
       rw [T_ (sQ hv)]
       cases hw
       cases x <;> cases want <;> rfl
     · rename_i hx
       have hv:=h.j9 t
       rw [hx] at hv
       have hv:a.tmps.getD t Go.undef=Go.undef:=hv
       cases hw
       rw [Array.getD_eq_getD_getElem?] at hv
       cases e:a.tmps[t]? with
       | none=>rfl
       | some v=>
        rw [e] at hv
        have hv:v=Go.undef:=hv
        rw [hv]
        rfl
     · cases hw
theorem XC (a:Act) (dst:Option Nat) (v:Value):(a.put dst v).tmps.size=a.tmps.size:=by cases dst <;> simp [Act.put]
theorem Inv.skip (h:Inv P S w0 M0 s0 dq env a w μ) {dst:Option Nat} (hd: ∀ d,dst=some d→d<a.tmps.size):Inv P S w0 M0 s0 dq (env.apply dst .skip []) (a.put dst undef) w μ:=
 h.put hd (V:= .skip) (v:=undef) rfl (by simp [aI,aG])
theorem PF {o:Oper} {K:Act→World→Prop} {Q:Exit→Act→World→Prop} (h:o.wp P a w K Q):o.wp P a w (fun a' w'=>K a' w'∧ ∃ v d,a'=({ a with defers:=d } :Act).put o.dst v) Q:=by
 unfold Oper.wp at *
 generalize (execOp a.eval o).run P w=r at *
 cases r with
 | ok n w'=>
  cases n <;> simp only [Oper.upon] at h ⊢ <;>
   first
    | exact ⟨h,_,_,rfl⟩
    | exact Calls.mono h (fun e w'' he=>by cases e <;> first | exact ⟨he,_,a.defers,rfl⟩ | exact he)
    | exact Rows.mono h (fun _ _ he=>⟨he,_,a.defers,rfl⟩)
 | halt x w'=>cases x <;> simp only [Oper.upon] at h ⊢ <;> exact h
theorem ML (hP:bf P S au) (hT: ∀ e ∈ T.es,qF P S w0 M0 e) (hF: ∀ e ∈ T.fs,eZ P S e) (h:Inv P S w0 M0 s0 dq env a w μ) {o:Oper} (hd: ∀ d,o.dst=some d→d<a.tmps.size) {B:Nat} {V:Sy.V S.C} {us:aR S.C} {K:Act→World→Prop} {Q:Exit→Act→World→Prop}
 (hl:(c7 S T au B o.op o.type env.tm (restrict S env.bx (aN S T.vw B o.op env.tm env.bx).1)).leaf (V,us)) (vN:nY S env.bx B (aN S T.vw B o.op env.tm env.bx).2 us=true)
 (hK: ∀ a' w' μ',Inv P S w0 M0 s0 dq (env.apply o.dst V us) a' w' μ'→(∃ v d,a'=({ a with defers:=d } :Act).put o.dst v)→K a' w'):o.wp P a w K Q:=
 Oper.wp_mono (fun a' w' ⟨⟨μ',hI⟩,hv⟩=>hK a' w' μ' hI hv) (PF (Xi hP hT hF h hd hl vN (K:=fun a' w'=> ∃ μ',Inv P S w0 M0 s0 dq (env.apply o.dst V us) a' w' μ') fun a' w' μ' hI _=>⟨μ',hI⟩))
structure Av (ops:Array Oper) (Z:Act→Prop):Prop where
 dst: ∀ a,Z a→ ∀ o ∈ ops.toList, ∀ d,o.dst=some d→d<a.tmps.size
 put: ∀ a,Z a→ ∀ o ∈ ops.toList, ∀ v d,Z (({ a with defers:=d } :Act).put o.dst v)
theorem Rc {R:Type} {a b:Option R} {r:R} (h:agree a b=some r):a=some r∧b=some r:=by
 unfold agree at h
 split at h
 · rename_i e; exact ⟨h,e▸h⟩
 · cases h
theorem aaj (d:Nat) {t te:TypeId} (hu:P.underlying t=some (.slice te)) (a:Option Addr) (n c:Nat) (w:World):(Op.equalIn (d+1) t (.slice a n c) (.slice none 0 0)).run P w= .ok a.isNone w:=by
 unfold Op.equalIn
 cases a <;> simp [run_underlying hu]
theorem OA {t te:TypeId} (hu:P.underlying t=some (.slice te)) (a:Option Addr) (n c:Nat) (w:World):(Op.equal t (.slice a n c) (.slice none 0 0)).run P w= .ok a.isNone w:=aaj 9999 hu a n c w
theorem W7 (hP:bf P S au) (h:Inv P S w0 M0 s0 dq env a w μ) {o:Oper} (hd: ∀ d,o.dst=some d→d<a.tmps.size) {m:Nat} {v:Bool} (hn:zo S o.op env.tm=some (m,v)) {Q:Exit→Act→World→Prop} :
 ∃ x:Bool,(x=v∨m=0)∧ ∀ K:Act→World→Prop,(∀ a' w' μ',Inv P S w0 M0 s0 dq (env.apply o.dst (.d .bool x) []) a' w' μ'→(∃ v d,a'=({ a with defers:=d } :Act).put o.dst v)→K a' w')→o.wp P a w K Q:=by
 unfold zo at hn
 split at hn
 · rename_i op t x ty ho
   split at hn
   · rename_i e het
     obtain ⟨te,_,_,hu,_⟩:=hP.sl (o9 het)
     split at hn
     · rename_i e' l hx
       obtain ⟨hv,_⟩:=bD h hx
       obtain ⟨ad,cap,e1,e2,e3⟩:=mg hv
       have go: ∀ (y:Bool),(binOp op t (.slice ad l.length cap) (.slice none 0 0)).run P w= .ok (.bool y) w→ ∀ K:Act→World→Prop,(∀ a' w' μ',Inv P S w0 M0 s0 dq (env.apply o.dst (.d .bool y) []) a' w' μ'→(∃ v d,a'=({ a with defers:=d } :Act).put o.dst v)→K a' w')→o.wp P a w K Q:=by
        intro y hrun K hK
        refine Oper.wp_mono (fun a' w' ⟨⟨μ',hI⟩,hv⟩=>hK a' w' μ' hI hv) (PF (wp_pure (K:=fun a' w'=> ∃ μ',Inv P S w0 M0 s0 dq (env.apply o.dst (.d .bool y) []) a' w' μ') (V:= .d .bool y) (v:= .bool y) h ?_ hd (oU ..) (by simp [aI,aG]) fun a' w' μ' hI _=>⟨μ',hI⟩))
        unfold execOp
        simp only [ho,e1]
        have hg:(eqGuard op t x (.const (.slice none 0 0)) (.slice ad l.length cap) (.slice none 0 0)).run P w= .ok () w:=ES rfl w
        have hev:a.eval (.const (.slice none 0 0))= .slice none 0 0:=rfl
        simp [hg,hrun,hev]
       have hlen:ad=none→List.length l=0:=by
        intro h0
        rcases e3 with e3 | ⟨b,o',n',e3,_⟩
        · exact e3
        · rw [h0] at e3; cases e3
       split at hn <;> cases hn
       · refine ⟨ad.isNone, ?_,go _ (by simp [binOp,OA hu])⟩
         cases ad with
         | none=>exact .inr (hlen rfl)
         | some _=>exact .inl rfl
       · refine ⟨!ad.isNone, ?_,go _ (by simp [binOp,OA hu])⟩
         cases ad with
         | none=>exact .inr (hlen rfl)
         | some _=>exact .inl rfl
     · cases hn
   · cases hn
 · cases hn
def As (T:iA S) (dq:List Deferred) (Z:Act→Prop):Prop:=
 ∀ f ops,T.dc=some (f,ops)→ ∀ a,Z a→dq= [⟨.fn (.func f) #[],(ops.map a.eval).toArray⟩]
theorem aaC (h:Inv P S w0 M0 s0 dq env a w μ) {x y:Operand} (hs:HX S env.tm x y=true):a.eval x=a.eval y:=by
 unfold HX at hs
 split at hs
 · rw [Bool.and_eq_true,decide_eq_true_eq,decide_eq_true_eq] at hs
   rw [hs.1,hs.2]
 · rename_i t u
   split at hs
   · rename_i b o b' o' h1 h2
     rw [Bool.and_eq_true] at hs
     have e1:=Nat.eq_of_beq_eq_true hs.1
     have e2:=Nat.eq_of_beq_eq_true hs.2
     have r1:=h.j9 t
     have r2:=h.j9 u
     rw [h1] at r1
     rw [h2] at r2
     have r1:a.tmps.getD t undef=_:=r1
     have r2:a.tmps.getD u undef=_:=r2
     show a.tmps.getD t undef=a.tmps.getD u undef
     rw [r1,r2,e1,e2]
   · cases hs
 · cases hs
theorem OJ (h:Inv P S w0 M0 s0 dq env a w μ): ∀ {xs ys:List Operand},C9 S env.tm xs ys=true→xs.map a.eval=ys.map a.eval
 | [],[],_=>rfl
 | x::xs,y::ys,hs=>by
  simp only [C9,Bool.and_eq_true] at hs
  rw [List.map_cons,List.map_cons,aaC h hs.1,OJ h hs.2]
 | [],_::_,h=>by cases h
 | _::_,[],h=>by cases h
theorem Td (h:Inv P S w0 M0 s0 dq env a w μ) {Z:Act→Prop} (hD:As T dq Z) (hN:Z a) {o:Oper} (hd: ∀ d,o.dst=some d→d<a.tmps.size) (hi:BC o.op=true) (hdf:env.df=false) (hk:A9 S env.tm T.dc o.op=true)
 {K:Act→World→Prop} {Q:Exit→Act→World→Prop} (hK: ∀ ds,Inv P S w0 M0 s0 dq { env.apply o.dst .skip [] with df:=true } (({ a with defers:=ds } :Act).put o.dst undef) w μ→K (({ a with defers:=ds } :Act).put o.dst undef) w):o.wp P a w K Q:=by
 cases ho:o.op <;> rw [ho] at hi <;> try (cases hi; done)
 rename_i c
 rw [ho] at hk
 obtain ⟨callee,args,tys⟩:=c
 cases callee with
 | builtin b=>cases hk
 | invoke r n=>cases hk
 | value fo=>
  cases fo with
  | func f=>
   unfold A9 at hk
   cases hdc:T.dc with
   | none=>rw [hdc] at hk; cases hk
   | some p=>
    obtain ⟨g,ops⟩:=p
    rw [hdc] at hk
    dsimp only at hk
    rw [Bool.and_eq_true] at hk
    have hfg:=Nat.eq_of_beq_eq_true hk.1
    subst hfg
    have hq:=hD f ops hdc a hN
    have hargs:(ops.map a.eval).toArray=args.map a.eval:=by
     rw [← OJ h hk.2]
     apply Array.ext'
     simp
    have h0:a.defers= []:=by rw [h.vn,hdf]; rfl
    unfold Oper.wp
    have hrun:(execOp a.eval o).run P w= .ok (.defer ⟨.fn (.func f) #[],args.map a.eval⟩) w:=by
     unfold execOp
     simp only [ho]
     simp [resolve,Deferred.ofValue,Act.eval]
    rw [hrun]
    show K _ _
    refine hK _ ?_
    have hs:=h.skip hd
    refine ⟨?_,hs.cc,hs.dK,hs.own,hs.ref,hs.lQ,hs.iZ, ?_,hs.tF⟩
    · intro t
      have :=hs.j9 t
      cases Ls:o.dst <;> rw [Ls] at this <;> exact this
    · rw [hargs] at hq
      cases Ls:o.dst <;> (show (_::a.defers)=dq; rw [h0,hq])
  | _=>cases hk
theorem uJ (hP:bf P S au) (hT: ∀ e ∈ T.es,qF P S w0 M0 e) (hF: ∀ e ∈ T.fs,eZ P S e) {R:Type} {di:Nat} {ops:Array Oper} {eE:Array Nat} {draw:Bool} {k:Env S.C→Option R} {r:R} {Z:Act→Prop} {Q:Exit→Act→World→Prop}
 (hZ:Av ops Z) (hD:As T dq Z) (hQ: ∀ env' a' w' μ',k env'=some r→Inv P S w0 M0 s0 dq env' a' w' μ'→Z a'→Q .normal a' w'):
 ∀ (l:List Oper) (n:Nat) (dA:List (Nat×Option (List Nat×List Nat))) (env:Env S.C) (a:Act) (w:World) (μ:Nat→Loc),l=ops.toList.drop n→j6 S T au di ops draw eE k l n dA env=some r→
 Inv P S w0 M0 s0 dq env a w μ→Z a→wpOps P ops Q (List.range' n l.length) a w
 | [],n,dA,env,a,w,μ,hl,hr,h,hN=>by
  simp only [j6] at hr
  cases hc:(!draw||(oT ops eE dA&&Am ops)) with
  | false=>rw [hc] at hr; cases hr
  | true=>rw [hc] at hr; exact hQ env a w μ hr h hN
 | o::l,n,dA,env,a,w,μ,hl,hr,h,hN=>by
  have jw:ops[n]? =some o:=by
   have :=congrArg (·[0]?) hl
   simp at this
   simpa using this.symm
  have hmem:o ∈ ops.toList:=by
   have :o ∈ ops.toList.drop n:=by rw [← hl]; simp
   exact List.mem_of_mem_drop this
  have hd: ∀ d,o.dst=some d→d<a.tmps.size:=hZ.dst a hN o hmem
  have hl':l=ops.toList.drop (n+1):=by
   rw [← List.drop_drop, ← hl]; rfl
  rw [List.length_cons,List.range'_succ,wpOps_cons]
  unfold wpOp
  rw [jw]
  dsimp only
  simp only [j6] at hr
  cases hw:oK S ops o env.tm with
  | none=>rw [hw] at hr; cases hr
  | some b=>
   rw [hw] at hr
   rw [Iq h hw]
   cases b with
   | false=>
    rw [if_neg (by simp)]
    exact uJ hP hT hF hZ hD hQ l (n+1) _ _ _ w μ hl' hr (h.skip hd) (hZ.put a hN o hmem undef a.defers)
   | true=>
    rw [if_pos rfl]
    left
    dsimp only at hr
    cases hdf:BC o.op with
    | true=>
     rw [hdf] at hr
     dsimp only at hr
     cases hc:(draw||env.df|| !A9 S env.tm T.dc o.op) with
     | true=>rw [hc] at hr; cases hr
     | false=>
      rw [hc,cond_false] at hr
      simp only [Bool.or_eq_false_iff,Bool.not_eq_false'] at hc
      exact Td h hD hN hd hdf hc.1.2 hc.2 fun ds hI=>uJ hP hT hF hZ hD hQ l (n+1) _ _ _ w μ hl' hr hI (hZ.put a hN o hmem undef ds)
    | false=>
    rw [hdf] at hr
    dsimp only at hr
    cases hn:zo S o.op env.tm with
    | some p=>
     obtain ⟨m,v⟩:=p
     rw [hn] at hr
     cases pE:draw with
     | true=>rw [pE] at hr; cases hr
     | false=>
     rw [pE] at hr
     simp only [cond_false] at hr
     obtain ⟨x,VJ,UZ⟩:=W7 (Q:=Q) hP h hd hn
     have UM:splitK S (za ops n) o.dst (env.apply o.dst (.d .bool x) []) (fun e=>j6 S T au di ops false eE k l (n+1) ((n,some ([],[]))::dA) e)=some r:=by
      by_cases hm:m=0
      · rw [if_pos hm] at hr
        obtain ⟨r1,r2⟩:=Rc hr
        cases x <;> cases v <;> first | exact r1 | exact r2
      · rw [if_neg hm] at hr
        rcases VJ with rfl | h0
        · exact hr
        · exact absurd h0 hm
     refine UZ _ fun a' w' μ' hI ⟨v,d,hs⟩=> ?_
     rcases Ia UM with ⟨_,h4⟩ | ⟨t,y,_,_,hk,h4⟩
     · exact uJ hP hT hF hZ hD hQ l (n+1) _ _ a' w' μ' hl' h4 hI (hs▸hZ.put a hN o hmem v d)
     · exact uJ hP hT hF hZ hD hQ l (n+1) _ _ a' w' μ' hl' h4 (hI.HC hk) (hs▸hZ.put a hN o hmem v d)
    | none=>
    rw [hn] at hr
    obtain ⟨V,us,h1,h2,h3⟩:=O3 hr
    refine ML hP hT hF h hd h1 h2 fun a' w' μ' hI ⟨v,d,hs⟩=> ?_
    rcases Ia h3 with ⟨_,h4⟩ | ⟨t,x,_,_,hk,h4⟩
    · exact uJ hP hT hF hZ hD hQ l (n+1) _ _ a' w' μ' hl' h4 hI (hs▸hZ.put a hN o hmem v d)
    · exact uJ hP hT hF hZ hD hQ l (n+1) _ _ a' w' μ' hl' h4 (hI.HC hk) (hs▸hZ.put a hN o hmem v d)
end
end Go.Sy
namespace Go.Sy
theorem RG (ops:List Oper): ∀ (acc:Array Nat), ∃ b:Array Nat,(ops.foldl (init:=acc) fun acc o=>acc.push (o.after.foldl (fun s e=>if Region.binds .any e then s ||| 2 ^ e.on ||| acc.getD e.on 0 else s) 0))=b∧
 (∀ j,j<acc.size→b.getD j 0=acc.getD j 0)∧b.size=acc.size+ops.length∧
 ∀ j o,ops[j]? =some o→ ∀ i,(b.getD (acc.size+j) 0).testBit i=true→ ∃ e ∈ o.after.toList,Region.binds .any e=true∧(e.on=i∨(e.on<acc.size+j∧(b.getD e.on 0).testBit i=true)):=by
 induction ops with
 | nil=>intro acc; exact ⟨acc,rfl,fun _ _=>rfl,rfl,fun j o h=>by simp at h⟩
 | cons o ops ih=>
  intro acc
  obtain ⟨b,h1,h2,h3,h4⟩:=ih (acc.push (o.after.foldl (fun s e=>if Region.binds .any e then s ||| 2 ^ e.on ||| acc.getD e.on 0 else s) 0))
  refine ⟨b,h1,fun j hj=> ?_,by rw [h3]; simp; omega,fun j o' hj i hi=> ?_⟩
  · rw [h2 j (by simp; omega)]
    simp only [Array.getD_eq_getD_getElem?]
    rw [Array.getElem?_push_lt hj]
    simp [hj]
  · cases j with
    | zero=>
     simp at hj
     subst hj
     rw [Nat.add_zero] at hi ⊢
     rw [h2 acc.size (by simp)] at hi
     simp only [Array.getD_eq_getD_getElem?,Array.getElem?_push_size,Option.getD_some] at hi
     rw [← Array.foldl_toList] at hi
     have : ∀ (l:List Edge) (s:Nat),(l.foldl (fun s e=>if Region.binds .any e then s ||| 2 ^ e.on ||| (acc[e.on]?.getD 0) else s) s).testBit i=true→s.testBit i=true∨ ∃ e ∈ l,Region.binds .any e=true∧(e.on=i∨(acc[e.on]?.getD 0).testBit i=true):=by
      intro l
      induction l with
      | nil=>intro s h; exact .inl h
      | cons e l ih2=>
       intro s h
       rcases ih2 _ h with h | ⟨e',he',h⟩
       · dsimp only at h
         by_cases hb:Region.binds .any e=true
         · rw [if_pos hb,Nat.testBit_or,Nat.testBit_or,Bool.or_eq_true,Bool.or_eq_true,Nat.testBit_two_pow] at h
           rcases h with (h | h) | h
           · exact .inl h
           · exact .inr ⟨e,by simp,hb, .inl (by simpa using h)⟩
           · exact .inr ⟨e,by simp,hb, .inr h⟩
         · rw [if_neg hb] at h; exact .inl h
       · exact .inr ⟨e',by simp [he'],h⟩
     rcases this _ _ hi with h | ⟨e,he,hb,h⟩
     · simp at h
     · refine ⟨e,he,hb,h.imp id fun h=> ?_⟩
       have hlt:e.on<acc.size:=by
        rcases Nat.lt_or_ge e.on acc.size with hlt | hge
        · exact hlt
        · rw [Array.getElem?_eq_none hge] at h; simp at h
       refine ⟨hlt, ?_⟩
       rw [h2 e.on (by simp; omega)]
       simp only [Array.getD_eq_getD_getElem?]
       rw [Array.getElem?_push_lt hlt]
       simpa [hlt] using h
    | succ j=>
     have hs:(acc.push (o.after.foldl (fun s e=>if Region.binds .any e then s ||| 2 ^ e.on ||| acc.getD e.on 0 else s) 0)).size+j=acc.size+(j+1):=by simp; omega
     have :=h4 j o' (by simpa using hj) i (by rw [hs]; exact hi)
     rw [hs] at this
     exact this
theorem Jk {ops:Array Oper} {j:Nat} {o:Oper} (hj:ops[j]? =some o) {i:Nat} (hi:((Region.before ops).getD j 0).testBit i=true):
 ∃ e ∈ o.after.toList,Region.binds .any e=true∧(e.on=i∨(e.on<j∧((Region.before ops).getD e.on 0).testBit i=true)):=by
 obtain ⟨b,h1,h2,h3,h4⟩:=RG ops.toList #[]
 have hb:Region.before ops=b:=by
  rw [← h1]
  unfold Region.before
  rw [← Array.foldl_toList]
 rw [hb] at hi ⊢
 have :=h4 j o (by simpa using hj) i (by simpa using hi)
 simpa using this
def xE (ops:Array Oper) (D:Nat→Bool):Prop:= ∀ j o,D j=true→ops[j]? =some o→ ∀ e ∈ o.after.toList,Region.binds .any e=true→D e.on=true
theorem xE.before {ops:Array Oper} {D:Nat→Bool} (h:xE ops D) (hn: ∀ j,D j=true→j<ops.size): ∀ (j i:Nat),D j=true→((Region.before ops).getD j 0).testBit i=true→D i=true:=by
 intro j
 induction j using Nat.strongRecOn with
 | _ j ih=>
  intro i hj hi
  have hlt:=hn j hj
  obtain ⟨e,he,hb,h1⟩:=Jk (ops:=ops) (j:=j) (o:=ops[j]) (by simp [hlt]) hi
  have :=h j ops[j] hj (by simp [hlt]) e he hb
  rcases h1 with rfl | ⟨h1,h2⟩
  · exact this
  · exact ih e.on h1 i this h2
theorem YB {ops:Array Oper} {D:Nat→Bool} (h:xE ops D) (hn: ∀ j,D j=true→j<ops.size) {j:Nat} {o:Oper} (hj:ops[j]? =some o) (hr: ∀ e ∈ o.after.toList,Region.binds .any e=true→D e.on=true) {i:Nat}
 (hi:((Region.before ops).getD j 0).testBit i=true):D i=true:=by
 obtain ⟨e,he,hb,h1⟩:=Jk hj hi
 rcases h1 with rfl | ⟨h1,h2⟩
 · exact hr e he hb
 · exact h.before hn e.on i (hr e he hb) h2
def cnt (D:Nat→Bool):Nat→Nat
 | 0=>0
 | n+1=>cnt D n+cond (D n) 0 1
theorem JR {D:Nat→Bool} {i:Nat} : ∀ {n:Nat},n≤i→cnt (aC D i true) n=cnt D n
 | 0,_=>rfl
 | n+1,h=>by
  simp only [cnt]
  rw [JR (by omega),br _ _ (by omega)]
theorem JS {D:Nat→Bool} {i:Nat} (hi:D i=false): ∀ {n:Nat},i<n→cnt (aC D i true) n+1=cnt D n
 | 0,h=>by omega
 | n+1,h=>by
  simp only [cnt]
  by_cases e:i=n
  · subst e
    rw [JR (Nat.le_refl _),aY,hi]
    rfl
  · rw [br _ _ (Ne.symm e)]
    have :=JS hi (n:=n) (by omega)
    omega
theorem JT {D:Nat→Bool} : ∀ {n:Nat},cnt D n=0→ ∀ i,i<n→D i=true
 | 0,_,i,h=>by omega
 | n+1,hc,i,h=>by
  simp only [cnt] at hc
  by_cases e:i=n
  · subst e
    cases hd:D i with
    | true=>rfl
    | false=>rw [hd] at hc; simp at hc
  · exact JT (D:=D) (n:=n) (by omega) i (by omega)
end Go.Sy
namespace Go.Sy
section
variable {P:Program} {S:bg} {au:Nat→Nat} {T:iA S}
theorem mapM_congr {α β:Type} {f g:α→Option β} : ∀ {l:List α},(∀ x ∈ l,f x=g x)→l.mapM f=l.mapM g
 | [],_=>rfl
 | x::l,h=>by
  rw [List.mapM_cons,List.mapM_cons,h x (by simp),mapM_congr fun y hy=>h y (by simp [hy])]
theorem Xh {B:Nat} {o:Op} {ty:Nat} {tm nq:Nat→V S.C} {bx:Bx S.C} (h: ∀ x ∈ o.operands.toList,aX S tm x=aX S nq x):c7 S T au B o ty tm bx=c7 S T au B o ty nq bx:=by
 have h1: ∀ x,o.operands.toList= [x]→aX S tm x=aX S nq x:=fun x e=>h x (by rw [e]; simp)
 cases o with
 | move x=>simp only [c7,h1 x (by simp [Op.operands])]
 | assign x=>simp only [c7,h1 x (by simp [Op.operands])]
 | pick c x y=>simp only [c7,h c (by simp [Op.operands]),h x (by simp [Op.operands]),h y (by simp [Op.operands])]
 | alloc t=>rfl
 | box t x=>simp only [c7,h1 x (by simp [Op.operands])]
 | build t ps=>
  simp only [c7]
  rw [mapM_congr (l:=ps.toList) fun p hp=>by rw [h p.2 (by simp only [Op.operands]; exact List.mem_map.2 ⟨p,hp,rfl⟩)]]
 | buildSlice t len ps=>
  simp only [c7]
  rw [mapM_congr (l:=ps.toList) fun p hp=>by rw [h p.2 (by simp only [Op.operands]; exact List.mem_map.2 ⟨p,hp,rfl⟩)]]
 | load t x=>simp only [c7,h1 x (by simp [Op.operands])]
 | store t x y=>simp only [c7,h x (by simp [Op.operands]),h y (by simp [Op.operands])]
 | nilCheck x=>simp only [c7,h1 x (by simp [Op.operands])]
 | binOp op t x y t'=>
  have hx:=h x (by simp [Op.operands])
  have hy:=h y (by simp [Op.operands])
  by_cases e:y= .const .nilIface
  · subst e
    simp only [c7,hx]
  · rw [GC e,GC e,hx,hy]
 | unOp op t x=>simp only [c7,h1 x (by simp [Op.operands])]
 | convert s t x=>simp only [c7,h1 x (by simp [Op.operands])]
 | makeFunc fn first cs=>
  cases fn with
  | func f=>
   obtain ⟨l⟩:=first
   cases l with
   | nil=>
    simp only [c7]
    rw [mapM_congr (l:=cs.toList) fun x hx=>h x (by simpa [Op.operands] using hx)]
   | cons x r=>rfl
  | _=>rfl
 | makeSlice t x y=>simp only [c7,h x (by simp [Op.operands]),h y (by simp [Op.operands])]
 | slice t x lo hi m=>
  cases m with
  | some m=>
   cases lo with
   | none=>rfl
   | some lo=>
    cases hi with
    | none=>rfl
    | some hi=>simp only [c7,h x (by simp [Op.operands]),h lo (by simp [Op.operands]),h hi (by simp [Op.operands]),h m (by simp [Op.operands])]
  | none=>
   have e1:jX S tm lo=jX S nq lo:=by
    cases lo with
    | none=>rfl
    | some y=>simp only [jX]; rw [h y (by simp [Op.operands])]
   have e2:jX S tm hi=jX S nq hi:=by
    cases hi with
    | none=>rfl
    | some y=>simp only [jX]; rw [h y (by simp [Op.operands])]
   simp only [c7,h x (by simp [Op.operands]),e1,e2]
 | fieldAddr t x f=>simp only [c7,h1 x (by simp [Op.operands])]
 | field t x f=>simp only [c7,h1 x (by simp [Op.operands])]
 | indexAddr t x i=>simp only [c7,h x (by simp [Op.operands]),h i (by simp [Op.operands])]
 | index t x i=>simp only [c7,h x (by simp [Op.operands]),h i (by simp [Op.operands])]
 | extract x i=>simp only [c7,h1 x (by simp [Op.operands])]
 | call c=>
  obtain ⟨callee,xX,JX⟩:=c
  have ha:xX.toList.mapM (aX S tm)=xX.toList.mapM (aX S nq):=mapM_congr fun x hx=>h x (by simp only [Op.operands,Call.operands]; simp; right; simpa using hx)
  unfold c7
  dsimp only
  rw [ha]
  cases callee with
  | builtin b=>cases b <;> rfl
  | value f=>
   dsimp only
   rw [h f (by simp [Op.operands,Call.operands])]
  | invoke r n=>rfl
 | _=>rfl
theorem E9 {α β:Type} {f g:α→List β} : ∀ {l:List α},(∀ x ∈ l,f x=g x)→l.flatMap f=l.flatMap g
 | [],_=>rfl
 | x::l,h=>by rw [List.flatMap_cons,List.flatMap_cons,h x (by simp),E9 fun y hy=>h y (by simp [hy])]
theorem Tc {bx aq:Bx S.C} {ids:List Nat} (h: ∀ i ∈ ids,aq i=bx i):deep S aq ids=deep S bx ids:=by
 unfold deep
 congr 1
 exact E9 fun i hi=>by rw [h i hi]
theorem T4 {B:Nat} {o:Op} {tm nq:Nat→V S.C} {bx aq:Bx S.C} (h: ∀ x ∈ o.operands.toList,aX S nq x=aX S tm x) (hb: ∀ i ∈ (aN S T.vw B o tm bx).1,aq i=bx i):aN S T.vw B o nq aq=aN S T.vw B o tm bx:=by
 have hi:o.operands.toList.flatMap (vT S nq)=o.operands.toList.flatMap (vT S tm):=
  E9 fun x hx=>by unfold vT; rw [h x hx]
 have h1: ∀ x,o.operands.toList= [x]→aX S nq x=aX S tm x:=fun x e=>h x (by rw [e]; simp)
 cases o with
 | move x=>simp only [aN,h1 x (by simp [Op.operands])]
 | assign x=>simp only [aN,h1 x (by simp [Op.operands])]
 | call c=>
  obtain ⟨callee,xX,JX⟩:=c
  cases callee with
  | builtin b=>
   cases b with
   | len=>simp only [aN]; rw [hi]
   | _=>simp only [aN]; rw [hi]
  | value f=>
   simp only [aN]
   rw [hi,Tc fun i hm=>hb i (by simp only [aN]; exact List.mem_append.2 (.inl (List.mem_append.2 (.inl hm))))]
  | invoke r n=>simp only [aN]; rw [hi]
 | _=>simp only [aN] <;> rw [hi]
structure dS (S:bg) where
 dst:Option Nat
 W:V S.C
 us:aR S.C
 fp:Option (List Nat×List Nat)
def dS.put (e:dS S) (env:Env S.C):Env S.C:=env.apply e.dst e.W e.us
def bW (D:Nat→Bool):List (dS S)→Nat→Env S.C→Env S.C
 | [],_,env=>env
 | e::es,n,env=>bW D es (n+1) (cond (D n) (e.put env) env)
def Spec (T:iA S) (au:Nat→Nat) (di:Nat) (ops:Array Oper) (env:Env S.C) (n:Nat) (o:Oper) (e:dS S):Prop:=
 e.dst=o.dst∧((oK S ops o env.tm=some false∧e.W= .skip∧e.us= []∧e.fp=none)∨
  (oK S ops o env.tm=some true∧e.fp=some (aN S T.vw (mm di n o.dst) o.op env.tm env.bx)∧nY S env.bx (mm di n o.dst) (aN S T.vw (mm di n o.dst) o.op env.tm env.bx).2 e.us=true∧
   ∃ V,(c7 S T au (mm di n o.dst) o.op o.type env.tm (restrict S env.bx (aN S T.vw (mm di n o.dst) o.op env.tm env.bx).1)).leaf (V,e.us)∧
    (e.W=V∨ ∃ t x,o.dst=some t∧sM V x∧e.W= .d .bool x)))
def u0 (T:iA S) (au:Nat→Nat) (di:Nat) (ops:Array Oper):List Oper→Nat→Env S.C→List (dS S)→Prop
 | [],_,_,es=>es= []
 | o::l,n,env,es=> ∃ e r,es=e::r∧Spec T au di ops env n o e∧u0 T au di ops l (n+1) (e.put env) r
def yB:List (dS S)→Nat→List (Nat×Option (List Nat×List Nat))→List (Nat×Option (List Nat×List Nat))
 | [],_,dA=>dA
 | e::es,n,dA=>yB es (n+1) ((n,e.fp)::dA)
theorem Tq (es:List (dS S)) (n:Nat) (env:Env S.C): ∀ {D:Nat→Bool},(∀ i,n≤i→i<n+es.length→D i=true)→bW D es n env=es.foldl (fun env e=>e.put env) env:=by
 induction es generalizing n env with
 | nil=>intro D _; rfl
 | cons e es ih=>
  intro D h
  simp only [bW,List.foldl_cons]
  rw [h n (Nat.le_refl _) (by simp),cond_true]
  exact ih (n+1) _ fun i h1 h2=>h i (by omega) (by simp; omega)
theorem Kk (es:List (dS S)) (n:Nat) (env:Env S.C) {D:Nat→Bool} (h: ∀ i,n≤i→D i=false):bW D es n env=env:=by
 induction es generalizing n env with
 | nil=>rfl
 | cons e es ih=>
  simp only [bW]
  rw [h n (Nat.le_refl _),cond_false]
  exact ih (n+1) _ fun i hi=>h i (by omega)
theorem Pz {α:Type} (f:Nat→α) (k:Nat) (v u:α):aC (aC f k v) k u=aC f k u:=by
 funext i
 by_cases e:i=k
 · subst e; rw [aY,aY]
 · rw [br _ _ e,br _ _ e,br _ _ e]
theorem CN {R:Type} {di:Nat} {ops:Array Oper} {eE:Array Nat} {draw:Bool} {k:Env S.C→Option R} {r:R} :
 ∀ (l:List Oper) (n:Nat) (dA:List (Nat×Option (List Nat×List Nat))) (env:Env S.C),j6 S T au di ops draw eE k l n dA env=some r→
 draw=true→ ∃ es,u0 T au di ops l n env es∧k (es.foldl (fun env e=>e.put env) env)=some r∧(draw=true→oT ops eE (yB es n dA)=true∧Am ops=true)
 | [],n,dA,env,hr,pE=>by
  simp only [j6] at hr
  cases hc:(!draw||(oT ops eE dA&&Am ops)) with
  | false=>rw [hc] at hr; cases hr
  | true=>
   rw [hc] at hr
   refine ⟨[],rfl,hr,fun hd=> ?_⟩
   rw [hd] at hc
   simpa [yB] using hc
 | o::l,n,dA,env,hr,pE=>by
  simp only [j6] at hr
  cases hw:oK S ops o env.tm with
  | none=>rw [hw] at hr; cases hr
  | some b=>
   rw [hw] at hr
   cases b with
   | false=>
    obtain ⟨es,h1,h2,h3⟩:=CN l (n+1) _ _ hr pE
    exact ⟨⟨o.dst, .skip,[],none⟩::es,⟨_,_,rfl,⟨rfl, .inl ⟨hw,rfl,rfl,rfl⟩⟩,h1⟩,h2,h3⟩
   | true=>
    dsimp only at hr
    cases hdf:BC o.op with
    | true=>rw [hdf,pE] at hr; cases hr
    | false=>
    rw [hdf] at hr
    dsimp only at hr
    cases hn:zo S o.op env.tm with
    | some p=>rw [hn,pE] at hr; cases hr
    | none=>
    rw [hn] at hr
    obtain ⟨V,us,h1,h2,h3⟩:=O3 hr
    rcases Ia h3 with ⟨_,h4⟩ | ⟨t,x,_,ht,hk,h4⟩
    · obtain ⟨es,g1,g2,g3⟩:=CN l (n+1) _ _ h4 pE
      exact ⟨⟨o.dst,V,us,_⟩::es,⟨_,_,rfl,⟨rfl, .inr ⟨hw,rfl,h2,V,h1, .inl rfl⟩⟩,g1⟩,g2,g3⟩
    · have U6:sM V x:=by
       have e:(env.apply o.dst V us).tm t=V:=by
        rw [ht]
        exact aY _ _ _
       rw [e] at hk
       exact hk
      have he:({ env.apply o.dst V us with tm:=aC (env.apply o.dst V us).tm t (.d .bool x) } :Env S.C)=dS.put ⟨o.dst, .d .bool x,us,some (aN S T.vw (mm di n o.dst) o.op env.tm env.bx)⟩ env:=by
       simp only [dS.put,Env.apply,ht,xd]
       rw [Pz]
      rw [he] at h4
      obtain ⟨es,g1,g2,g3⟩:=CN l (n+1) _ _ h4 pE
      exact ⟨_::es,⟨_,_,rfl,⟨rfl, .inr ⟨hw,rfl,h2,V,h1, .inr ⟨t,x,ht,U6,rfl⟩⟩⟩,g1⟩,g2,g3⟩
theorem u0.at {di:Nat} {ops:Array Oper} : ∀ {l:List Oper} {n:Nat} {env:Env S.C} {es:List (dS S)},u0 T au di ops l n env es→es.length=l.length∧ ∀ j o,l[j]? =some o→
 ∃ e,es[j]? =some e∧Spec T au di ops (bW (fun i=>Nat.blt i (n+j)) es n env) (n+j) o e
 | [],n,env,es,h=>by cases h; exact ⟨rfl,fun j o hj=>by simp at hj⟩
 | o::l,n,env,es,⟨e,r,he,h1,h2⟩=>by
  subst he
  obtain ⟨h3,h4⟩:=u0.at h2
  refine ⟨by simp [h3],fun j o' hj=> ?_⟩
  cases j with
  | zero=>
   simp at hj
   subst hj
   refine ⟨e,rfl, ?_⟩
   rw [Kk _ _ _ fun i hi=> ?_]
   · exact h1
   · cases hb:Nat.blt i (n+0) with
     | false=>rfl
     | true=>have :=Nat.le_of_ble_eq_true hb; omega
  | succ j=>
   obtain ⟨e',h5,h6⟩:=h4 j o' (by simpa using hj)
   refine ⟨e',by simpa using h5, ?_⟩
   simp only [bW]
   rw [show Nat.blt n (n+(j+1))=true from Nat.ble_eq_true_of_le (by omega),cond_true,show n+(j+1)=n+1+j from by omega]
   exact h6
def DC (ops:Array Oper) (eE:Array Nat) (i j:Nat) (fi fj:Option (List Nat×List Nat)):Prop:=
 (eE.getD j 0).testBit i=true∨(Oper.apart ops (ops.getD i default) (ops.getD j default)=true∧ ∀ a b,fi=some a→fj=some b→meets a b=false)
theorem Ja {ops:Array Oper} {eE:Array Nat} : ∀ (es:List (dS S)) (n:Nat) (dA:List (Nat×Option (List Nat×List Nat))),oT ops eE (yB es n dA)=true→
 (∀ i j ei ej,i<j→es[i]? =some ei→es[j]? =some ej→DC ops eE (n+i) (n+j) ei.fp ej.fp)∧(∀ p ∈ dA, ∀ j ej,es[j]? =some ej→DC ops eE p.1 (n+j) p.2 ej.fp)∧oT ops eE dA=true
 | [],n,dA,h=>⟨fun i j ei ej _ h1=>by simp at h1,fun p _ j ej h1=>by simp at h1,h⟩
 | e::es,n,dA,h=>by
  obtain ⟨h1,h2,h3⟩:=Ja es (n+1) ((n,e.fp)::dA) h
  simp only [oT,Bool.and_eq_true] at h3
  have h4: ∀ p ∈ dA,DC ops eE p.1 n p.2 e.fp:=fun p hp=>by
   have :=List.all_eq_true.1 h3.2 p hp
   rw [Bool.or_eq_true,Bool.and_eq_true] at this
   refine this.imp id fun h=>⟨h.1,fun a b ha hb=> ?_⟩
   have h2:=h.2
   rw [ha,hb] at h2
   simpa using h2
  refine ⟨fun i j ei ej hij hi hj=> ?_,fun p hp j ej hj=> ?_,h3.1⟩
  · cases j with
    | zero=>omega
    | succ j=>
     rw [show n+(j+1)=n+1+j from by omega]
     cases i with
     | zero=>
      simp at hi
      subst hi
      exact h2 (n,e.fp) (by simp) j ej (by simpa using hj)
     | succ i=>
      rw [show n+(i+1)=n+1+i from by omega]
      exact h1 i j ei ej (by omega) (by simpa using hi) (by simpa using hj)
  · cases j with
    | zero=>
     simp at hj
     subst hj
     exact h4 p hp
    | succ j=>
     rw [show n+(j+1)=n+1+j from by omega]
     exact h2 p (by simp [hp]) j ej (by simpa using hj)
theorem vW {e:dS S} {env:Env S.C} {t:Nat} (h:e.dst≠some t):(e.put env).tm t=env.tm t:=by
 unfold dS.put Env.apply xd
 cases hd:e.dst with
 | none=>rfl
 | some d=>exact br _ _ fun he=>h (by rw [hd,he])
theorem vX {e:dS S} {env:Env S.C} {t:Nat} (h:e.dst=some t):(e.put env).tm t=e.W:=by
 unfold dS.put Env.apply xd
 rw [h]
 exact aY _ _ _
theorem zv {e:dS S} {env:Env S.C} {b:Nat} (h: ∀ u ∈ e.us,u.1≠b):(e.put env).bx b=env.bx b:=xB _ _ h
theorem Kl {D D':Nat→Bool} {t:Nat} : ∀ {es:List (dS S)} {n:Nat} {env env':Env S.C},env.tm t=env'.tm t→(∀ i e,es[i]? =some e→e.dst=some t→D (n+i)=D' (n+i))→(bW D es n env).tm t=(bW D' es n env').tm t
 | [],_,_,_,h,_=>h
 | e::es,n,env,env',h,hd=>by
  refine Kl (es:=es) (n:=n+1) ?_ fun i e' hi he=>by
   have :=hd (i+1) e' (by simpa using hi) he
   rw [show n+1+i=n+(i+1) from by omega]; exact this
  by_cases he:e.dst=some t
  · have :=hd 0 e rfl he
    rw [Nat.add_zero] at this
    rw [this]
    cases D' n with
    | true=>rw [cond_true,cond_true,vX he,vX he]
    | false=>exact h
  · cases D n <;> cases D' n <;> simp only [cond_true,cond_false,vW he] <;> exact h
theorem Kj {D D':Nat→Bool} {b:Nat} : ∀ {es:List (dS S)} {n:Nat} {env env':Env S.C},env.bx b=env'.bx b→(∀ i e,es[i]? =some e→(∃ u ∈ e.us,u.1=b)→D (n+i)=D' (n+i))→(bW D es n env).bx b=(bW D' es n env').bx b
 | [],_,_,_,h,_=>h
 | e::es,n,env,env',h,hd=>by
  refine Kj (es:=es) (n:=n+1) ?_ fun i e' hi he=>by
   have :=hd (i+1) e' (by simpa using hi) he
   rw [show n+1+i=n+(i+1) from by omega]; exact this
  by_cases he: ∃ u ∈ e.us,u.1=b
  · have :=hd 0 e rfl he
    rw [Nat.add_zero] at this
    rw [this]
    cases D' n with
    | true=>exact (sG e.us h.symm).symm
    | false=>exact h
  · have he: ∀ u ∈ e.us,u.1≠b:=fun u hu e'=>he ⟨u,hu,e'⟩
    cases D n <;> cases D' n <;> simp only [cond_true,cond_false,zv he] <;> exact h
theorem Env.ext' {e e':Env S.C} (h1: ∀ t,e.tm t=e'.tm t) (h2: ∀ b,e.bx b=e'.bx b) (h3:e.df=e'.df):e=e':=by
 cases e; cases e'
 congr
 · funext t; exact h1 t
 · funext b; exact h2 b
theorem Tt {D:Nat→Bool} {es:List (dS S)} {j:Nat} {ej:dS S} {env:Env S.C} (hj:es[j]? =some ej) (hD:D j=false)
 (yO: ∀ i e,j<i→es[i]? =some e→D i=true→(∀ t,ej.dst=some t→e.dst≠some t)∧ ∀ u ∈ ej.us, ∀ u' ∈ e.us,u'.1≠u.1):
 bW (aC D j true) es 0 env=ej.put (bW D es 0 env):=by
 have U9: ∀ (es:List (dS S)) (n:Nat) (env:Env S.C),(∀ i e,es[i]? =some e→D (n+i)=true→(∀ t,ej.dst=some t→e.dst≠some t)∧ ∀ u ∈ ej.us, ∀ u' ∈ e.us,u'.1≠u.1)→bW D es n (ej.put env)=ej.put (bW D es n env):=by
  intro es
  induction es with
  | nil=>intro n env _; rfl
  | cons e es ih=>
   intro n env h
   simp only [bW]
   rw [← ih (n+1) _ fun i e' hi hd=>by
    have :=h (i+1) e' (by simpa using hi)
    rw [show n+(i+1)=n+1+i from by omega] at this
    exact this hd]
   congr 1
   cases hn:D n with
   | false=>rfl
   | true=>
    simp only [cond_true]
    obtain ⟨c1,c2⟩:=h 0 e rfl (by rw [Nat.add_zero]; exact hn)
    refine Env.ext' (fun t=> ?_) (fun b=> ?_) rfl
    · by_cases h1:ej.dst=some t
      · rw [vW (c1 t h1),vX h1,vX h1]
      · rw [vW h1]
        by_cases h2:e.dst=some t
        · rw [vX h2,vX h2]
        · rw [vW h2,vW h2,vW h1]
    · by_cases h1: ∃ u ∈ ej.us,u.1=b
      · obtain ⟨u,hu,rfl⟩:=h1
        have h2: ∀ u' ∈ e.us,u'.1≠u.1:=c2 u hu
        rw [zv h2]
        exact sG ej.us (zv h2).symm
      · have h1: ∀ u ∈ ej.us,u.1≠b:=fun u hu e'=>h1 ⟨u,hu,e'⟩
        rw [zv h1]
        exact sG e.us (zv h1)
 have key: ∀ (es:List (dS S)) (n:Nat) (env:Env S.C),n≤j→es[j - n]? =some ej→(∀ i e,j<n+i→es[i]? =some e→D (n+i)=true→(∀ t,ej.dst=some t→e.dst≠some t)∧ ∀ u ∈ ej.us, ∀ u' ∈ e.us,u'.1≠u.1)→
  bW (aC D j true) es n env=ej.put (bW D es n env):=by
  intro es
  induction es with
  | nil=>intro n env _ h; simp at h
  | cons e es ih=>
   intro n env hn h hl
   simp only [bW]
   by_cases e':n=j
   · subst e'
     rw [Nat.sub_self] at h
     simp at h
     subst h
     rw [aY,hD,cond_true,cond_false]
     rw [← U9 es (n+1) env fun i e hi hd=>hl (i+1) e (by omega) (by simpa using hi) (by rw [show n+(i+1)=n+1+i from by omega]; exact hd)]
     have : ∀ (es:List (dS S)) (m:Nat) (env:Env S.C),n<m→bW (aC D n true) es m env=bW D es m env:=by
      intro es
      induction es with
      | nil=>intro m env _; rfl
      | cons e es ih=>
       intro m env hm
       simp only [bW]
       rw [br _ _ (by omega)]
       exact ih (m+1) _ (by omega)
     exact this es (n+1) _ (by omega)
   · rw [br _ _ e']
     refine ih (n+1) _ (by omega) ?_ fun i e hi he hd=>hl (i+1) e (by omega) (by simpa using he) (by rw [show n+(i+1)=n+1+i from by omega]; exact hd)
     rw [show j - n=(j - (n+1))+1 from by omega] at h
     simpa using h
 exact key es 0 env (Nat.zero_le _) (by simpa using hj) fun i e hi he hd=>yO i e (by omega) he (by simpa using hd)
end
end Go.Sy
namespace Go.Sy
section
variable {P:Program} {S:bg} {au:Nat→Nat} {T:iA S}
variable {w0:World} {M0 s0:St} {dq:List Deferred}
theorem zc {a b:List Nat} (h:zb a b=false) {x:Nat} (h1:x ∈ a) (h2:x ∈ b):False:=by
 have :zb a b=true:=List.any_eq_true.2 ⟨x,h1,List.contains_iff_mem.2 h2⟩
 rw [h] at this; cases this
theorem Ml {B:Nat} {fp:List Nat} {bx:Bx S.C} {us:aR S.C} (h:nY S bx B fp us=true): ∀ u ∈ us,u.1 ∈ fp:=fun u hu=>by
 have :=List.all_eq_true.1 h u hu
 rw [Bool.and_eq_true] at this
 exact List.contains_iff_mem.1 this.1
theorem Ws {B:Nat} {fp:List Nat} {bx aq:Bx S.C} {us:aR S.C} (h:nY S bx B fp us=true) (hb: ∀ i ∈ fp,aq i=bx i):nY S aq B fp us=true:=by
 refine List.all_eq_true.2 fun u hu=> ?_
 have h1:=List.all_eq_true.1 h u hu
 rw [hb u.1 (Ml h u hu)]
 exact h1
theorem Z3 {bx aq:Bx S.C} {ids:List Nat} (hb: ∀ i ∈ ids,aq i=bx i):restrict S aq ids=restrict S bx ids:=by
 funext i
 unfold restrict
 cases e:ids.contains i with
 | true=>exact hb i (List.contains_iff_mem.1 e)
 | false=>rfl
theorem Z0 (hP:bf P S au) (hT: ∀ e ∈ T.es,qF P S w0 M0 e) (hF: ∀ e ∈ T.fs,eZ P S e) {R:Type} {di:Nat} {ops:Array Oper} {k:Env S.C→Option R} {r:R} {Z:Act→Prop} {Q:Exit→Act→World→Prop}
 (hZ:Av ops Z) (hQ: ∀ env' a' w' μ',k env'=some r→Inv P S w0 M0 s0 dq env' a' w' μ'→Z a'→Q .normal a' w')
 {dW:Env S.C} {es:List (dS S)} (Vu:u0 T au di ops ops.toList 0 dW es) (hk:k (es.foldl (fun env e=>e.put env) dW)=some r) (hap:oT ops (Region.before ops) (yB es 0 [])=true) (FZ:Am ops=true):
 ∀ (fuel:Nat) (listed:Array Bool) (a:Act) (w:World) (μ:Nat→Loc),listed.size=ops.size→xE ops (fun i=>listed.getD i false)→Inv P S w0 M0 s0 dq (bW (fun i=>listed.getD i false) es 0 dW) a w μ→Z a→
  cnt (fun i=>listed.getD i false) ops.size≤fuel→wpAny P .any ops Q fuel listed a w:=by
 obtain ⟨hlen,cZ⟩:=Vu.at
 have hlen:es.length=ops.size:=by rw [hlen]; simp
 have LS:=(Ja es 0 [] hap).1
 have jw: ∀ (j:Nat) (o:Oper),ops[j]? =some o→ops.getD j default=o:=fun j o h=>by
  rw [Array.getD_eq_getD_getElem?,h]; rfl
 have hspec: ∀ (j:Nat) (o:Oper),ops[j]? =some o→ ∃ e,es[j]? =some e∧Spec T au di ops (bW (fun i=>Nat.blt i j) es 0 dW) j o e:=fun j o h=>by
  have :=cZ j o (by simpa using h)
  simpa using this
 have pF: ∀ (j:Nat) (e:dS S),es[j]? =some e→ ∃ o,ops[j]? =some o∧e.dst=o.dst∧ ∀ u ∈ e.us, ∃ f,e.fp=some f∧u.1 ∈ f.2:=fun j e h=>by
  have hj:j<ops.size:=by rw [← hlen]; exact (List.getElem?_eq_some_iff.1 h).1
  obtain ⟨e',h1,h2,h3⟩:=hspec j ops[j] (by simp [hj])
  rw [h] at h1
  cases h1
  refine ⟨ops[j],by simp [hj],h2,fun u hu=> ?_⟩
  rcases h3 with ⟨_,_,h3,_⟩ | ⟨_,h3,h4,_⟩
  · rw [h3] at hu; simp at hu
  · exact ⟨_,h3,Ml h4 u hu⟩
 have FZ: ∀ (j:Nat) (o:Oper),ops[j]? =some o→ ∀ e ∈ o.after.toList,Region.binds .any e=true→e.on<j:=fun j o h e he hb=>by
  have h1:=List.all_eq_true.1 FZ (o,j) (List.mem_zipIdx_iff_getElem?.2 (by simpa using h))
  have h2:=List.all_eq_true.1 h1 e he
  rw [hb] at h2
  exact Nat.le_of_ble_eq_true h2
 have UA: ∀ (listed:Array Bool),listed.size=ops.size→Region.ready .any ops listed= []→ ∀ i,i<ops.size→listed.getD i false=true:=by
  intro listed hsz hr i
  induction i using Nat.strongRecOn with
  | _ i ih=>
   intro hi
   cases hd:listed.getD i false with
   | true=>rfl
   | false=>
    exfalso
    have :i ∈ Region.ready .any ops listed:=by
     unfold Region.ready
     refine List.mem_filter.2 ⟨List.mem_range.2 hi, ?_⟩
     have h1:listed.getD i true=false:=by
      rw [Array.getD_eq_getD_getElem?] at hd ⊢
      have hi':i<listed.size:=by omega
      simp [hi'] at hd ⊢
      exact hd
     rw [h1]
     simp only [Bool.not_false,Bool.true_and]
     rw [show ops[i]? =some ops[i] from by simp [hi]]
     simp only [Option.map_some,Option.getD_some]
     rw [← Array.all_toList]
     refine List.all_eq_true.2 fun e he=> ?_
     cases hb:Region.binds .any e with
     | false=>rfl
     | true=>
      have hlt:=FZ i ops[i] (by simp [hi]) e he hb
      rw [ih e.on hlt (by omega)]
      rfl
    rw [hr] at this
    simp at this
 have Lq: ∀ (listed:Array Bool) (a:Act) (w:World) (μ:Nat→Loc),Inv P S w0 M0 s0 dq (bW (fun i=>listed.getD i false) es 0 dW) a w μ→Z a→(∀ i,i<ops.size→listed.getD i false=true)→Q .normal a w:=by
  intro listed a w μ hI hN hall
  rw [Tq es 0 dW fun i _ h2=>hall i (by omega)] at hI
  exact hQ _ a w μ hk hI hN
 intro fuel
 induction fuel with
 | zero=>
  intro listed a w μ hsz hcl hI hN hc
  have hall:=JT (Nat.le_zero.1 hc)
  refine ⟨?_,Lq listed a w μ hI hN hall⟩
  cases hr:Region.ready .any ops listed with
  | nil=>rfl
  | cons i r=>
   have hm:i ∈ Region.ready .any ops listed:=by rw [hr]; simp
   unfold Region.ready at hm
   obtain ⟨h1,h2⟩:=List.mem_filter.1 hm
   have hi:=List.mem_range.1 h1
   have :=hall i hi
   rw [Bool.and_eq_true] at h2
   rw [Array.getD_eq_getD_getElem?] at this h2
   have hi':i<listed.size:=by omega
   simp [hi'] at this h2
   rw [this] at h2
   simp at h2
 | succ fuel ih=>
  intro listed a w μ hsz hcl hI hN hc
  refine ⟨fun hr=>Lq listed a w μ hI hN (UA listed hsz hr),fun i hi=> ?_⟩
  unfold Region.ready at hi
  obtain ⟨h1,h2⟩:=List.mem_filter.1 hi
  have hi:=List.mem_range.1 h1
  have hi':i<listed.size:=by omega
  rw [Bool.and_eq_true] at h2
  obtain ⟨h2,h3⟩:=h2
  have hD:listed.getD i false=false:=by
   rw [Array.getD_eq_getD_getElem?] at h2 ⊢
   simp [hi'] at h2 ⊢
   exact h2
  have ho:ops[i]? =some ops[i]:=by simp [hi]
  generalize ops[i]=o at ho
  rw [ho] at h3
  simp only [Option.map_some,Option.getD_some] at h3
  rw [← Array.all_toList] at h3
  have Ld: ∀ e ∈ o.after.toList,Region.binds .any e=true→listed.getD e.on false=true:=fun e he hb=>by
   have :=List.all_eq_true.1 h3 e he
   rw [hb] at this
   exact this
  have hlt: ∀ j,listed.getD j false=true→j<ops.size:=fun j hj=>by
   rcases Nat.lt_or_ge j ops.size with h | h
   · exact h
   · rw [Array.getD_eq_getD_getElem?,Array.getElem?_eq_none (by omega)] at hj; cases hj
  have hmem:o ∈ ops.toList:=by
   have :=Array.mem_of_getElem? ho
   simpa using this
  obtain ⟨ei,Bt,Bs,hsi⟩:=hspec i o ho
  have Lu: ∀ q eq,q<i→es[q]? =some eq→((∃ t,eq.dst=some t∧t ∈ o.looksAt ops)∨ ∃ f fi,ei.fp=some fi∧eq.fp=some f∧ ∃ b,b ∈ f.2∧(b ∈ fi.1∨b ∈ fi.2))→listed.getD q false=true:=by
   intro q eq hq heq hh
   obtain ⟨oq,g1,g2,_⟩:=pF q eq heq
   have hp:=LS q i eq ei hq heq Bt
   rw [Nat.zero_add,Nat.zero_add] at hp
   rcases hp with hp | ⟨yU,yV⟩
   · exact YB hcl hlt ho Ld hp
   · exfalso
     rw [jw q oq g1,jw i o ho] at yU
     rcases hh with ⟨t,t1,t2⟩ | ⟨f,fi,f1,f2,b,b1,b2⟩
     · exact (Oper.apart_spec yU).1 t (g2▸t1) t2
     · have hm:=yV f fi f2 f1
       unfold meets at hm
       simp only [Bool.or_eq_false_iff] at hm
       rcases b2 with b2 | b2
       · exact zc hm.1.1 b1 b2
       · exact zc hm.1.2 b1 b2
  have yO: ∀ q eq,i<q→es[q]? =some eq→listed.getD q false=true→Oper.apart ops o (ops.getD q default)=true∧ops.getD q default ∈ ops.toList∧eq.dst=(ops.getD q default).dst∧ ∀ f fi,ei.fp=some fi→eq.fp=some f→meets fi f=false:=by
   intro q eq hq heq hl
   obtain ⟨oq,g1,g2,_⟩:=pF q eq heq
   have hp:=LS i q ei eq hq Bt heq
   rw [Nat.zero_add,Nat.zero_add] at hp
   rcases hp with hp | ⟨yU,yV⟩
   · have :=hcl.before hlt q i hl hp
     rw [hD] at this
     cases this
   · rw [jw i o ho] at yU
     refine ⟨yU, ?_,by rw [jw q oq g1]; exact g2,fun f fi h1 h2=>yV fi f h1 h2⟩
     rw [jw q oq g1]
     have :=Array.mem_of_getElem? g1
     simpa using this
  have rq: ∀ t,t ∈ o.looksAt ops→(bW (fun i=>listed.getD i false) es 0 dW).tm t=(bW (fun q=>Nat.blt q i) es 0 dW).tm t:=by
   intro t ht
   refine Kl rfl fun q eq heq hd=> ?_
   rw [Nat.zero_add]
   rcases Nat.lt_trichotomy q i with h | h | h
   · rw [Lu q eq h heq (.inl ⟨t,hd,ht⟩)]
     exact (Nat.ble_eq_true_of_le h).symm
   · subst h
     rw [hD]
     cases hb:Nat.blt q q with
     | false=>rfl
     | true=>exact absurd (Nat.le_of_ble_eq_true hb) (by omega)
   · have hf:Nat.blt q i=false:=by
      cases hb:Nat.blt q i with
      | false=>rfl
      | true=>exact absurd (Nat.le_of_ble_eq_true hb) (by omega)
     rw [hf]
     cases hl:listed.getD q false with
     | false=>rfl
     | true=>
      obtain ⟨a1,_,a2,_⟩:=yO q eq h heq hl
      exact absurd ht ((Oper.apart_spec a1).2.2 t (a2▸hd))
  have mM: ∀ fi,ei.fp=some fi→ ∀ b,(b ∈ fi.1∨b ∈ fi.2)→(bW (fun i=>listed.getD i false) es 0 dW).bx b=(bW (fun q=>Nat.blt q i) es 0 dW).bx b:=by
   intro fi Lw b hb
   refine Kj rfl fun q eq heq hd=> ?_
   rw [Nat.zero_add]
   obtain ⟨u,hu,rfl⟩:=hd
   obtain ⟨_,_,_,FF⟩:=pF q eq heq
   obtain ⟨f,Bu,yJ⟩:=FF u hu
   rcases Nat.lt_trichotomy q i with h | h | h
   · rw [Lu q eq h heq (.inr ⟨f,fi,Lw,Bu,u.1,yJ,hb⟩)]
     exact (Nat.ble_eq_true_of_le h).symm
   · subst h
     rw [hD]
     cases hb:Nat.blt q q with
     | false=>rfl
     | true=>exact absurd (Nat.le_of_ble_eq_true hb) (by omega)
   · have hf:Nat.blt q i=false:=by
      cases hb:Nat.blt q i with
      | false=>rfl
      | true=>exact absurd (Nat.le_of_ble_eq_true hb) (by omega)
     rw [hf]
     cases hl:listed.getD q false with
     | false=>rfl
     | true=>
      exfalso
      obtain ⟨_,_,_,a3⟩:=yO q eq h heq hl
      have hm:=a3 f fi Lw Bu
      unfold meets at hm
      simp only [Bool.or_eq_false_iff] at hm
      rcases hb with hb | hb
      · exact zc hm.2 yJ hb
      · exact zc hm.1.2 hb yJ
  have hev: ∀ x ∈ o.op.operands.toList,aX S (bW (fun i=>listed.getD i false) es 0 dW).tm x=aX S (bW (fun q=>Nat.blt q i) es 0 dW).tm x:=by
   intro x hx
   cases x with
   | tmp t=>exact congrArg some (rq t (List.mem_append.2 (.inl (List.mem_filterMap.2 ⟨.tmp t,hx,rfl⟩))))
   | _=>rfl
  have L0:oK S ops o (bW (fun i=>listed.getD i false) es 0 dW).tm=oK S ops o (bW (fun q=>Nat.blt q i) es 0 dW).tm:=by
   unfold oK
   split
   · rfl
   · rename_i j want hg
     split
     · rfl
     · rename_i t ht
       rw [rq t (List.mem_append.2 (.inr (by rw [hg]; simp [ht])))]
  have Fg:(fun q=>(listed.setIfInBounds i true).getD q false)=aC (fun q=>listed.getD q false) i true:=by
   funext q
   by_cases e:q=i
   · subst e
     rw [aY]
     simp [Array.getD_eq_getD_getElem?,hi']
   · rw [br _ _ e]
     simp [Array.getD_eq_getD_getElem?,Array.getElem?_setIfInBounds_ne (Ne.symm e)]
  have Bw:bW (fun q=>(listed.setIfInBounds i true).getD q false) es 0 dW=ei.put (bW (fun i=>listed.getD i false) es 0 dW):=by
   rw [Fg]
   refine Tt Bt hD fun q eq hq heq hl=> ?_
   obtain ⟨a1,_,a2,a3⟩:=yO q eq hq heq hl
   refine ⟨fun t ht=> ?_,fun u hu u' aW e=> ?_⟩
   · rw [a2]
     exact (Oper.apart_spec a1).2.1 t (Bs▸ht)
   · obtain ⟨_,_,_,FF⟩:=pF q eq heq
     obtain ⟨_,_,_,UY⟩:=pF i ei Bt
     obtain ⟨f,Bu,yJ⟩:=FF u' aW
     obtain ⟨fi,hi1,hi2⟩:=UY u hu
     have hm:=a3 f fi hi1 Bu
     unfold meets at hm
     simp only [Bool.or_eq_false_iff] at hm
     exact zc hm.1.2 hi2 (e▸yJ)
  have Lm:xE ops (fun q=>(listed.setIfInBounds i true).getD q false):=by
   rw [Fg]
   intro j oj hj FN e he hb
   by_cases e1:e.on=i
   · rw [e1,aY]
   · rw [br _ _ e1]
     by_cases e2:j=i
     · subst e2
       rw [ho] at FN
       cases FN
       exact Ld e he hb
     · rw [br _ _ e2] at hj
       exact hcl j oj hj FN e he hb
  have iF:cnt (fun q=>(listed.setIfInBounds i true).getD q false) ops.size≤fuel:=by
   rw [Fg]
   have :=JS (D:=fun q=>listed.getD q false) hD (n:=ops.size) hi
   omega
  have hd: ∀ d,o.dst=some d→d<a.tmps.size:=hZ.dst a hN o hmem
  unfold wpOp
  rw [ho]
  dsimp only
  rcases hsi with ⟨s1,s2,s3,s4⟩ | ⟨s1,s2,s3,V,s4,s5⟩
  · rw [Iq hI (L0.trans s1),if_neg (by simp)]
    refine ih _ _ w μ (by simp [hsz]) Lm ?_ (hZ.put a hN o hmem undef a.defers) iF
    rw [Bw]
    have :ei.put (bW (fun i=>listed.getD i false) es 0 dW)=(bW (fun i=>listed.getD i false) es 0 dW).apply o.dst .skip []:=by
     unfold dS.put
     rw [s2,s3,Bs]
    rw [this]
    exact hI.skip hd
  · rw [Iq hI (L0.trans s1),if_pos rfl]
    left
    have hft:=T4 (B:=mm di i o.dst) hev fun b hb=>mM _ s2 b (.inl hb)
    have hlf:(c7 S T au (mm di i o.dst) o.op o.type (bW (fun i=>listed.getD i false) es 0 dW).tm (restrict S (bW (fun i=>listed.getD i false) es 0 dW).bx (aN S T.vw (mm di i o.dst) o.op (bW (fun i=>listed.getD i false) es 0 dW).tm (bW (fun i=>listed.getD i false) es 0 dW).bx).1)).leaf (V,ei.us):=by
     rw [hft,Z3 fun b hb=>mM _ s2 b (.inl hb),Xh hev]
     exact s4
    refine ML hP hT hF hI hd hlf (by rw [hft]; exact Ws s3 fun b hb=>mM _ s2 b (.inr hb)) fun a' w' μ' Bm ⟨v,d,hs⟩=> ?_
    refine ih _ a' w' μ' (by simp [hsz]) Lm ?_ (hs▸hZ.put a hN o hmem v d) iF
    rw [Bw]
    rcases s5 with s5 | ⟨t,x,t1,t2,t3⟩
    · have :ei.put (bW (fun i=>listed.getD i false) es 0 dW)=(bW (fun i=>listed.getD i false) es 0 dW).apply o.dst V ei.us:=by
       unfold dS.put
       rw [s5,Bs]
      rw [this]
      exact Bm
    · have hkn:sM (((bW (fun i=>listed.getD i false) es 0 dW).apply o.dst V ei.us).tm t) x:=by
       have e:((bW (fun i=>listed.getD i false) es 0 dW).apply o.dst V ei.us).tm t=V:=by
        rw [t1]; exact aY _ _ _
       rw [e]; exact t2
      have h4:=Bm.HC hkn
      have he:({ (bW (fun i=>listed.getD i false) es 0 dW).apply o.dst V ei.us with tm:=aC ((bW (fun i=>listed.getD i false) es 0 dW).apply o.dst V ei.us).tm t (.d .bool x) } :Env S.C)=ei.put (bW (fun i=>listed.getD i false) es 0 dW):=by
       unfold dS.put
       rw [Bs,t1,t3]
       simp only [Env.apply,xd]
       rw [Pz]
      rw [← he]
      exact h4
end
end Go.Sy
