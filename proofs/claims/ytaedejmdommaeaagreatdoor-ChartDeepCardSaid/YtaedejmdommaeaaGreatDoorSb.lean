import Derived.Laws.MakeOwn
import Derived.Great.BuildSlice
import Derived.Deep.Upon
import Derived.Laws.StructEq
import Derived.Stop.IfaceNil
import Derived.Laws.Entries
import Derived.Orders
import Derived.Test.YtaedejmdommaeaaGreatDoorSa
set_option linter.unusedVariables false
set_option linter.unusedSimpArgs false
namespace Go.Sy
theorem rj {w:World} {b o b' o':Nat} {cs vals:List Value} (h:w.rangeAt b' o' cs) (hd:b'≠b∨o'+cs.length≤o∨o+vals.length≤o'):(w.setCells b o vals).rangeAt b' o' cs:=fun j v hj=>by
 have hjl:=(List.getElem?_eq_some_iff.1 hj).1
 rw [World.cell?_setCells_out b vals o w ⟨b',o'+j,none⟩ fun hb _=>by
  have hb:b'=b:=hb
  show o'+j<o∨o+vals.length≤o'+j
  rcases hd with hd | hd | hd
  · exact absurd hb hd
  · omega
  · omega]
 exact h j v hj
theorem GH {w:World} {b o:Nat} {cs vals:List Value} (h:w.rangeAt b o cs) (k:Nat) (hk:k+vals.length≤cs.length):(w.setCells b (o+k) vals).rangeAt b o (cs.take k++vals++cs.drop (k+vals.length)):=fun j v hj=>by
 have hin:=World.cell?_setCells_in b vals (o+k) w (fun i hi=>by
  have :(cs[k+i]?).isSome=true:=by rw [List.getElem?_eq_getElem (by omega)]; rfl
  obtain ⟨u,hu⟩:=Option.isSome_iff_exists.1 this
  rw [Nat.add_assoc,h _ _ hu]; rfl)
 by_cases h1:j<k
 · rw [List.append_assoc,List.getElem?_append_left (by simp; omega),List.getElem?_take,if_pos h1] at hj
   rw [World.cell?_setCells_out b vals (o+k) w ⟨b,o+j,none⟩ fun _ _=> .inl (by show o+j<o+k; omega)]
   exact h j v hj
 · by_cases h2:j<k+vals.length
   · rw [List.append_assoc,List.getElem?_append_right (by simp; omega),List.getElem?_append_left (by simp; omega)] at hj
     have hlen:(List.take k cs).length=k:=by simp; omega
     rw [hlen] at hj
     have :=hin (j - k) (by omega)
     rw [show o+k+(j - k)=o+j from by omega] at this
     rw [this, ← hj,List.getElem?_eq_getElem]
   · rw [List.append_assoc,List.getElem?_append_right (by simp; omega),List.getElem?_append_right (by simp; omega),List.getElem?_drop] at hj
     have hlen:(List.take k cs).length=k:=by simp; omega
     rw [hlen] at hj
     rw [World.cell?_setCells_out b vals (o+k) w ⟨b,o+j,none⟩ fun _ _=> .inr (by show o+k+vals.length≤o+j; omega)]
     rw [show k+vals.length+(j - k - vals.length)=j from by omega] at hj
     exact h j v hj
theorem xJ {w:World} {b o:Nat} {vals:List Value} (ht:w.there b o vals.length):(w.setCells b o vals).rangeAt b o vals:=fun j v hj=>by
 have hjl:=(List.getElem?_eq_some_iff.1 hj).1
 rw [World.cell?_setCells_in b vals o w (fun i hi=>(ht i hi).1) j hjl, ← hj,List.getElem?_eq_getElem]
theorem rU {w:World} {b o n b' o':Nat} {vals:List Value} (h:w.there b o n) (hs:w.there b' o' vals.length):(w.setCells b' o' vals).there b o n:=fun j hj=>by
 have hc:=aX.setCells w b' o' vals hs
 have hlt:b<w.heap.size:=by
  obtain ⟨v,hv⟩:=Option.isSome_iff_exists.1 (h j hj).1
  exact World.block_lt_of_cell? w _ hv
 exact ⟨hc.some _ _ hlt (h j hj).1,(World.frozen?_setCells ..).trans (h j hj).2⟩
section
variable {P:Program} {S:aP} {ai:Nat→Nat}
variable {w0:World} {M0 s0:St} {dq:List Deferred} {env:Env S.C} {a:Act} {w:World} {μ:Nat→Loc} {K:Act→World→Prop} {Q:Exit→Act→World→Prop} {o:Oper} {V:V S.C} {us:aH S.C}
theorem OM {s:St} {bx:Bx S.C} {i:Nat} {L:Loc} {B:cZ S.C} (hb:bx i=some B) (hl:live S bx i) (hB: ∀ l,B≠ .buf l) (h:RB P S w s μ bx L B):w.there L.b L.o L.n:=by
 unfold live at hl
 rw [hb] at hl
 cases B with
 | cells vs=>exact h.2.2.1
 | arr e l=>exact h.2.2.2.1
 | tail=>exact h
 | bG vs=>exact hl.elim
 | bw e l=>exact hl.elim
 | dead=>exact hl.elim
 | aV j=>
  obtain ⟨h1,h2,_,v,⟨T,e,p,_,h3,_⟩,_⟩:=h
  intro k hk
  rw [h1,h2] at *
  rw [Lib.cell_of_heap h3,Lib.frozen_of_heap h3]
  refine ⟨by simp; omega,rfl⟩
 | buf l=>exact absurd rfl (hB l)
theorem Inv.write (h:Inv P S w0 M0 s0 dq env a w μ) {i:Nat} {B0 B':cZ S.C} (hi:env.bx i=some B0) (hl0:live S env.bx i) (Ml: ∀ l,B0≠ .buf l) {o':Nat} {vals:List Value}
 (h1:(μ i).o≤o') (h2:o'+vals.length≤(μ i).o+(μ i).n) (hc:cc S (μ i) (μ i) B0 B')
 (hb:bI w (aE S w0 M0 s0 env.bx μ w) (w.setCells (μ i).b o' vals) (aE S w0 M0 s0 (aq env.bx i (some B')) μ (w.setCells (μ i).b o' vals))→
  (∀ V v,bq P S w (aE S w0 M0 s0 env.bx μ w) μ env.bx V v→(∀ j ∈ ax S V,env.bx j≠none)→
   bq P S (w.setCells (μ i).b o' vals) (aE S w0 M0 s0 (aq env.bx i (some B')) μ (w.setCells (μ i).b o' vals)) μ (aq env.bx i (some B')) V v)→
  RB P S (w.setCells (μ i).b o' vals) (aE S w0 M0 s0 (aq env.bx i (some B')) μ (w.setCells (μ i).b o' vals)) μ (aq env.bx i (some B')) (μ i) B')
 (hr: ∀ vs,(B'= .cells vs∨B'= .bG vs)→ ∀ v ∈ vs, ∀ j ∈ ax S v,env.bx j≠none):
 Inv P S w0 M0 s0 dq { env with bx:=aq env.bx i (some B') } a (w.setCells (μ i).b o' vals) μ:=by
 have tZ:=k8 (OM hi hl0 Ml (h.bL i B0 hi)) h1 h2
 have hU: ∀ j, ¬ j=i→aq env.bx i (some B') j=env.bx j∧μ j=μ j:=fun j hj=>⟨aZ _ _ hj,rfl⟩
 have hT: ∀ b o,(b=(μ i).b∧o'≤o∧o<o'+vals.length)→b<w.heap.size→ ∃ j,j=i∧live S env.bx j∧(μ j).aD b o:=fun b o tL _=>
  ⟨i,rfl,hl0,tL.1,by omega,by omega⟩
 have hf: ∀ j,j=i→live S (aq env.bx i (some B')) j→ ∀ b o,(μ j).aD b o→w.heap.size≤b∨ ∃ k,k=i∧live S env.bx k∧(μ k).aD b o:=by
  rintro j rfl _ b o hfo
  exact .inr ⟨j,rfl,hl0,hfo⟩
 have o6: ∀ j B0,env.bx j=some B0→ ∃ B1,aq env.bx i (some B') j=some B1∧cc S (μ j) (μ j) B0 B1:=by
  intro j B1 hj
  by_cases e:j=i
  · subst e
    rw [hi] at hj
    cases hj
    exact ⟨B',aO _ _ _,hc⟩
  · exact ⟨B1,by rw [aZ _ _ e]; exact hj,cc.refl S _ _⟩
 have hw:=aX.setCells w (μ i).b o' vals tZ
 have hl:=h.later (U:=fun j=>j=i) hw hT hU hf
 refine h.step (U:=fun j=>j=i) hw hT hU hf o6 ?_ ?_ ?_
 · rintro j k rfl rfl hne; exact absurd rfl hne
 · rintro j B1 rfl iQ
   rw [aO] at iQ
   cases iQ
   exact hb hl fun V v hv hr=>bq.step P S hl o6 hr hv
 · rintro j vs rfl hvs v hv k hk
   rw [aO] at hvs
   have h0:=hr vs (by rcases hvs with hvs | hvs <;> · cases hvs; simp) v hv k hk
   obtain ⟨B1,iQ⟩:=Option.ne_none_iff_exists'.1 h0
   obtain ⟨B2,Mk,_⟩:=o6 k B1 iQ
   rw [Mk]; simp
theorem run_store (hP:aU P S ai) {t:Nat} {T:Ty} (ht:S.ty t=some T) {b o':Nat} {v:Value} (hs:v.cells.size=Ty.sz S T) (b7:w.there b o' v.cells.toList.length) (h1: ∀ c ∈ v.cells.toList,c.oneCell'=true):
 (Instr.storeAt t (.pointer (some ⟨b,o',none⟩)) v).run P w= .ok () (w.setCells b o' v.cells.toList):=by
 obtain ⟨⟨i,z,hi,hsz,_⟩,_⟩:=hP.ty t T ht
 have h2:=run_storeAt_mid (P:=P) w b o' t v.cells (by simpa using b7) (by rw [hi]; simp [hsz,hs]) (Array.all_eq_true_iff_forall_mem.2 fun c hc=>h1 c (by simpa using hc))
 exact h2
theorem Iu (h:Inv P S w0 M0 s0 dq env a w μ) (hd: ∀ d,o.dst=some d→d<a.tmps.size) {w':World} {us:aH S.C}
 (hrun:(execOp a.eval o).run P w= .ok .skip w') (hI:Inv P S w0 M0 s0 dq { env with bx:=av env.bx us } a w' μ)
 (hK:Goal P S w0 M0 s0 dq env a o.dst .skip us K):o.wp P a w K Q:=by
 unfold Oper.wp
 rw [hrun]
 refine hK _ w' μ (hI.put hd (V:= .skip) (v:=undef) rfl (by simp [az,ax])) ?_
 cases o.dst <;> simp [Act.put]
theorem Hs {vs ws:List (Sy.V S.C)} {off:Nat} {p:Sy.V S.C→Bool} (h1:vs.all p=true) (h2:ws.all p=true):(setCells S vs off ws).all p=true:=by
 unfold Sy.setCells
 rw [List.all_eq_true] at *
 intro x hx
 simp only [List.mem_append] at hx
 rcases hx with (hx | hx) | hx
 · exact h1 x (List.mem_of_mem_take hx)
 · exact h2 x hx
 · exact h1 x (List.mem_of_mem_drop hx)
theorem Hu {vs ws:List (Sy.V S.C)} {off:Nat} {x:Sy.V S.C} (hx:x ∈ setCells S vs off ws):x ∈ vs∨x ∈ ws:=by
 unfold Sy.setCells at hx
 simp only [List.mem_append] at hx
 rcases hx with (hx | hx) | hx
 · exact .inl (List.mem_of_mem_take hx)
 · exact .inr hx
 · exact .inl (List.mem_of_mem_drop hx)
theorem Ht {vs ws:List (Sy.V S.C)} {off:Nat} (h:off+ws.length≤vs.length):(setCells S vs off ws).length=vs.length:=by
 unfold Sy.setCells; simp; omega
theorem Cl {s:St} {bx:Bx S.C} {vs ws:List (Sy.V S.C)} {cs ds:List Value} {off:Nat} (h1:aF P S w s μ bx vs cs) (h2:aF P S w s μ bx ws ds):
 aF P S w s μ bx (setCells S vs off ws) (cs.take off++ds++cs.drop (off+ds.length)):=by
 unfold Sy.setCells
 rw [aF.length P S h2]
 exact aF.append P S (aF.append P S (h1.take P S off) h2) (h1.drop P S _)
theorem tg {bx ag:Bx S.C} {t:Ty} {V:Sy.V S.C} (h: ∀ i ∈ az S V,ag i=bx i):datum S ag t V=datum S bx t V∧cJ S ag V=cJ S bx V:=by
 have qh: ∀ (W:Sy.V S.C) (t:Ty),(∀ i ∈ ax S W,ag i=bx i)→cA S ag t W=cA S bx t W:=by
  intro W t hW
  cases W with
  | aM b=>simp only [cA]; rw [hW b (by simp [ax])]
  | _=>rfl
 have ED: ∀ (W:Sy.V S.C),(∀ i ∈ ax S W,ag i=bx i)→cg S ag W=cg S bx W:=by
  intro W hW
  cases W with
  | aM b=>simp only [cg]; rw [hW b (by simp [ax])]
  | _=>rfl
 have RY: ∀ (ts:List Ty) (vs:List (Sy.V S.C)),(∀ v ∈ vs, ∀ i ∈ ax S v,ag i=bx i)→fQ S ag ts vs=fQ S bx ts vs:=by
  intro ts
  induction ts with
  | nil=>intro vs _; rfl
  | cons t ts ih=>
   intro vs hvs
   cases vs with
   | nil=>rfl
   | cons v vs=>
    simp only [fQ]
    rw [qh v t (hvs v (by simp)),ih vs fun v hv=>hvs v (by simp [hv])]
 have imp_eq: ∀ (t:Ty) (vs:List (Sy.V S.C)),(∀ v ∈ vs, ∀ i ∈ ax S v,ag i=bx i)→ga S ag t vs=ga S bx t vs:=by
  intro t vs hvs
  cases t with
  | st u=>simp only [ga]; rw [RY _ vs hvs]
  | _=>
   cases vs with
   | nil=>rfl
   | cons v vs=>exact qh v _ (hvs v (by simp))
 cases V with
 | agg u vs=>
  have hvs: ∀ v ∈ vs, ∀ i ∈ ax S v,ag i=bx i:=fun v hv i hi=>h i (by simp only [az,List.mem_flatMap]; exact ⟨v,hv,hi⟩)
  refine ⟨?_, ?_⟩
  · cases t <;> simp only [datum]
    rw [imp_eq _ vs hvs]
  · simp only [cJ]
    clear h
    induction vs with
    | nil=>rfl
    | cons v vs ih=>
     simp only [List.flatMap_cons]
     rw [ED v (hvs v (by simp)),ih fun v hv=>hvs v (by simp [hv])]
 | aM b=>exact ⟨by cases t <;> first | rfl | exact qh (.aM b) _ h,ED (.aM b) h⟩
 | _=>exact ⟨by cases t <;> rfl,rfl⟩
theorem HF (hP:aU P S ai) (h:Inv P S w0 M0 s0 dq env a w μ) (hd: ∀ d,o.dst=some d→d<a.tmps.size) {t:TypeId} {x y:Operand} {ids:List Nat} (ho:o.op= .store t x y)
 (eK: ∀ V,aN S env.tm y=some V→ ∀ i ∈ az S V,restrict S env.bx ids i=env.bx i)
 (hl:(match S.ty t,aN S env.tm x,aN S env.tm y with
  | some u,some p,some v=>vk S u (restrict S env.bx ids) v p
  | _,_,_=> .fail).leaf (V,us)) (hK:Goal P S w0 M0 s0 dq env a o.dst V us K):o.wp P a w K Q:=by
 split at hl
 · rename_i T p v ht hx hy
   obtain ⟨hp,_⟩:=bk h hx
   obtain ⟨hv,cO⟩:=bk h hy
   cases p with
   | ptr b off=>
    simp only [vk] at hl
    split at hl
    · rename_i vs hb
      have hb:=dQ hb
      cases hf:fits S (cellsOf S v) (Ty.sz S T)&&Nat.ble (off+Ty.sz S T) vs.length with
      | false=>rw [hf] at hl; exact hl.elim
      | true=>
       rw [hf] at hl
       obtain ⟨rfl,rfl⟩:=bl hl
       rw [Bool.and_eq_true] at hf
       obtain ⟨f1,f2⟩:=zU hf.1
       have f3:=Nat.le_of_ble_eq_true hf.2
       obtain ⟨c1,c2⟩:=zn hP.tocz f2 hv
       have KY:=aF.length P S c1
       obtain ⟨b1,b2,b3,cs,b4,b5⟩:=h.bL b _ hb
       have S2:=aF.length P S b5
       have bN:live S env.bx b:=by unfold live; rw [hb]; trivial
       have hle:off+(a.eval y).cells.toList.length≤cs.length:=by omega
       have b7:w.there (μ b).b ((μ b).o+off) (a.eval y).cells.toList.length:=k8 b3 (by omega) (by omega)
       have hp:a.eval x= .pointer (some ⟨(μ b).b,(μ b).o+off,none⟩):=hp
       have hrun:(execOp a.eval o).run P w= .ok .skip (w.setCells (μ b).b ((μ b).o+off) (a.eval y).cells.toList):=by
        unfold execOp
        simp only [ho,hp]
        have :=run_store hP ht (b:=(μ b).b) (o':=(μ b).o+off) (v:=a.eval y) (w:=w) (by rw [← f1, ← KY]; simp) b7 (vi f2 c1)
        simp [this]
       refine Iu h hd hrun ?_ hK
       show Inv P S w0 M0 s0 dq { env with bx:=aq env.bx b (some (.cells (setCells S vs off (cellsOf S v)))) } a _ μ
       refine h.write hb bN (fun _ e=>nomatch e) (by omega) (by omega) rfl (fun hl lM=>⟨Hs b1 f2,by rw [Ht (by omega)]; exact b2,rU b3 b7,_,GH b4 off hle, ?_⟩) fun ws gw u hu j hj=> ?_
       · refine Cl (aF.map lM (fun v hv=>h.jh b vs (.inl hb) v hv) b5) (aF.map lM (fun u hu j hj=>cO j (c2 u hu j hj)) c1)
       · rcases gw with gw | gw
         · cases gw
           rcases Hu hu with hu | hu
           · exact h.jh b vs (.inl hb) u hu j hj
           · exact cO j (c2 u hu j hj)
         · cases gw
    · exact hl.elim
   | dY b i off=>
    simp only [vk] at hl
    split at hl
    · rename_i e l hb
      have hb:=dQ hb
      split at hl
      · rename_i z hz
        obtain ⟨d1,d2⟩:=tg (t:=T) (eK v hy)
        rw [d1] at hz
        rw [d2] at hl
        cases hf:Nat.ble (off+Ty.sz S T) (Ty.sz S e)&&(cJ S env.bx v).all (fun u=> !Nat.beq u.1 b) with
        | false=>rw [hf] at hl; exact hl.elim
        | true=>
         rw [hf,cond_true] at hl
         rw [Bool.and_eq_true] at hf
         split at hl
         · rename_i e' he'
           obtain ⟨rfl,rfl⟩:=bl hl
           have f3:=Nat.le_of_ble_eq_true hf.1
           obtain ⟨k1,r1⟩:=wD hP.tocz h (Tk.refl S env.bx) hv hz
           have h1:=h.tk k1
           have eT:av env.bx (cJ S env.bx v) b=some (.arr e l):=by
            rw [rZ _ _ fun u hu=> ?_]
            · exact hb
            · have :=List.all_eq_true.1 hf.2 u hu
              intro e
              rw [e,Nat.beq_refl] at this
              cases this
           obtain ⟨_,tY⟩:=h1.gX 0 |> fun _=>(show RV P S w (aE S w0 M0 s0 env.bx μ w) μ env.bx (.dY b i off) (a.eval x) from hp)
           obtain ⟨i0,i1,Fy⟩:=tY e l (.inl hb)
           obtain ⟨g1,g2,g3,g4,g5⟩:=h1.bL b _ eT
           have Ap:l[i.toNat]? =some (fG S e l i):=qB i0 (by omega)
           obtain ⟨ds,S4,Ll,n,Lm⟩:=g5 _ _ Ap
           have r2:bU S w (aE S w0 M0 s0 (av env.bx (cJ S env.bx v)) μ w) T z (a.eval y):=by
            refine r1.mono S fun b' o' ⟨q1,q2,q3⟩=>⟨⟨q1,q2,fun j hj=> ?_⟩,rfl⟩
            rcases q3 j ((dF S (k1.di hj)).1 hj) with ⟨_,_,hq⟩ | hq
            · unfold live at hj; rw [hq] at hj; exact hj.elim
            · exact hq
           obtain ⟨m,r3⟩:=r2.2
           have hvl:=r3.length S
           have hrow:(i.toNat+1)*Ty.sz S e≤(μ b).cap*Ty.sz S e:=Nat.mul_le_mul_right _ (by omega)
           rw [Nat.add_mul,Nat.one_mul] at hrow
           have bN:live S (av env.bx (cJ S env.bx v)) b:=by unfold live; rw [eT]; trivial
           have b7:w.there (μ b).b ((μ b).o+(i.toNat*Ty.sz S e+off)) (a.eval y).cells.toList.length:=k8 g4 (by omega) (by omega)
           obtain ⟨x1,x2,x3⟩:=kz (P:=P) hP.tocz μ (av env.bx (cJ S env.bx v)) r3
           obtain ⟨y1,y2,y3⟩:=kz (P:=P) hP.tocz μ (av env.bx (cJ S env.bx v)) Lm
           have Tm:=aF.length P S x1
           have Tn:=aF.length P S y1
           have hrun:(execOp a.eval o).run P w= .ok .skip (w.setCells (μ b).b ((μ b).o+(i.toNat*Ty.sz S e+off)) (a.eval y).cells.toList):=by
            unfold execOp
            rw [show (μ b).o+i.toNat*Ty.sz S e+off=(μ b).o+(i.toNat*Ty.sz S e+off) from by omega] at Fy
            simp only [ho,Fy]
            have :=run_store hP ht (b:=(μ b).b) (o':=(μ b).o+(i.toNat*Ty.sz S e+off)) (v:=a.eval y) (w:=w) (by rw [← hvl]; simp) b7 (vi x2 x1)
            simp [this]
           refine Iu h hd hrun ?_ hK
           rw [gG]
           show Inv P S w0 M0 s0 dq { env with bx:=aq (av env.bx (cJ S env.bx v)) b (some (.arr e (l.set i.toNat e'))) } a _ μ
           refine h1.write (B':= .arr e (l.set i.toNat e')) eT bN (fun _ e=>nomatch e) (by omega) (by omega) ⟨rfl,rfl,by simp⟩ (fun hl lM=>⟨g1,g2,by simpa using g3,rU g4 b7,fun k q hk=> ?_⟩) fun ws gw=>by rcases gw with gw | gw <;> cases gw
           by_cases ek:i.toNat=k
           · subst ek
             rw [List.getElem?_set_self (by omega)] at hk
             cases hk
             rw [show (μ b).o+(i.toNat*Ty.sz S e+off)=(μ b).o+i.toNat*Ty.sz S e+off from by omega] at hl ⊢
             refine ⟨_, ?_,GH (cs:=ds) (vals:=(a.eval y).cells.toList) Ll off (by omega), ?_⟩
             · rw [List.length_append,List.length_append,List.length_take,List.length_drop]; omega
             · obtain ⟨q,hq⟩:=FI (P:=P) hP.tocz (Cl (off:=off) y1 x1) he'
               refine ⟨q, ?_⟩
               have :=hq.mono S hl (Nat.le_refl _)
               rw [List.take_of_length_le (by rw [List.length_append,List.length_append,List.length_take,List.length_drop]; omega)] at this
               exact this
           · rw [List.getElem?_set_ne ek] at hk
             obtain ⟨ds',p1,p2,p3,p4⟩:=g5 k q hk
             refine ⟨ds',p1,rj p2 (.inr ?_),p3,p4.mono S hl (Nat.le_refl _)⟩
             rcases Nat.lt_or_gt_of_ne ek with hlt | hlt
             · right
               have :(i.toNat+1)*Ty.sz S e≤k*Ty.sz S e:=Nat.mul_le_mul_right _ (by omega)
               rw [Nat.add_mul,Nat.one_mul] at this
               omega
             · left
               have :(k+1)*Ty.sz S e≤i.toNat*Ty.sz S e:=Nat.mul_le_mul_right _ (by omega)
               rw [Nat.add_mul,Nat.one_mul] at this
               omega
         · exact hl.elim
      · exact hl.elim
    · exact hl.elim
   | _=>exact hl.elim
 · exact hl.elim
end
end Go.Sy
namespace Go.Sy
section
variable {P:Program} {S:aP} {ai:Nat→Nat}
variable {w0:World} {M0 s0:St} {dq:List Deferred} {env:Env S.C} {a:Act} {w:World} {μ:Nat→Loc} {K:Act→World→Prop} {Q:Exit→Act→World→Prop} {o:Oper} {V:V S.C} {us:aH S.C}
theorem kI {α β:Type} {f:α→Option β} {x:α} {r:List α} {ys:List β} (h:(x::r).mapM f=some ys): ∃ y zs,f x=some y∧r.mapM f=some zs∧ys=y::zs:=by
 rw [List.mapM_cons] at h
 cases hx:f x with
 | none=>rw [hx] at h; cases h
 | some y=>
  rw [hx] at h
  cases hr:r.mapM f with
  | none=>rw [hr] at h; cases h
  | some zs=>rw [hr] at h; cases h; exact ⟨y,zs,rfl,rfl,rfl⟩
def vK (P:Program) (S:aP) (w:World) (s:St) (μ:Nat→Loc) (bx:Bx S.C):List (Nat×Sy.V S.C)→List (Nat×Value)→Prop
 | [],qs=>qs= []
 | p::ps,qs=> ∃ v r,qs=(p.1,v)::r∧RV P S w s μ bx p.2 v∧vK P S w s μ bx ps r
theorem Bs (h:Inv P S w0 M0 s0 dq env a w μ): ∀ {parts:List (Nat×Operand)} {ps:List (Nat×Sy.V S.C)},parts.mapM (fun (p:Nat×Operand)=>(aN S env.tm p.2).map fun v=>(p.1,v))=some ps→
 vK P S w (aE S w0 M0 s0 env.bx μ w) μ env.bx ps (parts.map fun (i,x)=>(i,a.eval x))∧ ∀ p ∈ ps, ∃ x i,(i,x) ∈ parts∧aN S env.tm x=some p.2
 | [],ps,hp=>by cases hp; exact ⟨rfl,by simp⟩
 | (i,x)::r,ps,hp=>by
  obtain ⟨y,zs,h1,h2,rfl⟩:=kI hp
  obtain ⟨h3,h4⟩:=Bs h h2
  cases hx:aN S env.tm x with
  | none=>rw [hx] at h1; cases h1
  | some v=>
   rw [hx] at h1
   cases h1
   refine ⟨⟨a.eval x,_,rfl,(bk h hx).1,h3⟩,fun p hp=> ?_⟩
   rcases List.mem_cons.1 hp with rfl | hp
   · exact ⟨x,i,by simp,hx⟩
   · obtain ⟨x',i',h5,h6⟩:=h4 p hp
     exact ⟨x',i',by simp [h5],h6⟩
theorem vR (h:Inv P S w0 M0 s0 dq env a w μ): ∀ {xs:List Operand} {vs:List (Sy.V S.C)},xs.mapM (aN S env.tm)=some vs→
 ep P S w (aE S w0 M0 s0 env.bx μ w) μ env.bx vs (xs.map a.eval)∧ ∀ v ∈ vs, ∃ x ∈ xs,aN S env.tm x=some v
 | [],vs,hp=>by cases hp; exact ⟨rfl,by simp⟩
 | x::r,ps,hp=>by
  obtain ⟨y,zs,h1,h2,rfl⟩:=kI hp
  obtain ⟨h3,h4⟩:=vR h h2
  refine ⟨⟨a.eval x,_,rfl,(bk h h1).1,h3⟩,fun p hp=> ?_⟩
  rcases List.mem_cons.1 hp with rfl | hp
  · exact ⟨x,by simp,h1⟩
  · obtain ⟨x',h5,h6⟩:=h4 p hp
    exact ⟨x',by simp [h5],h6⟩
theorem EC (off:Nat): ∀ (l:List Value) (k:Nat) (cells:Array Value),off+k+l.length≤cells.size→
 ((l.zipIdx k).foldl (fun cs p=>cs.setIfInBounds (off+p.2) p.1) cells).toList=cells.toList.take (off+k)++l++cells.toList.drop (off+k+l.length)
 | [],k,cells,h=>by simp
 | v::l,k,cells,h=>by
  simp only [List.zipIdx_cons,List.foldl_cons]
  simp only [List.length_cons] at h
  rw [EC off l (k+1) _ (by simp; omega)]
  have hc:(cells.setIfInBounds (off+k) v).toList=cells.toList.set (off+k) v:=by simp
  have hlen:cells.toList.length=cells.size:=by simp
  rw [hc,show off+(k+1)=off+k+1 from rfl,List.drop_set_of_lt (by omega)]
  have ht:(cells.toList.set (off+k) v).take (off+k+1)=cells.toList.take (off+k)++ [v]:=by
   rw [List.take_add_one,List.take_set_of_le (Nat.le_refl _),List.getElem?_set_self (by omega)]
   rfl
  rw [ht,List.length_cons]
  simp [show off+k+1+l.length=off+k+(l.length+1) from by omega]
theorem Ey (place:Nat→Option (Nat×Nat)) {i off size:Nat} (hp:place i=some (off,size)) {v:Value} (hv:v.cells.size=size) {cells:Array Value} (hle:off+size≤cells.size) (rest:List (Nat×Value)):
 ∃ cells',cells'.toList=cells.toList.take off++v.cells.toList++cells.toList.drop (off+v.cells.toList.length)∧Instr.fill place cells ((i,v)::rest)=Instr.fill place cells' rest:=by
 refine ⟨v.cells.zipIdx.foldl (fun cs (c,j)=>cs.setIfInBounds (off+j) c) cells, ?_, ?_⟩
 · have :=EC off v.cells.toList 0 cells (by simp; omega)
   simp only [Nat.add_zero] at this
   rw [← this]
   congr 1
   rw [← Array.foldl_toList]
   simp
 · simp only [Instr.fill,hp]
   rw [if_neg]
   simp only [hv]
   simp
   omega
theorem Et (hS:cz S) {s:St} {bx:Bx S.C} {u:Nat} {place:Nat→Option (Nat×Nat)} (hp: ∀ f o T,S.dO u f=some (o,T)→place f=some (o,Ty.sz S T)):
 ∀ {ps:List (Nat×Sy.V S.C)} {qs:List (Nat×Value)} {vs vs':List (Sy.V S.C)} {cells:Array Value},vK P S w s μ bx ps qs→aF P S w s μ bx vs cells.toList→vs.all (bE S)=true→tD S u vs ps=some vs'→
 ∃ cells',Instr.fill place cells qs=some cells'∧aF P S w s μ bx vs' cells'.toList∧vs'.all (bE S)=true∧vs'.length=vs.length∧ ∀ v ∈ vs',v ∈ vs∨ ∃ p ∈ ps, ∀ j ∈ ax S v,j ∈ az S p.2
 | [],qs,vs,vs',cells,h1,h2,h3,h4=>by
  cases h1; cases h4
  exact ⟨cells,rfl,h2,h3,rfl,fun v hv=> .inl hv⟩
 | (i,W)::ps,qs,vs,vs',cells,⟨v,r,hq,hv,hr⟩,h2,h3,h4=>by
  subst hq
  simp only [tD] at h4
  split at h4
  · rename_i off T hf
    cases hc:fits S (cellsOf S W) (Ty.sz S T)&&Nat.ble (off+Ty.sz S T) vs.length with
    | false=>rw [hc] at h4; cases h4
    | true=>
     rw [hc,cond_true] at h4
     rw [Bool.and_eq_true] at hc
     obtain ⟨f1,f2⟩:=zU hc.1
     have f3:=Nat.le_of_ble_eq_true hc.2
     obtain ⟨c1,c2⟩:=zn hS f2 hv
     have l1:=aF.length P S c1
     have l2:=aF.length P S h2
     obtain ⟨cells',e1,e2⟩:=Ey place (hp _ _ _ hf) (v:=v) (cells:=cells) (by rw [← f1, ← l1]; simp) (by rw [← l2] at f3; simpa using f3) r
     obtain ⟨zm,g1,g2,g3,g4,g5⟩:=Et hS hp (cells:=cells') hr (by rw [e1]; exact Cl h2 c1) (Hs h3 f2) h4
     refine ⟨zm,by rw [e2]; exact g1,g2,g3,by rw [g4,Ht (by omega)],fun v hv=> ?_⟩
     rcases g5 v hv with hv | ⟨p,hp,hv⟩
     · rcases Hu hv with hv | hv
       · exact .inl hv
       · exact .inr ⟨(i,W),by simp,c2 v hv⟩
     · exact .inr ⟨p,by simp [hp],hv⟩
  · cases h4
theorem Kg (hP:aU P S ai) (h:Inv P S w0 M0 s0 dq env a w μ) (hd: ∀ d,o.dst=some d→d<a.tmps.size) {t:TypeId} {parts:Array (Nat×Operand)} (ho:o.op= .build t parts)
 (hl:(match S.ty t with
  | some (.st u)=>match parts.toList.mapM (fun (p:Nat×Operand)=>(aN S env.tm p.2).map fun v=>(p.1,v)) with
   | some ps=>match tD S u (zeroCells S (.st u)) ps with
    | some vs=>aA S (.agg u vs) []
    | none=> .fail
   | none=> .fail
  | _=> .fail).leaf (V,us)) (hK:Goal P S w0 M0 s0 dq env a o.dst V us K):o.wp P a w K Q:=by
 split at hl
 · rename_i u ht
   split at hl
   · rename_i ps hps
     split at hl
     · rename_i vs hvs
       obtain ⟨rfl,rfl⟩:=bl hl
       obtain ⟨p1,p2⟩:=Bs h hps
       obtain ⟨⟨i,z,h1,h2,h3,h4,h5⟩,⟨Tf,Mz⟩,w9⟩:=hP.ty t _ ht
       obtain ⟨b0,hb0⟩:=Option.isSome_iff_exists.1 Mz
       obtain ⟨z1,z2,z3⟩:=IN (P:=P) (w:=w) (μ:=μ) hP.tocz (s:=aE S w0 M0 s0 env.bx μ w) (bx:=env.bx) (.st u)
       have MA: ∃ place:Nat→Option (Nat×Nat),(∀ qs,P.built t qs=Instr.fill place z.cells qs)∧ ∀ f o T,S.dO u f=some (o,T)→place f=some (o,Ty.sz S T):=by
        cases har:S.ar t with
        | some p=>
         rw [har] at w9
         obtain ⟨te,hu,hte,_,hfl⟩:=w9
         obtain ⟨⟨ie,ze,e1,e2,_⟩,_⟩:=hP.ty te _ hte
         refine ⟨fun i=>some (i*ie.size,ie.size),fun qs=> ?_,fun f o' T hf=> ?_⟩
         · unfold Program.built
           simp only [h1,hu,h3,e1]
         · obtain ⟨rfl,rfl,_⟩:=hfl f o' T hf
           simp [e2]
        | none=>
        rw [har] at w9
        obtain ⟨fs,hu,lP⟩:=w9
        unfold Program.built at hb0
        simp only [h1,hu,h3] at hb0
        cases hpl:fs.toList.mapM (fun f=>(P.info? f.type).map fun i=>(f.offset,i.size)) with
        | none=>rw [hpl] at hb0; cases hb0
        | some places=>
         refine ⟨(places.toArray[·]?),fun qs=> ?_,fun f o' T hf=> ?_⟩
         · unfold Program.built
           simp only [h1,hu,h3,hpl]
         · obtain ⟨fd,d1,d2,d3,d4,d5⟩:=lP f o' T hf
           obtain ⟨⟨i',z',e1,e2,_⟩,_⟩:=hP.ty _ _ d3
           have gv: ∀ (l:List Field) (ys:List (Nat×Nat)) (k:Nat) (fd:Field),l.mapM (fun f=>(P.info? f.type).map fun i=>(f.offset,i.size))=some ys→l[k]? =some fd→ ∃ y,ys[k]? =some y∧(P.info? fd.type).map (fun i=>(fd.offset,i.size))=some y:=by
            intro l
            induction l with
            | nil=>intro ys k fd _ hk; simp at hk
            | cons x l ih=>
             intro ys k fd hys hk
             obtain ⟨y,zs,q1,q2,rfl⟩:=kI hys
             cases k with
             | zero=>simp at hk; subst hk; exact ⟨y,by simp,q1⟩
             | succ k=>
              obtain ⟨y',q3,q4⟩:=ih zs k fd q2 (by simpa using hk)
              exact ⟨y',by simpa using q3,q4⟩
           obtain ⟨y,q1,q2⟩:=gv fs.toList places f fd hpl (by simpa using d1)
           rw [e1] at q2
           simp at q2
           simp [q1, ← q2,d2,e2]
       obtain ⟨place,g1,g2⟩:=MA
       obtain ⟨cells',k1,k2,k3,k4,k5⟩:=Et hP.tocz g2 (cells:=z.cells) p1 (by rw [h5]; exact z1) z2 hvs
       refine wp_pure (V:= .agg u vs) h (v:= .agg cells') ?_ hd ⟨cells',rfl, ?_,k3,k2⟩ (fun j hj=> ?_) hK
       · unfold execOp
         simp only [ho]
         have :=run_build (P:=P) w t (parts.map fun (i,x)=>(i,a.eval x)) cells' (by rw [g1,Array.toList_map]; exact k1)
         simp [this]
       · rw [k4]; simp [zeroCells]
       · simp only [az,List.mem_flatMap] at hj
         obtain ⟨v,hv,hj⟩:=hj
         rcases k5 v hv with hv | ⟨p,hp,hv⟩
         · rw [z3 v hv] at hj; simp at hj
         · obtain ⟨x,i',_,hx⟩:=p2 p hp
           exact (bk h hx).2 j (hv j hj)
     · exact hl.elim
   · exact hl.elim
 · exact hl.elim
end
end Go.Sy
namespace Go.Sy
section
variable {P:Program} {S:aP} {ai:Nat→Nat}
variable {w0:World} {M0 s0:St} {dq:List Deferred} {env:Env S.C} {a:Act} {w:World} {μ:Nat→Loc} {K:Act→World→Prop} {Q:Exit→Act→World→Prop} {o:Oper} {V:V S.C} {us:aH S.C}
def cy (bx:Bx S.C) (us:aH S.C):Prop:= ∀ u ∈ us, ∃ e l,u.2= .bw e l∧bx u.1=some (.arr e l)
theorem cy.append {bx:Bx S.C} {us vs:aH S.C} (h1:cy bx us) (h2:cy bx vs):cy bx (us++vs):=fun u hu=>(List.mem_append.1 hu).elim (h1 u) (h2 u)
theorem cy.at {bx:Bx S.C} : ∀ {us:aH S.C} (ag:Bx S.C),cy bx us→ ∀ i,(av ag us i=ag i∧ ∀ u ∈ us,u.1≠i)∨((∃ u ∈ us,u.1=i)∧ ∃ e l,bx i=some (.arr e l)∧av ag us i=some (.bw e l))
 | [],ag,_,i=> .inl ⟨rfl,by simp⟩
 | u::us,ag,h,i=>by
  rcases cy.at (us:=us) (aq ag u.1 (some u.2)) (fun v hv=>h v (by simp [hv])) i with ⟨h1,h2⟩ | ⟨⟨v,hv,h1⟩,h2⟩
  · by_cases e:u.1=i
    · right
      refine ⟨⟨u,by simp,e⟩, ?_⟩
      obtain ⟨e',l,h3,h4⟩:=h u (by simp)
      refine ⟨e',l,e▸h4, ?_⟩
      show av (aq ag u.1 (some u.2)) us i=_
      rw [h1, ← e,aO,h3]
    · left
      refine ⟨?_,fun v hv=> ?_⟩
      · show av (aq ag u.1 (some u.2)) us i=_
        rw [h1,aZ _ _ (Ne.symm e)]
      · rcases List.mem_cons.1 hv with rfl | hv
        · exact e
        · exact h2 v hv
  · exact .inr ⟨⟨v,by simp [hv],h1⟩,h2⟩
theorem cy.tk {bx:Bx S.C} {us US:aH S.C} (h:cy bx US) (hs: ∀ u ∈ us,u ∈ US):Tk S (av bx us) (av bx US):=by
 intro i
 have h0:cy bx us:=fun u hu=>h u (hs u hu)
 rcases cy.at bx h i with ⟨h1,h2⟩ | ⟨_,e,l,h1,h2⟩
 · rcases cy.at bx h0 i with ⟨h3,_⟩ | ⟨⟨u,hu,h3⟩,_⟩
   · exact .inl (h1.trans h3.symm)
   · exact absurd h3 (h2 u (hs u hu))
 · rcases cy.at bx h0 i with ⟨h3,_⟩ | ⟨_,e',l',h3,h4⟩
   · exact .inr (.inr ⟨e,l,h3.trans h1,h2⟩)
   · rw [h1] at h3; cases h3
     exact .inl (h2.trans h4.symm)
theorem cy.mB {bx:Bx S.C} {US:aH S.C} (h:cy bx US):Tk S bx (av bx US):=cy.tk (us:= []) h (by simp)
theorem cy.cg (bx:Bx S.C) (V:Sy.V S.C):cy bx (cg S bx V):=by
 cases V with
 | aM b=>
  unfold Sy.cg
  dsimp only
  split
  · rename_i e l hb
    intro u hu
    simp at hu
    subst hu
    exact ⟨e,l,rfl,hb⟩
  · intro u hu; simp at hu
 | _=>intro u hu; simp [Sy.cg] at hu
theorem cy.cJ (bx:Bx S.C) (V:Sy.V S.C):cy bx (cJ S bx V):=by
 cases V with
 | agg u vs=>
  intro x hx
  simp only [Sy.cJ,List.mem_flatMap] at hx
  obtain ⟨v,_,hx⟩:=hx
  exact cy.cg bx v x hx
 | aM b=>exact cy.cg bx (.aM b)
 | _=>intro u hu; simp [Sy.cJ,Sy.cg] at hu
theorem yG {ag:Bx S.C} (hk:Tk S env.bx ag):bI w (bW S w0 M0 s0 env.bx ag μ w) w (aE S w0 M0 s0 ag μ w):=fun b o ⟨q1,q2,q3⟩=>
 ⟨⟨q1,q2,fun j hj=>by
  rcases q3 j ((dF S (hk.di hj)).1 hj) with ⟨_,_,hq⟩ | hq
  · unfold live at hj; rw [hq] at hj; exact hj.elim
  · exact hq⟩,rfl⟩
def cE (w:World) (s:St) (e:Ty) (l:List (e.den S.C)) (cs:List Value):Prop:=
 cs.length=l.length*Ty.sz S e∧ ∀ i x,l[i]? =some x→ ∃ n,aB S w s n e x ((cs.drop (i*Ty.sz S e)).take (Ty.sz S e))
theorem cE.nil {s:St} {e:Ty} :cE w s e ([]:List (e.den S.C)) []:=⟨by simp,fun i x h=>by simp at h⟩
theorem cE.later {w':World} {s s':St} (hl:bI w s w' s') {e:Ty} {l:List (e.den S.C)} {cs:List Value} (h:cE w s e l cs):cE w' s' e l cs:=
 ⟨h.1,fun i x hi=>(h.2 i x hi).imp fun _ hr=>hr.mono S hl (Nat.le_refl _)⟩
theorem cE.append {s:St} {e:Ty} {l l':List (e.den S.C)} {cs cs':List Value} (h:cE w s e l cs) (h':cE w s e l' cs'):cE w s e (l++l') (cs++cs'):=by
 refine ⟨by simp [h.1,h'.1,Nat.add_mul],fun i x hi=> ?_⟩
 by_cases hlt:i<l.length
 · rw [List.getElem?_append_left hlt] at hi
   obtain ⟨n,hn⟩:=h.2 i x hi
   refine ⟨n, ?_⟩
   have :(i+1)*Ty.sz S e≤l.length*Ty.sz S e:=Nat.mul_le_mul_right _ (by omega)
   rw [Nat.add_mul,Nat.one_mul, ← h.1] at this
   rw [List.drop_append_of_le_length (by omega),List.take_append_of_le_length (by simp; omega)]
   exact hn
 · rw [List.getElem?_append_right (by omega)] at hi
   obtain ⟨n,hn⟩:=h'.2 _ x hi
   refine ⟨n, ?_⟩
   have h1:i*Ty.sz S e=cs.length+(i - l.length)*Ty.sz S e:=by
    rw [h.1, ← Nat.add_mul]; congr 1; omega
   rw [h1,List.drop_append]
   simp only [List.drop_of_length_le (Nat.le_add_right cs.length _),List.nil_append,Nat.add_sub_cancel_left]
   exact hn
theorem cE.set {s:St} {e:Ty} {l:List (e.den S.C)} {cs:List Value} (h:cE w s e l cs) {i:Nat} (hi:i<l.length) {x:e.den S.C} {n:Nat} {ds:List Value} (hx:aB S w s n e x ds):
 cE w s e (l.set i x) (cs.take (i*Ty.sz S e)++ds++cs.drop (i*Ty.sz S e+ds.length)):=by
 have hd:=hx.length S
 have hle:(i+1)*Ty.sz S e≤l.length*Ty.sz S e:=Nat.mul_le_mul_right _ (by omega)
 rw [Nat.add_mul,Nat.one_mul, ← h.1] at hle
 refine ⟨?_,fun k y hk=> ?_⟩
 · rw [List.length_append,List.length_append,List.length_take,List.length_drop,List.length_set, ← h.1]; omega
 · by_cases ek:i=k
   · subst ek
     rw [List.getElem?_set_self hi] at hk
     cases hk
     refine ⟨n, ?_⟩
     rw [List.append_assoc,List.drop_append_of_le_length (by simp; omega),List.drop_of_length_le (by simp; omega),List.nil_append, ← hd,List.take_left]
     exact hx
   · rw [List.getElem?_set_ne ek] at hk
     have hkl:=(List.getElem?_eq_some_iff.1 hk).1
     obtain ⟨m,hm⟩:=h.2 k y hk
     refine ⟨m, ?_⟩
     rcases Nat.lt_or_gt_of_ne ek with hlt | hlt
     · have hki:(i+1)*Ty.sz S e≤k*Ty.sz S e:=Nat.mul_le_mul_right _ (by omega)
       rw [Nat.add_mul,Nat.one_mul] at hki
       have hpre:(cs.take (i*Ty.sz S e)++ds).length=i*Ty.sz S e+ds.length:=by rw [List.length_append,List.length_take]; omega
       rw [show k*Ty.sz S e=(cs.take (i*Ty.sz S e)++ds).length+(k*Ty.sz S e - (i*Ty.sz S e+ds.length)) from by rw [hpre]; omega,List.drop_append]
       simp only [List.drop_of_length_le (Nat.le_add_right _ _),List.nil_append,Nat.add_sub_cancel_left,List.drop_drop]
       rw [show i*Ty.sz S e+ds.length+(k*Ty.sz S e - (i*Ty.sz S e+ds.length))=k*Ty.sz S e from by omega]
       exact hm
     · have hki:(k+1)*Ty.sz S e≤i*Ty.sz S e:=Nat.mul_le_mul_right _ (by omega)
       rw [Nat.add_mul,Nat.one_mul] at hki
       rw [List.append_assoc,List.drop_append_of_le_length (by simp; omega),List.take_append_of_le_length (by simp; omega),List.drop_take,List.take_take]
       rw [show min (Ty.sz S e) (i*Ty.sz S e - k*Ty.sz S e)=Ty.sz S e from by omega]
       exact hm
theorem cE.replicate {s:St} {e:Ty} {x:e.den S.C} {n:Nat} {z:Array Value} (hx:aB S w s n e x z.toList) (k:Nat):cE w s e (List.replicate k x) (madeCells z (k*Ty.sz S e)).toList:=by
 have hz:=hx.length S
 have hzs:z.size=Ty.sz S e:=by rw [← hz]; simp
 refine ⟨by simp [size_madeCells],fun i y hi=>⟨n, ?_⟩⟩
 have qK:=(List.getElem?_eq_some_iff.1 hi).1
 rw [List.length_replicate] at qK
 rw [List.getElem?_replicate,if_pos qK] at hi
 cases hi
 have :((madeCells z (k*Ty.sz S e)).toList.drop (i*Ty.sz S e)).take (Ty.sz S e)=z.toList:=by
  apply List.ext_getElem?
  intro j
  rw [List.getElem?_take]
  have hrow:(i+1)*Ty.sz S e≤k*Ty.sz S e:=Nat.mul_le_mul_right _ (by omega)
  rw [Nat.add_mul,Nat.one_mul] at hrow
  by_cases hj:j<Ty.sz S e
  · rw [if_pos hj,List.getElem?_drop]
    have hmod:(i*Ty.sz S e+j) % z.size=j:=by
     rw [hzs,Nat.mul_comm,Nat.mul_add_mod,Nat.mod_eq_of_lt hj]
    simp [madeCells]
    rw [List.getElem?_range (by omega)]
    rw [Option.map_some,hmod]
    simp [hzs,hj]
  · rw [if_neg hj,List.getElem?_eq_none (by omega)]
 rw [this]
 exact hx
theorem G2 {s:St} {e:Ty} {b:Nat} : ∀ {l:List (e.den S.C)} {o':Nat},(∀ i x,l[i]? =some x→ ∃ ds,ds.length=Ty.sz S e∧w.rangeAt b (o'+i*Ty.sz S e) ds∧ ∃ n,aB S w s n e x ds)→
 ∃ cs,w.rangeAt b o' cs∧cE w s e l cs
 | [],_,_=>⟨[],fun j v h=>by simp at h,cE.nil⟩
 | x::l,o',h=>by
  obtain ⟨ds,d1,d2,n,d3⟩:=h 0 x rfl
  obtain ⟨cs,c1,c2⟩:=G2 (s:=s) (l:=l) (o':=o'+Ty.sz S e) fun i y hi=>by
   obtain ⟨ds,d1,d2,d3⟩:=h (i+1) y (by simpa using hi)
   refine ⟨ds,d1, ?_,d3⟩
   rw [Nat.add_mul,Nat.one_mul] at d2
   rw [show o'+Ty.sz S e+i*Ty.sz S e=o'+(i*Ty.sz S e+Ty.sz S e) from by omega]
   exact d2
  simp only [Nat.zero_mul,Nat.add_zero] at d2
  refine ⟨ds++cs,fun j v hj=> ?_,cE.append (l:= [x]) (l':=l) ⟨by simp [d1],fun i y hi=> ?_⟩ c2⟩
  · by_cases hlt:j<ds.length
    · rw [List.getElem?_append_left hlt] at hj; exact d2 j v hj
    · rw [List.getElem?_append_right (by omega)] at hj
      have :=c1 _ v hj
      rw [show o'+Ty.sz S e+(j - ds.length)=o'+j from by omega] at this
      exact this
  · cases i with
    | zero=>simp at hi; subst hi; exact ⟨n,by simpa [← d1] using d3⟩
    | succ i=>simp at hi
theorem cE.row {s:St} {e:Ty} {l:List (e.den S.C)} {cs:List Value} (h:cE w s e l cs) {w':World} {b o':Nat} (hr:w'.rangeAt b o' cs):
 ∀ i x,l[i]? =some x→ ∃ ds,ds.length=Ty.sz S e∧w'.rangeAt b (o'+i*Ty.sz S e) ds∧ ∃ n,aB S w s n e x ds:=fun i x hi=>by
 obtain ⟨n,hn⟩:=h.2 i x hi
 exact ⟨_,hn.length S,BI hr _ _,n,hn⟩
theorem CI (hP:aU P S ai) {t:Nat} {T:Ty} (ht:S.ty t=some T) (s:St): ∃ n,aB S w s n T (Ty.zero S T) (qc S T):=by
 have z1: ∀ (T:Ty),bg T=false→aB S w s 1 T (Ty.zero S T) [sw T]:=by
  intro T hT
  cases T with
  | int k=>rfl
  | bool=>rfl
  | str=>rfl
  | pt=>rfl
  | sl e=>exact ⟨none,0,rfl,Nat.le_refl _, .inl rfl⟩
  | st u=>simp [bg] at hT
 cases T with
 | st u=>
  obtain ⟨_,⟨hz,_⟩,_⟩:=hP.ty t _ ht
  refine ⟨2, ?_⟩
  show bn S _ (S.F u) (S.ex u (S.z u)) ((S.F u).map sw)
  rw [hz]
  have : ∀ (ts:List Ty),ts.all (fun t=> !bg t)=true→bn S (fun t x cs=>aB S w s 1 t x cs) ts (n_ S ts) (ts.map sw):=by
   intro ts
   induction ts with
   | nil=>intro _; rfl
   | cons t ts ih=>
    intro h
    simp only [List.all_cons,Bool.and_eq_true,Bool.not_eq_true'] at h
    refine ⟨_,_,rfl, ?_, ?_⟩
    · rw [show an.head (n_ S (t::ts))=Ty.zero S t from by cases ts <;> rfl]
      exact z1 t h.1
    · rw [show an.tail (n_ S (t::ts))=n_ S ts from by cases ts <;> rfl]
      exact ih h.2
  exact this _ (hP.flat u)
 | int k=>exact ⟨1,z1 _ rfl⟩
 | bool=>exact ⟨1,z1 _ rfl⟩
 | str=>exact ⟨1,z1 _ rfl⟩
 | pt=>exact ⟨1,z1 _ rfl⟩
 | sl e=>exact ⟨1,z1 _ rfl⟩
theorem CE (h:Inv P S w0 M0 s0 dq env a w μ) (hd: ∀ d,o.dst=some d→d<a.tmps.size) {us:aH S.C} {B:Nat} {e:Ty} {l:List (e.den S.C)} {t:TypeId} {cap:Nat} {cells:Array Value} {cs:List Value}
 (hk:Tk S env.bx (av env.bx us)) (hB:av env.bx us B=none) {w1:World} (hw1:w1.heap=w.heap) (AD:w1.os=w.os∧w1.tape=w.tape∧w1.output=w.output)
 (hrun:(execOp a.eval o).run P w= .ok (.value (.slice (some ⟨w.heap.size,0,none⟩) l.length cap)) (w1.alloc (.cells cells t)))
 (hle:l.length≤cap) (hcap:cells.size=cap*Ty.sz S e) (hcs:cE w (aE S w0 M0 s0 (av env.bx us) μ w) e l cs) (hpre:cs <+: cells.toList)
 (hK:Goal P S w0 M0 s0 dq env a o.dst (.aM B) (us++ [(B, .arr e l)]) K):o.wp P a w K Q:=by
 have h1:=h.tk hk
 have ME:aX w (w1.alloc (.cells cells t)) (fun _ _=>False):=by
  have c1:aX w w1 (fun _ _=>False):=⟨AD.1,AD.2.1,AD.2.2,by rw [hw1]; exact Nat.le_refl _,fun b _ _=>by rw [hw1],fun b o _ _=>cell_of_heap (by rw [hw1]),fun b o _ h=>by rw [cell_of_heap (by rw [hw1]:w1.heap[b]? =w.heap[b]?)]; exact h,fun b o _ _=>wR (by rw [hw1])⟩
  exact c1.trans (aX.alloc w1 _ (fun _ _=>False)) (fun _ _ h=>h) (fun _ _ _ h=>h)
 have nt:=nD (w:=w1) (cs:=cells) (t:=t)
 rw [hw1] at nt
 have Ns:(w1.alloc (.cells cells t)).rangeAt w.heap.size 0 cs:=fun j v hj=>nt.2 j v (by
  obtain ⟨r,hr⟩:=hpre
  rw [← hr,List.getElem?_append_left (List.getElem?_eq_some_iff.1 hj).1]
  exact hj)
 refine n7 (env:= { env with bx:=av env.bx us }) (i:=B) (B:= .arr e l) (V:= .aM B) (L:=⟨w.heap.size,0,cap*Ty.sz S e,cap,false⟩) h1 hrun hd ME hB (fun b o' hf=>Nat.le_of_eq hf.1.symm)
  (fun hl _ h3=>⟨⟨rfl,(fun h=>by cases h),hle,(by show World.there _ w.heap.size 0 (cap*Ty.sz S e); rw [← hcap]; exact nt.1),fun i x hi=> ?_⟩,⟨⟨_,_,_,rfl⟩,fun e' l' hb=> ?_⟩⟩) (fun vs hvs=>by rcases hvs with hvs | hvs <;> cases hvs) (fun j hj=> .inl (by simpa [az,ax] using hj)) ?_
 · obtain ⟨ds,d1,d2,n,d3⟩:=hcs.row Ns i x hi
   exact ⟨ds,d1,d2,n,d3.mono S hl (Nat.le_refl _)⟩
 · dsimp only at hb
   rw [aO] at hb
   rcases hb with hb | hb
   · cases hb
     rw [aO]
     exact ⟨_,cap,rfl,rfl,rfl,rfl,(fun h=>by cases h),hle⟩
   · cases hb
 · intro a' w' μ' hI hs
   refine hK a' w' μ' ?_ hs
   have :(env.apply o.dst (.aM B) (us++ [(B, .arr e l)]))=(Env.apply { env with bx:=av env.bx us } o.dst (.aM B) [(B, .arr e l)]):=by
    simp only [Env.apply,gG]
   rw [this]
   exact hI
theorem OV (hP:aU P S ai) (h:Inv P S w0 M0 s0 dq env a w μ) (hd: ∀ d,o.dst=some d→d<a.tmps.size) {B:Nat} {t:TypeId} {x y:Operand} (ho:o.op= .makeSlice t x y)
 (hnew: ∀ u ∈ us,B≤u.1→u.1<B+16→env.bx u.1=none)
 (hl:(match dR S t,aN S env.tm x,aN S env.tm y with
  | some e,some v,some w=>match v.int?,w.int? with
   | some (.i64,n),some (.i64,m)=>Tr.gd [gd (0≤n),gd (n≤m),gd (m*ai t≤limit)] (aA S (.aM (B)) [(B, .arr e (List.replicate n.toNat (Ty.zero S e)))])
   | _,_=>Tr.fail
  | _,_,_=>Tr.fail).leaf (V,us)) (hK:Goal P S w0 M0 s0 dq env a o.dst V us K):o.wp P a w K Q:=by
 split at hl
 · rename_i e v u ht hx hy
   split at hl
   · rename_i n m hn hm
     obtain ⟨hg,rfl,rfl⟩:=eJ hl
     have g1:0≤n:=hg (gd (0≤n)) (by simp)
     have g2:n≤m:=hg (gd (n≤m)) (by simp)
     have g3:m*ai t≤limit:=hg (gd (m*ai t≤limit)) (by simp)
     have ht':=lH ht
     obtain ⟨te,ie,z,hu,hte,hie,hby,eT,_⟩:=hP.sl ht'
     obtain ⟨⟨i,z,h1,h2,h3,h4,h5⟩,_⟩:=hP.ty te _ hte
     rw [hie] at h1
     cases h1
     have e1:=gR (bk h hx).1 hn
     have e2:=gR (bk h hy).1 hm
     have hmn:(m.toNat:Int)=m:=by omega
     have hpos:(ai t:Int)≥1:=by omega
     have hml:m≤140737488355328:=by
      have :m*1≤m*(ai t:Int):=Int.mul_le_mul_of_nonneg_left hpos (by omega)
      have :limit=140737488355328:=rfl
      omega
     have hrun:=run_make (P:=P) w t te ie z hu hie h3 .i64 .i64 n m g1 g2 (by rw [hby,Int.mul_comm]; have :limit=140737488355328:=rfl; omega) (by omega)
     obtain ⟨q,hq⟩:=CI (w:=w) hP hte (aE S w0 M0 s0 (av env.bx []) μ w)
     rw [← h5] at hq
     have hB:=hnew _ (List.mem_singleton.2 rfl) (Nat.le_refl _) (by show B<B+16; omega)
     refine CE (t:=te) (us:= []) (e:=e) (l:=List.replicate n.toNat (Ty.zero S e)) (cap:=m.toNat) (cells:=madeCells z.cells (m.toNat*ie.size)) (cs:=(madeCells z.cells (n.toNat*Ty.sz S e)).toList) (w1:=w) h hd (Tk.refl S _) hB rfl ⟨rfl,rfl,rfl⟩ ?_ (by simp; omega)
      (by rw [size_madeCells,h2]) (cE.replicate hq _) ?_ hK
     · unfold execOp
       simp only [ho,e1,e2,List.length_replicate]
       simp [hrun]
     · rw [h2]
       simp only [madeCells,Array.toList_map,Array.toList_range]
       have :n.toNat*Ty.sz S e≤m.toNat*Ty.sz S e:=Nat.mul_le_mul_right _ (by omega)
       refine List.IsPrefix.map _ ?_
       exact ⟨(List.range (m.toNat*Ty.sz S e)).drop (n.toNat*Ty.sz S e),by
        conv=>rhs; rw [← List.take_append_drop (n.toNat*Ty.sz S e) (List.range (m.toNat*Ty.sz S e))]
        congr 1
        rw [List.take_range,Nat.min_eq_left this]⟩
   · exact hl.elim
 · exact hl.elim
end
end Go.Sy
namespace Go.Sy
section
variable {P:Program} {S:aP} {ai:Nat→Nat}
variable {w0:World} {M0 s0:St} {dq:List Deferred} {env:Env S.C} {a:Act} {w:World} {μ:Nat→Loc} {K:Act→World→Prop} {Q:Exit→Act→World→Prop} {o:Oper} {V:V S.C} {us:aH S.C}
theorem Ew {bx ag:Bx S.C} {e:Ty} : ∀ {ps:List (Nat×Sy.V S.C)} {l:List (e.den S.C)},(∀ p ∈ ps, ∀ i ∈ az S p.2,ag i=bx i)→kC S ag e l ps=kC S bx e l ps
 | [],_,_=>rfl
 | (i,v)::ps,l,h=>by
  obtain ⟨h1,h2⟩:=tg (t:=e) (h (i,v) (by simp))
  simp only [kC,h1,h2]
  congr 1
  cases datum S bx e v with
  | none=>rfl
  | some x=>simp only [Option.bind_some]; rw [Ew fun p hp=>h p (by simp [hp])]
theorem Eu {bx:Bx S.C} {e:Ty} : ∀ {ps:List (Nat×Sy.V S.C)} {l l':List (e.den S.C)} {us:aH S.C},kC S bx e l ps=some (l',us)→cy bx us∧l'.length=l.length
 | [],_,_,_,h=>by cases h; exact ⟨fun u hu=>by simp at hu,rfl⟩
 | (i,v)::ps,l,l',us,h=>by
  simp only [kC] at h
  cases hi:Nat.blt i (List.length l) with
  | false=>rw [hi] at h; cases h
  | true=>
   rw [hi,cond_true] at h
   obtain ⟨x,hx,h⟩:=Option.bind_eq_some_iff.1 h
   obtain ⟨⟨l2,u2⟩,h2,h⟩:=Option.bind_eq_some_iff.1 h
   cases h
   obtain ⟨g1,g2⟩:=Eu h2
   exact ⟨(cy.cJ bx v).append g1,by rw [g2,List.length_set]⟩
theorem Ev (hS:cz S) (h:Inv P S w0 M0 s0 dq env a w μ) {e:Ty} {US:aH S.C} (hU:cy env.bx US): ∀ {ps:List (Nat×Sy.V S.C)} {qs:List (Nat×Value)} {l l':List (e.den S.C)} {us:aH S.C} {cells:Array Value},
 vK P S w (aE S w0 M0 s0 env.bx μ w) μ env.bx ps qs→cE w (bW S w0 M0 s0 env.bx (av env.bx US) μ w) e l cells.toList→kC S env.bx e l ps=some (l',us)→(∀ u ∈ us,u ∈ US)→
 ∃ cells',Instr.fill (fun i=>some (i*Ty.sz S e,Ty.sz S e)) cells qs=some cells'∧cE w (bW S w0 M0 s0 env.bx (av env.bx US) μ w) e l' cells'.toList
 | [],qs,l,l',us,cells,h1,h2,h3,_=>by
  cases h1; cases h3
  exact ⟨cells,rfl,h2⟩
 | (i,V)::ps,qs,l,l',us,cells,⟨v,r,hq,hv,hr⟩,h2,h3,hs=>by
  subst hq
  simp only [kC] at h3
  cases hi:Nat.blt i (List.length l) with
  | false=>rw [hi] at h3; cases h3
  | true=>
   rw [hi,cond_true] at h3
   have hlt:i<l.length:=by
    have :Nat.ble (i+1) l.length=true:=hi
    exact Nat.le_of_ble_eq_true this
   obtain ⟨x,hx,h3⟩:=Option.bind_eq_some_iff.1 h3
   obtain ⟨⟨l2,u2⟩,h4,h3⟩:=Option.bind_eq_some_iff.1 h3
   cases h3
   obtain ⟨_,d2⟩:=wD hS h (Tk.refl S env.bx) hv hx
   have d3:=d2.mono S (rT S (hU.tk (us:=cJ S env.bx V) fun u hu=>hs u (by simp [hu])))
   obtain ⟨n,d4⟩:=d3.2
   have d5:=d4.length S
   have hc:=h2.1
   have hle:(i+1)*Ty.sz S e≤l.length*Ty.sz S e:=Nat.mul_le_mul_right _ (by omega)
   rw [Nat.add_mul,Nat.one_mul, ← hc] at hle
   obtain ⟨cells',e1,e2⟩:=Ey (fun i=>some (i*Ty.sz S e,Ty.sz S e)) (i:=i) rfl (v:=v) (cells:=cells) (by rw [← d5]; simp) (by simpa using hle) r
   obtain ⟨zm,g1,g2⟩:=Ev hS h hU (cells:=cells') hr (by rw [e1]; exact h2.set hlt d4) h4 fun u hu=>hs u (by simp [hu])
   exact ⟨zm,by rw [e2]; exact g1,g2⟩
theorem Lq (hP:aU P S ai) (h:Inv P S w0 M0 s0 dq env a w μ) (hd: ∀ d,o.dst=some d→d<a.tmps.size) {B:Nat} {t:TypeId} {parts:Array (Nat×Operand)} {e:Ty} (ho:o.op= .buildSlice t 0 parts) (ht:dR S t=some e)
 (hnew: ∀ u ∈ us,B≤u.1→u.1<B+16→env.bx u.1=none)
 (hl:(match parts.toList with
  | []=>aA S (.aW B e []) [(B, .tail)]
  | _=> .fail:Rt S).leaf (V,us)) (hK:Goal P S w0 M0 s0 dq env a o.dst V us K):o.wp P a w K Q:=by
 split at hl
 · rename_i hps
   obtain ⟨rfl,rfl⟩:=bl hl
   have hp:parts= #[]:=by
    have :parts=parts.toList.toArray:=by simp
    rw [this,hps]
   subst hp
   have hB:=hnew (B, .tail) (by simp) (Nat.le_refl _) (by show B<B+16; omega)
   have ht':=lH ht
   obtain ⟨te,ie,z,hu,hte,hie,hby,eT,_⟩:=hP.sl ht'
   have hrun:(execOp a.eval o).run P w= .ok (.value (.slice (some ⟨w.heap.size,0,none⟩) 0 0)) (w.alloc (.cells #[] te)):=by
    unfold execOp
    simp only [ho]
    simp [Instr.buildSlice,run_underlying hu,sizeOf,typeInfo,hie,Array.range_zero',Instr.fill,newRow]
   refine n7 (i:=B) (B:= .tail) (V:= .aW B e []) (L:=⟨0,0,0,0,true⟩) h hrun hd (aX.alloc w _ _) hB (fun b o hf=> ?_) (fun _ _ _=>⟨fun j hj=>absurd hj (Nat.not_lt_zero j), ?_⟩) (by simp) (fun j hj=> .inl (by simpa [az,ax] using hj)) hK
   · have h1:=hf.2.1; have h2:=hf.2.2; simp at h2
   · refine ⟨⟨rfl,1,_,0,rfl,Nat.le_refl _, .inl rfl⟩,fun _=>⟨_,0,rfl, ?_⟩⟩
     rw [aO]
     exact .inr ⟨_,_,rfl,by simp,fun h=>absurd h (Nat.lt_irrefl 0)⟩
 · exact hl.elim
theorem Kf (hP:aU P S ai) (h:Inv P S w0 M0 s0 dq env a w μ) (hd: ∀ d,o.dst=some d→d<a.tmps.size) {B:Nat} {t:TypeId} {len:Nat} {parts:Array (Nat×Operand)} {ids:List Nat} (ho:o.op= .buildSlice t len parts)
 (eK: ∀ i x,(i,x) ∈ parts.toList→ ∀ V,aN S env.tm x=some V→ ∀ i ∈ az S V,restrict S env.bx ids i=env.bx i)
 (hnew: ∀ u ∈ us,B≤u.1→u.1<B+16→env.bx u.1=none)
 (hl:(match dR S t with
  | some e=>match parts.toList.mapM (fun (p:Nat×Operand)=>(aN S env.tm p.2).map fun v=>(p.1,v)) with
   | some ps=>cond (Nat.ble (len*Ty.sz S e) 16777216) (match kC S (restrict S env.bx ids) e (List.replicate len (Ty.zero S e)) ps with
    | some (l,us)=>aA S (.aM (B)) (us++ [(B,cZ.arr e l)])
    | none=>Tr.fail) Tr.fail
   | none=>Tr.fail
  | none=>Tr.fail).leaf (V,us)) (hK:Goal P S w0 M0 s0 dq env a o.dst V us K):o.wp P a w K Q:=by
 split at hl
 · rename_i e ht
   split at hl
   · rename_i ps hps
     cases hlim:Nat.ble (len*Ty.sz S e) 16777216 with
     | false=>rw [hlim] at hl; exact hl.elim
     | true=>
      rw [hlim,cond_true] at hl
      obtain ⟨p1,p2⟩:=Bs h hps
      rw [Ew (bx:=env.bx) fun p hp i hi=>by
       obtain ⟨x,k,hm,hx⟩:=p2 p hp
       exact eK k x hm p.2 hx i hi] at hl
      split at hl
      · rename_i l fz Fc
        obtain ⟨rfl,rfl⟩:=bl hl
        obtain ⟨f1,f2⟩:=Eu Fc
        rw [List.length_replicate] at f2
        have ht':=lH ht
        obtain ⟨te,ie,z,hu,hte,hie,hby,eT,_⟩:=hP.sl ht'
        obtain ⟨⟨i,z,h1,h2,h3,h4,h5⟩,_⟩:=hP.ty te _ hte
        rw [hie] at h1
        cases h1
        obtain ⟨q,hq⟩:=CI (w:=w) hP hte (bW S w0 M0 s0 env.bx (av env.bx fz) μ w)
        rw [← h5] at hq
        obtain ⟨cells,c1,c2⟩:=Ev hP.tocz h f1 (cells:=madeCells z.cells (len*Ty.sz S e)) p1 (cE.replicate hq len) Fc fun u hu=>hu
        have bD:=hnew (B,cZ.arr e l) (by simp) (Nat.le_refl _) (by show B<B+16; omega)
        have hB:av env.bx fz B=none:=by
         rcases cy.at env.bx f1 B with ⟨e1,_⟩ | ⟨_,e',l',e2,_⟩
         · rw [e1]; exact bD
         · rw [show env.bx B=none from bD] at e2; cases e2
        refine CE (t:=te) (us:=fz) (e:=e) (l:=l) (cap:=len) (cells:=cells) (cs:=cells.toList) (w1:=w) h hd f1.mB hB rfl ⟨rfl,rfl,rfl⟩ ?_ (by omega) (by have :=c2.1; rw [f2] at this; simpa using this)
         (c2.later (yG f1.mB)) (List.prefix_refl _) hK
        unfold execOp
        simp only [ho,f2]
        have hrun:(Instr.buildSlice t len (parts.map fun (i,x)=>(i,a.eval x))).run P w= .ok (.slice (some ⟨w.heap.size,0,none⟩) len len) (w.alloc (.cells cells te)):=by
         have hlim:=Nat.le_of_ble_eq_true hlim
         rw [← h2] at hlim c1
         by_cases h0:len*ie.size=0
         · rw [h0] at c1
           have hm:madeCells z.cells 0= #[]:=by simp [madeCells]
           rw [hm] at c1
           have Kj:Instr.fill (fun i=>some (i*ie.size,ie.size)) #[] (parts.toList.map fun x=>(x.1,a.eval x.2))=some cells:=c1
           simp [Instr.buildSlice,run_underlying hu,sizeOf,typeInfo,hie,h0,Array.range_zero',Kj,newRow]
         · refine run_buildSlice w t te len _ cells ie z hu hie h3 (by omega) h0 ?_
           rw [Array.toList_map,h2]
           rw [h2] at c1
           exact c1
        simp [hrun]
      · exact hl.elim
   · exact hl.elim
 · exact hl.elim
end
end Go.Sy
namespace Go.Sy
section
variable {P:Program} {S:aP} {ai:Nat→Nat}
variable {w0:World} {M0 s0:St} {dq:List Deferred} {env:Env S.C} {a:Act} {w:World} {μ:Nat→Loc} {K:Act→World→Prop} {Q:Exit→Act→World→Prop} {o:Oper} {V:V S.C} {us:aH S.C}
theorem QC (P:Program) (hS:cz S) {s:St} {n:Nat} {e:Ty} {x:e.den S.C} {cs:List Value} (h:aB S w s n e x cs): ∀ u ∈ cs,u.oneCell'=true:=by
 obtain ⟨h1,h2,_⟩:=kz (P:=P) hS (fun _=>⟨0,0,0,0,true⟩) (fun _=>none) h
 exact vi h2 h1
theorem KV (P:Program) (hS:cz S) {s:St} {e:Ty} {l:List (e.den S.C)} {cs:List Value} (h:cE w s e l cs): ∀ u ∈ cs,u.oneCell'=true:=by
 intro u hu
 obtain ⟨k,hk,M9⟩:=List.getElem_of_mem hu
 have h0:0<Ty.sz S e:=by
  rcases Nat.eq_zero_or_pos (Ty.sz S e) with h0 | h0
  · have :=h.1; rw [h0,Nat.mul_zero] at this; omega
  · exact h0
 have hkl:k<l.length*Ty.sz S e:=by rw [← h.1]; exact hk
 have hi:k / Ty.sz S e<l.length:=Nat.div_lt_of_lt_mul (by rw [Nat.mul_comm]; exact hkl)
 obtain ⟨n,hn⟩:=h.2 (k / Ty.sz S e) _ (List.getElem?_eq_getElem hi)
 refine QC P hS hn u ?_
 have hd:k / Ty.sz S e*Ty.sz S e+k % Ty.sz S e=k:=by rw [Nat.mul_comm]; exact Nat.div_add_mod k _
 refine List.mem_iff_getElem?.2 ⟨k % Ty.sz S e, ?_⟩
 rw [List.getElem?_take,if_pos (Nat.mod_lt _ h0),List.getElem?_drop,hd,List.getElem?_eq_getElem hk,M9]
def Read (S:aP) (w:World) (s:St) (e:Ty) (l:List (e.den S.C)) (v:Value):Prop:=
 ∃ ad cap,v= .slice ad l.length cap∧l.length≤cap∧(l.length=0∨ ∃ b o,ad=some ⟨b,o,none⟩∧ ∀ i x,l[i]? =some x→ ∃ ds,ds.length=Ty.sz S e∧w.rangeAt b (o+i*Ty.sz S e) ds∧ ∃ n,aB S w s n e x ds)
theorem bU.read {s:St} {e:Ty} {l:List (e.den S.C)} {v:Value} (h:bU S w s (.sl e) l v):Read S w s e l v:=by
 obtain ⟨ad,cap,h1,h2,h3⟩:=jA h
 refine ⟨ad,cap,h1,h2,h3.imp id fun ⟨b,o,n,h4,h5⟩=>⟨b,o,h4,fun i x hi=> ?_⟩⟩
 obtain ⟨ds,d1,d2,d3⟩:=h5 i x hi
 exact ⟨ds,d1,d2.range,n,d3⟩
theorem mL.read {s:St} {e:Ty} {l:List (e.den S.C)} {v:Value} {L:Loc} {ad:Option Addr} {cap:Nat} (hv:v= .slice ad l.length cap) (h:mL L ad l.length cap (Ty.sz S e))
 (hr: ∀ i x,l[i]? =some x→ ∃ ds,ds.length=Ty.sz S e∧w.rangeAt L.b (L.o+i*Ty.sz S e) ds∧ ∃ n,aB S w s n e x ds):Read S w s e l v:=by
 refine ⟨ad,cap,hv,h.fits, ?_⟩
 cases hn:L.nil with
 | true=>
  left
  have h1:=h.isNil hn
  have h2:=h.fits
  have h3:=h.iO
  omega
 | false=>
  right
  have h1:=h.addr
  rw [hn] at h1
  exact ⟨L.b,L.o,h1,hr⟩
theorem A_ (h:Inv P S w0 M0 s0 dq env a w μ) {b:Nat} {e:Ty} {l:List (e.den S.C)} {v:Value} (hb:env.bx b=some (.arr e l)∨env.bx b=some (.bw e l)) (hv:RV P S w (aE S w0 M0 s0 env.bx μ w) μ env.bx (.aM b) v):
 Read S w (aE S w0 M0 s0 env.bx μ w) e l v:=by
 obtain ⟨_,hv⟩:=hv
 obtain ⟨ad,cap,h1,h2⟩:=hv e l hb
 refine h2.read h1 ?_
 rcases hb with hb | hb
 · exact (h.bL b _ hb).2.2.2.2
 · intro i x hi
   obtain ⟨ds,d1,d2,d3⟩:=(h.bL b _ hb).2.2 i x hi
   exact ⟨ds,d1,d2.range,d3⟩
theorem zA (h:Inv P S w0 M0 s0 dq env a w μ) {e:Ty} {X:Sy.V S.C} {x:Value} {y:List (e.den S.C)} (hx:RV P S w (aE S w0 M0 s0 env.bx μ w) μ env.bx X x) (hy:datum S env.bx (.sl e) X=some y):
 Read S w (aE S w0 M0 s0 env.bx μ w) e y x:=by
 cases X with
 | d u z=>
  obtain ⟨rfl,rfl⟩:=dB hy
  exact bU.read hx
 | aW b e' l=>
  obtain ⟨e1,rfl⟩:=dB hy
  cases e1
  exact bU.read hx.1
 | b8=>
  cases hy
  exact ⟨none,0,hx,Nat.le_refl _, .inl rfl⟩
 | aM b=>
  have hy:cA S env.bx (.sl e) (.aM b)=some y:=hy
  simp only [cA] at hy
  split at hy
  · rename_i e' l hb
    obtain ⟨e1,rfl⟩:=dB hy
    cases e1
    exact A_ h (.inl hb) hx
  · rename_i e' l hb
    obtain ⟨e1,rfl⟩:=dB hy
    cases e1
    exact A_ h (.inr hb) hx
  · cases hy
 | _=>cases hy
theorem Read.cells {s:St} {e:Ty} {l:List (e.den S.C)} {v:Value} (h:Read S w s e l v): ∃ ad cap cs,v= .slice ad l.length cap∧l.length≤cap∧cE w s e l cs∧
 (l.length=0∧cs= []∨ ∃ b o,ad=some ⟨b,o,none⟩∧w.rangeAt b o cs):=by
 obtain ⟨ad,cap,h1,h2,h3⟩:=h
 rcases h3 with h3 | ⟨b,o,h3,h4⟩
 · have :l= []:=List.length_eq_zero_iff.1 h3
   subst this
   exact ⟨ad,cap,[],h1,h2,cE.nil, .inl ⟨rfl,rfl⟩⟩
 · obtain ⟨cs,c1,c2⟩:=G2 h4
   exact ⟨ad,cap,cs,h1,h2,c2, .inr ⟨b,o,h3,c1⟩⟩
theorem Read.src (hP:aU P S ai) {s:St} {e:Ty} {l:List (e.den S.C)} {v:Value} (h:Read S w s e l v) {tx:Nat} (ht:S.ty tx=some (.sl e)): ∃ news,Src P (Ty.sz S e) tx v l.length news w∧cE w s e l news:=by
 obtain ⟨te,ie,z,hu,_⟩:=hP.sl ht
 obtain ⟨ad,cap,cs,h1,h2,h3,h4⟩:=h.cells
 refine ⟨cs, ?_,h3⟩
 subst h1
 rcases h4 with ⟨h4,rfl⟩ | ⟨b,o,rfl,h4⟩
 · cases ad with
   | none=>rw [h4]; exact Src.ofNil w hu cap
   | some ad=>exact Src.ofSlice w hu ad _ cap [] h3.1 (fun j u hj=>by simp at hj) (fun u hu=>by simp at hu)
 · exact Src.ofSlice w hu _ _ cap cs h3.1 (fun j u hj=>by rw [Addr.add_mid]; exact h4 j u hj) (KV P hP.tocz h3)
theorem Read.old {s:St} {e:Ty} {l:List (e.den S.C)} {ad:Option Addr} {cap:Nat} (P:Program) (h:Read S w s e l (.slice ad l.length cap)): ∃ olds,(Builtin.firstCells (Ty.sz S e) l.length (.slice ad l.length cap)).run P w.drew= .ok olds.toArray w.drew∧cE w s e l olds∧
 (l.length=0∨ ∃ b o,ad=some ⟨b,o,none⟩∧w.rangeAt b o olds):=by
 obtain ⟨ox,cap',cs,h1,h2,h3,h4⟩:=h.cells
 cases h1
 refine ⟨cs, ?_,h3,h4.imp (·.1) id⟩
 rcases h4 with ⟨h4,rfl⟩ | ⟨b,o,rfl,h4⟩
 · cases ad with
   | none=>exact run_firstCells_none _ _ _ _ _
   | some ad=>exact run_firstCells_some _ _ _ ad _ cap [] h3.1 (fun j u hj=>by simp at hj)
 · exact run_firstCells_some _ _ _ _ _ cap cs h3.1 (fun j u hj=>by rw [Addr.add_mid]; simpa using h4 j u hj)
theorem yc (hP:aU P S ai) {t tx ty:Nat} {e:Ty} (ht:S.ty t=some (.sl e)) {n m cap:Nat} {base:Option Addr} {x:Value} {news olds:List Value} (hs:Src P (Ty.sz S e) tx x m news w)
 (hold:(Builtin.firstCells (Ty.sz S e) n (.slice base n cap)).run P w.drew= .ok olds.toArray w.drew) (Fs:olds.length=n*Ty.sz S e) (hle:n≤cap) (hlim:(n+m)*ai t≤limit):
 (m=0∧(Builtin.append_ #[t,tx] ty #[.slice base n cap,x]).run P w= .ok (.slice base n cap) w)∨
 (0<m∧n+m≤cap∧ ∀ b off,base=some ⟨b,off,none⟩→w.there b (off+n*Ty.sz S e) news.length→(Builtin.append_ #[t,tx] ty #[.slice base n cap,x]).run P w= .ok (.slice base (n+m) cap) (w.setCells b (off+n*Ty.sz S e) news))∨
 (∃ c' te cells,cap<n+m∧n+m≤c'∧Array.size cells=c'*Ty.sz S e∧(olds++news) <+: cells.toList∧
  (Builtin.append_ #[t,tx] ty #[.slice base n cap,x]).run P w= .ok (.slice (some ⟨w.heap.size,0,none⟩) (n+m) c') (w.drew.alloc (.cells cells te))):=by
 obtain ⟨te,ie,_,hu,hte,hie,hby,eT,_⟩:=hP.sl ht
 obtain ⟨⟨i,z,h1,h2,h3,h4,h5⟩,_⟩:=hP.ty te _ hte
 rw [hie] at h1
 cases h1
 rw [← h2] at hs hold Fs ⊢
 rcases Nat.eq_zero_or_pos m with h0 | h0
 · left
   subst h0
   have hn:news= []:=by have :=hs.newsLen; rw [Nat.zero_mul] at this; exact List.length_eq_zero_iff.1 this
   subst hn
   exact ⟨rfl,run_append_nothing w t tx ty te ie hu hie base n cap hle x hs⟩
 · right
   by_cases hroom:n+m≤cap
   · left
     refine ⟨h0,hroom, ?_⟩
     rintro b off rfl b7
     exact run_append_room_src w t tx ty te ie hu hie b off n cap x m news hs hroom (fun j hj=>(b7 j hj).1) (fun j hj=>(b7 j hj).2)
   · right
     have Tb:limit=140737488355328:=rfl
     have h63:((n+m:Nat):Int)≤9223372036854775807:=by
      have :(n+m)*1≤(n+m)*ai t:=Nat.mul_le_mul_left _ eT
      omega
     refine ⟨_,te,_,by omega,grownCap_ge w (n+m) cap te, ?_, ?_,run_append_grow_src w t tx ty te ie z hu hie h3 base n cap olds hold x m news hs (by omega) h63 (growslice_fits (by omega) (by rw [hby]; omega))⟩
     · have hg:=grownCap_ge w (n+m) cap te
       have hzs:z.cells.size=ie.size:=by
        have :=congrArg List.length h5
        rw [Array.length_toList] at this
        rw [this,h2]
        cases e <;> simp [qc,Ty.sz]
       rw [Array.size_append,size_zeroCells,hzs,List.size_toArray,List.length_append,Fs,hs.newsLen, ← Nat.add_mul, ← Nat.add_mul]
       congr 1
       omega
     · rw [Array.toList_append,List.toList_toArray]
       exact List.prefix_append _ _
theorem Inv.swap (h:Inv P S w0 M0 s0 dq env a w μ) {b B:Nat} {B0 BX:cZ S.C} {L:Loc} {w':World} {T:St} (hb:env.bx b=some B0) (bN:live S env.bx b) (hB:env.bx B=none)
 (hw:aX w w' T) (hT: ∀ k o,T k o→(μ b).aD k o) (hL: ∀ k o,L.aD k o→w.heap.size≤k∨(μ b).aD k o) (hnc: ∀ vs,BX≠ .cells vs∧BX≠ .bG vs)
 (z_:bI w (aE S w0 M0 s0 env.bx μ w) w' (aE S w0 M0 s0 (aq (aq env.bx b (some .dead)) B (some BX)) (aq μ B L) w')→
  RB P S w' (aE S w0 M0 s0 (aq (aq env.bx b (some .dead)) B (some BX)) (aq μ B L) w') (aq μ B L) (aq (aq env.bx b (some .dead)) B (some BX)) L BX):
 Inv P S w0 M0 s0 dq { env with bx:=aq (aq env.bx b (some .dead)) B (some BX) } a w' (aq μ B L)∧
 bI w (aE S w0 M0 s0 env.bx μ w) w' (aE S w0 M0 s0 (aq (aq env.bx b (some .dead)) B (some BX)) (aq μ B L) w')∧
 (∀ k o,((μ b).aD k o∨k=w.heap.size)→k<w'.heap.size→ ¬ L.aD k o→aE S w0 M0 s0 (aq (aq env.bx b (some .dead)) B (some BX)) (aq μ B L) w' k o):=by
 have hne:b≠B:=fun e=>by rw [e,hB] at hb; cases hb
 have hbd:aq (aq env.bx b (some .dead)) B (some BX) b=some .dead:=by rw [aZ _ _ hne,aO]
 have EO:aq (aq env.bx b (some .dead)) B (some BX) B=some BX:=aO _ _ _
 have hU: ∀ i, ¬ (i=b∨i=B)→aq (aq env.bx b (some .dead)) B (some BX) i=env.bx i∧aq μ B L i=μ i:=fun i hi=>by
  rw [aZ _ _ fun e=>hi (.inr e),aZ _ _ fun e=>hi (.inl e),aZ _ _ fun e=>hi (.inr e)]
  exact ⟨rfl,rfl⟩
 have iT: ¬ live S (aq (aq env.bx b (some .dead)) B (some BX)) b:=fun hl=>by unfold live at hl; rw [hbd] at hl; exact hl
 have hf: ∀ i,(i=b∨i=B)→live S (aq (aq env.bx b (some .dead)) B (some BX)) i→ ∀ k o,(aq μ B L i).aD k o→w.heap.size≤k∨ ∃ j,(j=b∨j=B)∧live S env.bx j∧(μ j).aD k o:=by
  rintro i (rfl | rfl) hl k o hfo
  · exact absurd hl iT
  · rw [aO] at hfo
    exact (hL k o hfo).imp id fun hfo=>⟨b, .inl rfl,bN,hfo⟩
 have iR: ∀ k o,T k o→k<w.heap.size→ ∃ i,(i=b∨i=B)∧live S env.bx i∧(μ i).aD k o:=fun k o ht _=>⟨b, .inl rfl,bN,hT k o ht⟩
 have hl:=h.later hw iR hU hf
 refine ⟨h.step (U:=fun i=>i=b∨i=B) hw iR hU hf ?_ ?_ ?_ ?_,hl, ?_⟩
 · intro i B1 hi
   by_cases e1:i=b
   · subst e1
     refine ⟨_,hbd, ?_⟩
     rw [aZ _ _ hne]
     cases B1 <;> rfl
   · have e2:i≠B:=fun e=>by rw [e,hB] at hi; cases hi
     rw [aZ _ _ e2,aZ _ _ e1,aZ _ _ e2]
     exact ⟨B1,hi,cc.refl S _ _⟩
 · rintro i j (rfl | rfl) (rfl | rfl) hij li lj
   · exact absurd rfl hij
   · exact absurd li iT
   · exact absurd lj iT
   · exact absurd rfl hij
 · rintro i B1 (rfl | rfl) iQ
   · rw [hbd] at iQ; cases iQ; trivial
   · rw [EO] at iQ; cases iQ
     rw [aO]
     exact z_ hl
 · rintro i vs (rfl | rfl) hvs
   · rcases hvs with hvs | hvs <;> · rw [hbd] at hvs; cases hvs
   · rcases hvs with hvs | hvs <;> rw [EO] at hvs
     · exact absurd (Option.some.inj hvs) (hnc vs).1
     · exact absurd (Option.some.inj hvs) (hnc vs).2
 · intro k o' hk hlt Nl
   refine ⟨hlt, ?_,fun i li hfo=> ?_⟩
   · rcases hk with hk | rfl
     · exact (h.own b bN k o' hk).elim (fun h=> .inr (.inr h)) (fun h=> .inr (.inl h))
     · exact .inr (.inr h.fW.size)
   · by_cases e1:i=b
     · subst e1; exact iT li
     · by_cases e2:i=B
       · subst e2; rw [aO] at hfo; exact Nl hfo
       · have hu:=hU i fun e=>e.elim e1 e2
         rw [dF S hu.1] at li
         rw [hu.2] at hfo
         rcases hk with hk | rfl
         · exact h.cM i b e1 li bN _ _ hfo hk
         · exact absurd (jV P S (h.bL i) li hfo).1 (Nat.lt_irrefl _)
end
end Go.Sy
namespace Go.Sy
section
variable {P:Program} {S:aP} {ai:Nat→Nat}
variable {w0:World} {M0 s0:St} {dq:List Deferred} {env:Env S.C} {a:Act} {w:World} {μ:Nat→Loc} {K:Act→World→Prop} {Q:Exit→Act→World→Prop} {o:Oper} {V:V S.C} {us:aH S.C}
theorem Cp {s:St} {e:Ty} {l:List (e.den S.C)} {b o' cap:Nat} (hle:l.length≤cap)
 (hall: ∀ (i:Nat) (x:e.den S.C),l[i]? =some x→ ∃ ds,ds.length=Ty.sz S e∧At w s b (o'+i*Ty.sz S e) ds∧ ∃ n,aB S w s n e x ds):bU S w s (.sl e) l (.slice (some ⟨b,o',none⟩) l.length cap):=by
 have : ∀ m,m≤l.length→ ∃ n, ∀ (i:Nat) (x:e.den S.C),i<m→l[i]? =some x→ ∃ ds,ds.length=Ty.sz S e∧At w s b (o'+i*Ty.sz S e) ds∧aB S w s n e x ds:=by
  intro m
  induction m with
  | zero=>exact fun _=>⟨0,fun i x hi=>by omega⟩
  | succ m ih=>
   intro hm
   obtain ⟨n,hn⟩:=ih (by omega)
   obtain ⟨ds,h1,h2,n',h3⟩:=hall m l[m] (by simp)
   refine ⟨max n n',fun i x hi hx=> ?_⟩
   by_cases e:i=m
   · subst e
     have :x=l[i]:=by simpa [List.getElem?_eq_getElem (show i<l.length by omega)] using hx.symm
     subst this
     exact ⟨ds,h1,h2,h3.up S (by omega)⟩
   · obtain ⟨ds,h1,h2,h3⟩:=hn i x (by omega) hx
     exact ⟨ds,h1,h2,h3.up S (by omega)⟩
 obtain ⟨n,hn⟩:=this l.length (Nat.le_refl _)
 exact ⟨rfl,n+1,_,cap,rfl,hle, .inr ⟨b,o',rfl,fun i x hx=>hn i x (List.getElem?_eq_some_iff.1 hx).1 hx⟩⟩
theorem cE.at {s:St} {e:Ty} {l:List (e.den S.C)} {cs:List Value} (h:cE w s e l cs) {b o':Nat} (hr:At w s b o' cs):
 ∀ i x,l[i]? =some x→ ∃ ds,ds.length=Ty.sz S e∧At w s b (o'+i*Ty.sz S e) ds∧ ∃ n,aB S w s n e x ds:=fun i x hi=>by
 obtain ⟨n,hn⟩:=h.2 i x hi
 exact ⟨_,hn.length S,hr.part _ _,n,hn⟩
theorem JM {s:St} {e:Ty} {l l':List (e.den S.C)} {b o':Nat}
 (h1: ∀ i x,l[i]? =some x→ ∃ ds,ds.length=Ty.sz S e∧At w s b (o'+i*Ty.sz S e) ds∧ ∃ n,aB S w s n e x ds)
 (h2: ∀ i x,l'[i]? =some x→ ∃ ds,ds.length=Ty.sz S e∧At w s b (o'+l.length*Ty.sz S e+i*Ty.sz S e) ds∧ ∃ n,aB S w s n e x ds):
 ∀ i x,(l++l')[i]? =some x→ ∃ ds,ds.length=Ty.sz S e∧At w s b (o'+i*Ty.sz S e) ds∧ ∃ n,aB S w s n e x ds:=fun i x hi=>by
 by_cases hlt:i<l.length
 · rw [List.getElem?_append_left hlt] at hi; exact h1 i x hi
 · rw [List.getElem?_append_right (by omega)] at hi
   have :=h2 _ x hi
   rw [Nat.add_assoc, ← Nat.add_mul,show l.length+(i - l.length)=i from by omega] at this
   exact this
theorem sK {s:St} {e:Ty} {l l':List (e.den S.C)} {b o':Nat}
 (h1: ∀ i x,l[i]? =some x→ ∃ ds,ds.length=Ty.sz S e∧w.rangeAt b (o'+i*Ty.sz S e) ds∧ ∃ n,aB S w s n e x ds)
 (h2: ∀ i x,l'[i]? =some x→ ∃ ds,ds.length=Ty.sz S e∧w.rangeAt b (o'+l.length*Ty.sz S e+i*Ty.sz S e) ds∧ ∃ n,aB S w s n e x ds):
 ∀ i x,(l++l')[i]? =some x→ ∃ ds,ds.length=Ty.sz S e∧w.rangeAt b (o'+i*Ty.sz S e) ds∧ ∃ n,aB S w s n e x ds:=fun i x hi=>by
 by_cases hlt:i<l.length
 · rw [List.getElem?_append_left hlt] at hi; exact h1 i x hi
 · rw [List.getElem?_append_right (by omega)] at hi
   have :=h2 _ x hi
   rw [Nat.add_assoc, ← Nat.add_mul,show l.length+(i - l.length)=i from by omega] at this
   exact this
theorem n8 (h:Inv P S w0 M0 s0 dq env a w μ) (hd: ∀ d,o.dst=some d→d<a.tmps.size) {b B:Nat} {B0 BX:cZ S.C} {L:Loc} {w':World} {T:St} {v:Value} (hb:env.bx b=some B0) (bN:live S env.bx b) (hB:env.bx B=none)
 (hrun:(execOp a.eval o).run P w= .ok (.value v) w')
 (hw:aX w w' T) (hT: ∀ k o,T k o→(μ b).aD k o) (hL: ∀ k o,L.aD k o→w.heap.size≤k∨(μ b).aD k o) (hnc: ∀ vs,BX≠ .cells vs∧BX≠ .bG vs)
 (z_: ∀ s',bI w (aE S w0 M0 s0 env.bx μ w) w' s'→RB P S w' s' (aq μ B L) (aq (aq env.bx b (some .dead)) B (some BX)) L BX)
 (hV: ∀ s',bI w (aE S w0 M0 s0 env.bx μ w) w' s'→(∀ k o,((μ b).aD k o∨k=w.heap.size)→k<w'.heap.size→ ¬ L.aD k o→s' k o)→
  RV P S w' s' (aq μ B L) (aq (aq env.bx b (some .dead)) B (some BX)) V v)
 (iS: ∀ i ∈ az S V,i=B) (hK:Goal P S w0 M0 s0 dq env a o.dst V [(b, .dead),(B,BX)] K):o.wp P a w K Q:=by
 obtain ⟨hI,hl,hm⟩:=h.swap hb bN hB hw hT hL hnc (z_ _)
 unfold Oper.wp
 rw [hrun]
 refine hK _ w' _ (hI.put hd (hV _ hl hm) fun i hi=> ?_) ?_
 · rw [iS i hi]
   show aq (aq env.bx b (some .dead)) B (some BX) B≠none
   rw [aO]; simp
 · cases o.dst <;> simp [Act.put]
theorem C_ {f:Operand→Option (Sy.V S.C)} {xs:List Operand} {v u:Sy.V S.C} (h:xs.mapM f=some [v,u]): ∃ x y,xs= [x,y]∧f x=some v∧f y=some u:=by
 cases xs with
 | nil=>cases h
 | cons x r=>
  obtain ⟨y,zs,h1,h2,h3⟩:=kI h
  cases h3
  cases r with
  | nil=>cases h2
  | cons x' r'=>
   obtain ⟨y',zs',h4,h5,h6⟩:=kI h2
   cases h6
   cases r' with
   | nil=>exact ⟨x,x',rfl,h1,h4⟩
   | cons x'' r''=>
    obtain ⟨y',zs',h7,h8,h9⟩:=kI h5
    cases h9
theorem aX.grown {w:World} {cells:Array Value} {t:TypeId} (T:St):aX w (w.drew.alloc (.cells cells t)) T:=
 (aX.drew w T).trans (aX.alloc w.drew _ T) (fun _ _ h=>h) (fun _ _ _ h=>h)
theorem EM {w:World} {cells:Array Value} {t:TypeId} :(w.drew.alloc (.cells cells t)).there w.heap.size 0 cells.size∧(w.drew.alloc (.cells cells t)).rangeAt w.heap.size 0 cells.toList∧w.heap.size<(w.drew.alloc (.cells cells t)).heap.size:=by
 obtain ⟨h1,h2⟩:=nD (w:=w.drew) (cs:=cells) (t:=t)
 exact ⟨h1,h2,by simp⟩
theorem GG {w:World} {b o':Nat} {cs ds:List Value} (h:w.rangeAt b o' ds) (hp:cs <+: ds):w.rangeAt b o' cs:=fun j v hj=>by
 obtain ⟨r,rfl⟩:=hp
 exact h j v (by rw [List.getElem?_append_left (List.getElem?_eq_some_iff.1 hj).1]; exact hj)
theorem O0 {α:Type} (l:List α) {n i m:Int} (h0:0≤n) (h1:n≤i) (h2:0≤m) (h3:i.toNat+m.toNat≤l.length):(kJ l n i m).length=l.length:=by
 unfold kJ
 simp only [List.length_append,List.length_take,List.length_drop]
 omega
theorem JN (hP:aU P S ai) (h:Inv P S w0 M0 s0 dq env a w μ) (hd: ∀ d,o.dst=some d→d<a.tmps.size) {c:Call} (ho:o.op= .call c) (hc:c.callee= .builtin .append) {args:List (Sy.V S.C)} {ids:List Nat} {B:Nat}
 (hargs:c.args.toList.mapM (aN S env.tm)=some args) (eK: ∀ V ∈ args, ∀ i ∈ az S V,restrict S env.bx ids i=env.bx i)
 (hnew: ∀ u ∈ us,B≤u.1→u.1<B+16→env.bx u.1=none)
 (hl:(match args,c.argTypes.toList with
  | [s,x],[t,u]=>match dR S t,dR S u with
   | some e,some e'=>if e=e' then qg S B (ai t) e (restrict S env.bx ids) x s else .fail
   | _,_=> .fail
  | _,_=> .fail).leaf (V,us)) (hK:Goal P S w0 M0 s0 dq env a o.dst V us K):o.wp P a w K Q:=by
 split at hl
 · rename_i Vs Vx t tx Ay
   split at hl
   · rename_i e e' het MO
     split at hl
     · rename_i hee
       subst hee
       obtain ⟨xs,xx,hxs,lO,hex⟩:=C_ hargs
       obtain ⟨hs,_⟩:=bk h lO
       obtain ⟨hx,_⟩:=bk h hex
       have ht:=lH het
       have ue:=lH MO
       have cF:c.argTypes= #[t,tx]:=by
        have :c.argTypes=c.argTypes.toList.toArray:=by simp
        rw [this,Ay]
       have har:c.args= #[xs,xx]:=by
        have :c.args=c.args.toList.toArray:=by simp
        rw [this,hxs]
       have hrun: ∀ {v:Value} {w':World},(Builtin.append_ #[t,tx] o.type #[a.eval xs,a.eval xx]).run P w= .ok v w'→(execOp a.eval o).run P w= .ok (.value v) w':=by
        intro v w' hr
        unfold execOp
        simp only [ho]
        simp [resolve,hc,har,cF,invoke,builtin,hr]
       have wS: ∀ BX,(B,BX) ∈ us→env.bx B=none:=fun BX hm=>hnew _ hm (Nat.le_refl _) (by show B<B+16; omega)
       have qF: ∀ y,datum S (restrict S env.bx ids) (.sl e) Vx=some y→datum S env.bx (.sl e) Vx=some y:=fun y hy=>by
        rw [← (tg (t:= .sl e) (eK Vx (by simp))).1]; exact hy
       cases Vs with
       | aW b e' l=>
        simp only [qg] at hl
        split at hl
        · rename_i hb
          have hb:=dQ hb
          split at hl
          · rename_i l' hl'
            obtain ⟨e1,e2⟩:=dB hl'
            cases e1
            dsimp only at e2
            subst e2
            split at hl
            · rename_i y hy
              obtain ⟨hg,rfl,rfl⟩:=eJ hl
              have hlim:(l.length+y.length)*ai t≤limit:=hg (gd ((l.length+y.length)*ai t≤limit)) (by simp)
              have hB:=wS .tail (by simp)
              obtain ⟨ic,hown⟩:=hs
              obtain ⟨ad,cap,ez,FD⟩:=hown hb
              obtain ⟨news,hsrc,hnews⟩:=(zA h hx (qF y hy)).src hP ue
              have hread:=ic.read
              rw [ez] at hread
              have hle:l.length≤cap:=by obtain ⟨_,_,q1,q2,_⟩:=hread; cases q1; exact q2
              obtain ⟨olds,hold,holds,_⟩:=hread.old P
              have bN:live S env.bx b:=by unfold live; rw [hb]; trivial
              have b7:w.there (μ b).b (μ b).o (μ b).n:=h.bL b _ hb
              have iS: ∀ i ∈ az S (.aW B e (List.append l y):Sy.V S.C),i=B:=fun i hi=>by simpa [az,ax] using hi
              rcases yc (ty:=o.type) hP ht hsrc hold holds.1 hle hlim with ⟨h0,hr⟩ | ⟨h0,hroom,hr⟩ | ⟨c',te,cells,hcap,fI,hcsz,hpre,hr⟩
              · have :y= []:=List.length_eq_zero_iff.1 h0
                subst this
                rw [← ez] at hr
                refine n8 (V:= .aW B e (List.append l [])) (BX:= .tail) (L:=μ b) h hd hb bN hB (hrun hr) (aX.refl w (fun _ _=>False)) (fun _ _ h=>h.elim) (fun _ _ h=> .inr h) (fun vs=>⟨by simp,by simp⟩) (fun s' hl=>b7) (fun s' hl _=>⟨?_,fun _=>⟨ad,cap, ?_, ?_⟩⟩) iS hK
                · rw [show List.append l []=l from List.append_nil l]; exact ic.mono S hl
                · rw [show List.append l []=l from List.append_nil l]; exact ez
                · rw [show List.append l []=l from List.append_nil l,aO]; exact FD
              · have hnl:=hsrc.newsLen
                rcases FD with ⟨_,hc0,_⟩ | ⟨b0,off,rfl,hn,hlt⟩
                · omega
                · obtain ⟨q1,q2⟩:=hlt (by omega)
                  have hmul:y.length*Ty.sz S e≤(cap - l.length)*Ty.sz S e:=Nat.mul_le_mul_right _ (by omega)
                  have hsplit:(cap - l.length)*Ty.sz S e=y.length*Ty.sz S e+(cap - (l.length+y.length))*Ty.sz S e:=by rw [← Nat.add_mul]; congr 1; omega
                  have hsum:(l.length+y.length)*Ty.sz S e=l.length*Ty.sz S e+y.length*Ty.sz S e:=Nat.add_mul ..
                  rw [q1,q2] at b7
                  have e_:w.there b0 (off+l.length*Ty.sz S e) news.length:=k8 b7 (Nat.le_refl _) (by omega)
                  have hr:=hr b0 off rfl e_
                  rw [← ez] at hr
                  refine n8 (V:= .aW B e (List.append l y)) (BX:= .tail) (L:=⟨b0,off+(l.length+y.length)*Ty.sz S e,(cap - (l.length+y.length))*Ty.sz S e,0,false⟩) h hd hb bN hB (hrun hr) (aX.setCells w b0 _ news e_) (fun k o' hk=> ?_) (fun k o' hk=> .inr ?_) (fun vs=>⟨by simp,by simp⟩)
                   (fun s' hl=> ?_) (fun s' hl hm=>⟨?_,fun _=>⟨some ⟨b0,off,none⟩,cap, ?_, ?_⟩⟩) iS hK
                  · exact ⟨by rw [q1]; exact hk.1,by omega,by omega⟩
                  · obtain ⟨k1,k2,k3⟩:=hk
                    dsimp only at k1 k2 k3
                    exact ⟨by rw [q1]; exact k1,by omega,by omega⟩
                  · exact rU (k8 b7 (by dsimp only; omega) (by dsimp only; omega)) e_
                  · have hv:a.eval xs= .slice (some ⟨b0,off,none⟩) l.length cap:=ez
                    obtain ⟨_,_,z1,z2,z3⟩:=jA ic
                    rw [hv] at z1
                    cases z1
                    have hel: ∀ i x,l[i]? =some x→ ∃ ds,ds.length=Ty.sz S e∧At (w.setCells b0 (off+l.length*Ty.sz S e) news) s' b0 (off+i*Ty.sz S e) ds∧ ∃ n,aB S (w.setCells b0 (off+l.length*Ty.sz S e) news) s' n e x ds:=by
                     intro i x hi
                     rcases z3 with z3 | ⟨b1,o1,n,z4,z5⟩
                     · have :=(List.getElem?_eq_some_iff.1 hi).1; omega
                     · cases z4
                       obtain ⟨ds,d1,d2,d3⟩:=z5 i x hi
                       exact ⟨ds,d1,d2.later hl,n,d3.mono S hl (Nat.le_refl _)⟩
                    have hnew2:At (w.setCells b0 (off+l.length*Ty.sz S e) news) s' b0 (off+l.length*Ty.sz S e) news:=fun j v hj=>by
                     have hjl:=(List.getElem?_eq_some_iff.1 hj).1
                     have EZ:=xJ e_ j v hj
                     refine ⟨EZ,hm _ _ (.inl ⟨by rw [q1],by omega,by omega⟩) (World.block_lt_of_cell? _ _ EZ) fun hf=> ?_⟩
                     have :=hf.2.1
                     dsimp only at this
                     omega
                    have :=Cp (cap:=cap) (b:=b0) (o':=off) (l:=List.append l y) (by rw [show (List.append l y).length=l.length+y.length from List.length_append]; exact hroom) (JM hel ((hnews.later hl).at hnew2))
                    rw [show (List.append l y).length=l.length+y.length from List.length_append] at this
                    exact this
                  · show Value.slice _ _ _=_
                    rw [show (List.append l y).length=l.length+y.length from List.length_append]
                  · rw [show (List.append l y).length=l.length+y.length from List.length_append,aO]
                    exact .inr ⟨b0,off,rfl,rfl,fun _=>⟨rfl,rfl⟩⟩
              · rw [← ez] at hr
                obtain ⟨g1,g2,g3⟩:=EM (w:=w) (cells:=cells) (t:=te)
                have hsplit:c'*Ty.sz S e=(l.length+y.length)*Ty.sz S e+(c' - (l.length+y.length))*Ty.sz S e:=by rw [← Nat.add_mul]; congr 1; omega
                refine n8 (V:= .aW B e (List.append l y)) (BX:= .tail) (L:=⟨w.heap.size,(l.length+y.length)*Ty.sz S e,(c' - (l.length+y.length))*Ty.sz S e,0,false⟩) h hd hb bN hB (hrun hr) (aX.grown (fun _ _=>False)) (fun _ _ h=>h.elim) (fun k o' hk=> .inl (Nat.le_of_eq hk.1.symm)) (fun vs=>⟨by simp,by simp⟩)
                 (fun s' hl=>k8 g1 (Nat.zero_le _) (by dsimp only; omega)) (fun s' hl hm=>⟨?_,fun _=>⟨some ⟨w.heap.size,0,none⟩,c', ?_, ?_⟩⟩) iS hK
                · have hall:At (w.drew.alloc (.cells cells te)) s' w.heap.size 0 (olds++news):=fun j v hj=>by
                   have hjl:=(List.getElem?_eq_some_iff.1 hj).1
                   rw [List.length_append,holds.1,hnews.1, ← Nat.add_mul] at hjl
                   refine ⟨GG g2 hpre j v hj,hm _ _ (.inr rfl) g3 fun hf=> ?_⟩
                   have :=hf.2.1
                   dsimp only at this
                   omega
                  have :=Cp (cap:=c') (b:=w.heap.size) (o':=0) (l:=List.append l y) (by rw [show (List.append l y).length=l.length+y.length from List.length_append]; exact fI) (((holds.append hnews).later hl).at hall)
                  rw [show (List.append l y).length=l.length+y.length from List.length_append] at this
                  exact this
                · show Value.slice _ _ _=_
                  rw [show (List.append l y).length=l.length+y.length from List.length_append]
                · rw [show (List.append l y).length=l.length+y.length from List.length_append,aO]
                  exact .inr ⟨_,0,rfl,rfl,fun _=>⟨rfl,by dsimp only; omega⟩⟩
            · exact hl.elim
          · exact hl.elim
        · exact hl.elim
       | aM b=>
        simp only [qg] at hl
        split at hl
        · rename_i e' l hb
          have hb:=dQ hb
          split at hl
          · rename_i l' hl'
            obtain ⟨e1,e2⟩:=dB hl'
            cases e1
            dsimp only at e2
            subst e2
            split at hl
            · rename_i y hy
              obtain ⟨hg,rfl,rfl⟩:=eJ hl
              have hlim:(l.length+y.length)*ai t≤limit:=hg (gd ((l.length+y.length)*ai t≤limit)) (by simp)
              have hB:=wS (.arr e (List.append l y)) (by simp)
              have hread:=A_ h (.inl hb) hs
              obtain ⟨ad,cap,ez,dZ⟩:=hs.2 e l (.inl hb)
              obtain ⟨news,hsrc,hnews⟩:=(zA h hx (qF y hy)).src hP ue
              rw [ez] at hread
              have hle:l.length≤cap:=dZ.fits
              obtain ⟨olds,hold,holds,_⟩:=hread.old P
              have bN:live S env.bx b:=by unfold live; rw [hb]; trivial
              obtain ⟨b1,b2,b3,b7,b5⟩:=h.bL b _ hb
              have iS: ∀ i ∈ az S (.aM B:Sy.V S.C),i=B:=fun i hi=>by simpa [az,ax] using hi
              have MD:=dZ.iO
              have cB: ∀ {w':World} {s':St} {μ':Nat→Loc} {L:Loc} {v:Value} {ox:Option Addr} {cap':Nat},v= .slice ox (l.length+y.length) cap'→mL L ox (l.length+y.length) cap' (Ty.sz S e)→μ' B=L→
               RV P S w' s' μ' (aq (aq env.bx b (some .dead)) B (some (.arr e (List.append l y)))) (.aM B) v:=by
               rintro w' s' μ' L v ox cap' rfl hok hμ
               refine ⟨⟨_,_,_,rfl⟩,fun e2 l2 h2=> ?_⟩
               rw [aO] at h2
               rcases h2 with h2 | h2
               · cases h2
                 rw [hμ,show (List.append l y).length=l.length+y.length from List.length_append]
                 exact ⟨ox,cap',rfl,hok⟩
               · cases h2
              rcases yc (ty:=o.type) hP ht hsrc hold holds.1 hle hlim with ⟨h0,hr⟩ | ⟨h0,hroom,hr⟩ | ⟨c',te,cells,hcap,fI,hcsz,hpre,hr⟩
              · have :y= []:=List.length_eq_zero_iff.1 h0
                subst this
                rw [← ez] at hr
                refine n8 (V:= .aM B) (BX:= .arr e (List.append l [])) (L:=μ b) h hd hb bN hB (hrun hr) (aX.refl w (fun _ _=>False)) (fun _ _ h=>h.elim) (fun _ _ h=> .inr h) (fun vs=>⟨by simp,by simp⟩) (fun s' hl=> ?_) (fun s' hl _=>cB ez dZ (aO _ _ _)) iS hK
                rw [show List.append l []=l from List.append_nil l]
                refine ⟨b1,b2,b3,b7,fun i x hi=> ?_⟩
                obtain ⟨ds,d1,d2,n,d3⟩:=b5 i x hi
                exact ⟨ds,d1,d2,n,d3.mono S hl (Nat.le_refl _)⟩
              · have hnl:=hsrc.newsLen
                have jS:(μ b).nil=false:=by
                 cases hn:(μ b).nil with
                 | false=>rfl
                 | true=>have :=dZ.isNil hn; omega
                have had:=dZ.addr
                rw [jS] at had
                have hmul:(l.length+y.length)*Ty.sz S e≤(μ b).cap*Ty.sz S e:=Nat.mul_le_mul_right _ (by omega)
                rw [Nat.add_mul] at hmul
                have e_:w.there (μ b).b ((μ b).o+l.length*Ty.sz S e) news.length:=k8 b7 (by omega) (by omega)
                have hr:=hr _ _ had e_
                rw [← ez] at hr
                refine n8 (V:= .aM B) (BX:= .arr e (List.append l y)) (L:=μ b) h hd hb bN hB (hrun hr) (aX.setCells w (μ b).b _ news e_) (fun k o' hk=>⟨hk.1,by omega,by omega⟩) (fun k o' hk=> .inr hk) (fun vs=>⟨by simp,by simp⟩)
                 (fun s' hl=>⟨b1,b2, ?_,rU b7 e_, ?_⟩) (fun s' hl hm=>cB (cap':=cap) rfl ?_ (aO _ _ _)) iS hK
                · rw [show (List.append l y).length=l.length+y.length from List.length_append]; omega
                · refine sK (fun i x hi=> ?_) ((hnews.later hl).row (xJ e_))
                  obtain ⟨ds,d1,d2,n,d3⟩:=b5 i x hi
                  refine ⟨ds,d1,rj d2 (.inr (.inl ?_)),n,d3.mono S hl (Nat.le_refl _)⟩
                  have qK:=(List.getElem?_eq_some_iff.1 hi).1
                  have :(i+1)*Ty.sz S e≤l.length*Ty.sz S e:=Nat.mul_le_mul_right _ (by omega)
                  rw [Nat.add_mul,Nat.one_mul] at this
                  omega
                · exact ⟨dZ.addr,dZ.iO,dZ.cells,dZ.isNil,hroom⟩
              · rw [← ez] at hr
                obtain ⟨g1,g2,g3⟩:=EM (w:=w) (cells:=cells) (t:=te)
                refine n8 (V:= .aM B) (BX:= .arr e (List.append l y)) (L:=⟨w.heap.size,0,c'*Ty.sz S e,c',false⟩) h hd hb bN hB (hrun hr) (aX.grown (fun _ _=>False)) (fun _ _ h=>h.elim) (fun k o' hk=> .inl (Nat.le_of_eq hk.1.symm)) (fun vs=>⟨by simp,by simp⟩)
                 (fun s' hl=>⟨rfl,(fun h=>by cases h), ?_,by show World.there _ w.heap.size 0 (c'*Ty.sz S e); rw [← hcsz]; exact g1, ?_⟩) (fun s' hl hm=>cB (cap':=c') rfl ⟨rfl,rfl,rfl,(fun h=>by cases h),fI⟩ (aO _ _ _)) iS hK
                · rw [show (List.append l y).length=l.length+y.length from List.length_append]; exact fI
                · exact ((holds.append hnews).later hl).row (GG g2 hpre)
            · exact hl.elim
          · exact hl.elim
        · exact hl.elim
       | pre b n=>
        simp only [qg] at hl
        split at hl
        · rename_i e' l b' i m hb _
          have hb:=dQ hb
          cases Ae:Nat.beq b' b with
          | false=>rw [Ae] at hl; exact hl.elim
          | true=>
           rw [Ae,cond_true] at hl
           have :=Nat.eq_of_beq_eq_true Ae
           subst this
           split at hl
           · rename_i l' hl'
             obtain ⟨e1,e2⟩:=dB hl'
             cases e1
             dsimp only at e2
             subst e2
             obtain ⟨hg,rfl,rfl⟩:=eJ hl
             have hni:n≤i:=hg (gd (n≤i)) (by simp)
             have Na:List.length l*ai t≤limit:=hg (gd (List.length l*ai t≤limit)) (by simp)
             have hB:=wS (.arr e (kJ l n i m)) (by simp)
             obtain ⟨hn0,hnl,ad,cap,ez,dZ⟩:=hs.2 e l hb
             obtain ⟨hi0,hm0,Ao,JG,cap2,AH,Nj,Mt⟩:=hx.2 e l hb
             obtain ⟨b1,b2,b3,b7,b5⟩:=h.bL b' _ hb
             have MD:=dZ.iO
             have bN:live S env.bx b':=by unfold live; rw [hb]; trivial
             obtain ⟨y,hy⟩: ∃ y,y=(List.drop i.toNat l).take m.toNat:=⟨_,rfl⟩
             have NK:y.length=m.toNat:=by rw [hy,List.length_take,List.length_drop]; omega
             have NI: ∀ k x,y[k]? =some x→l[i.toNat+k]? =some x:=fun k x hk=>by
              rw [hy,List.getElem?_take] at hk
              split at hk
              · rwa [List.getElem?_drop] at hk
              · cases hk
             have hrd:Read S w (aE S w0 M0 s0 env.bx μ w) e y (a.eval xx):=by
              refine ⟨JG,cap2,by rw [NK]; exact AH,by omega, ?_⟩
              rcases Mt with h0 | h0
              · exact .inl (by omega)
              · refine .inr ⟨_,_,h0,fun k x hk=> ?_⟩
                obtain ⟨ds,d1,d2,q,d3⟩:=b5 _ x (NI k x hk)
                exact ⟨ds,d1,by rw [show (μ b').o+i.toNat*Ty.sz S e+k*Ty.sz S e=(μ b').o+(i.toNat+k)*Ty.sz S e from by rw [Nat.add_mul]; omega]; exact d2,q,d3⟩
             have hpl:(List.take n.toNat l).length=n.toNat:=by rw [List.length_take]; omega
             have Nt:Read S w (aE S w0 M0 s0 env.bx μ w) e (List.take n.toNat l) (.slice ad (List.take n.toNat l).length cap):=by
              refine ⟨ad,cap,rfl,by rw [hpl]; exact dZ.fits, ?_⟩
              by_cases h0:n.toNat=0
              · exact .inl (by rw [hpl]; exact h0)
              · have jS:(μ b').nil=false:=by
                 cases hn:(μ b').nil with
                 | false=>rfl
                 | true=>have :=dZ.isNil hn; have :=dZ.fits; omega
                have had:=dZ.addr
                rw [jS] at had
                refine .inr ⟨_,_,had,fun k x hk=> ?_⟩
                rw [List.getElem?_take] at hk
                split at hk
                · exact b5 k x hk
                · cases hk
             obtain ⟨news,hsrc,hnews⟩:=hrd.src hP ue
             obtain ⟨olds,hold,holds,_⟩:=Nt.old P
             rw [hpl] at hold
             have hol:=holds.1
             rw [hpl] at hol
             have hlim:(n.toNat+y.length)*ai t≤limit:=Nat.le_trans (Nat.mul_le_mul_right _ (by omega)) Na
             have iS: ∀ j ∈ az S (.pre B (n+m):Sy.V S.C),j=B:=fun j hj=>by simpa [az,ax] using hj
             have hml:=O0 l hn0 hni hm0 Ao
             have hnm:(n+m).toNat=n.toNat+y.length:=by omega
             have cB: ∀ {w':World} {s':St} {μ':Nat→Loc} {v:Value},v= .slice ad (n.toNat+y.length) cap→μ' B=μ b'→
              RV P S w' s' μ' (aq (aq env.bx b' (some .dead)) B (some (.arr e (kJ l n i m)))) (.pre B (n+m)) v:=by
              rintro w' s' μ' v rfl hμ
              refine ⟨⟨_,_,_,rfl⟩,fun e2 l2 h2=> ?_⟩
              rw [aO] at h2
              cases h2
              rw [hμ,hml]
              exact ⟨by omega,by omega,ad,cap,by rw [hnm],dZ.addr,dZ.iO,dZ.cells,dZ.isNil,by omega⟩
             have Fm:kJ l n i m=(List.take n.toNat l++y)++List.drop (n.toNat+y.length) l:=by
              unfold kJ; rw [hnm,hy]
             rcases yc (ty:=o.type) hP ht hsrc hold hol dZ.fits hlim with ⟨h0,hr⟩ | ⟨h0,hroom,hr⟩ | ⟨c',te,cells,hcap,fI,hcsz,hpre,hr⟩
             · have hy0:y= []:=List.length_eq_zero_iff.1 h0
               rw [← ez] at hr
               refine n8 (V:= .pre B (n+m)) (BX:= .arr e (kJ l n i m)) (L:=μ b') h hd hb bN hB (hrun hr) (aX.refl w (fun _ _=>False)) (fun _ _ h=>h.elim) (fun _ _ h=> .inr h) (fun vs=>⟨by simp,by simp⟩) (fun s' hl=> ?_) (fun s' hl _=>cB (by rw [ez,h0]; rfl) (aO _ _ _)) iS hK
               have :kJ l n i m=l:=by rw [Fm,hy0]; simp
               rw [this]
               refine ⟨b1,b2,b3,b7,fun i x hi=> ?_⟩
               obtain ⟨ds,d1,d2,n,d3⟩:=b5 i x hi
               exact ⟨ds,d1,d2,n,d3.mono S hl (Nat.le_refl _)⟩
             · have Te:=hsrc.newsLen
               have jS:(μ b').nil=false:=by
                cases hn:(μ b').nil with
                | false=>rfl
                | true=>have :=dZ.isNil hn; omega
               have had:=dZ.addr
               rw [jS] at had
               have hmul:(n.toNat+y.length)*Ty.sz S e≤(μ b').cap*Ty.sz S e:=Nat.mul_le_mul_right _ (by omega)
               have hsum:(n.toNat+y.length)*Ty.sz S e=n.toNat*Ty.sz S e+y.length*Ty.sz S e:=Nat.add_mul ..
               have e_:w.there (μ b').b ((μ b').o+n.toNat*Ty.sz S e) news.length:=k8 b7 (by omega) (by omega)
               have hr:=hr _ _ had e_
               rw [← ez] at hr
               refine n8 (V:= .pre B (n+m)) (BX:= .arr e (kJ l n i m)) (L:=μ b') h hd hb bN hB (hrun hr) (aX.setCells w (μ b').b _ news e_) (fun k o' hk=>⟨hk.1,by omega,by omega⟩) (fun k o' hk=> .inr hk) (fun vs=>⟨by simp,by simp⟩)
                (fun s' hl=>⟨b1,b2,by rw [hml]; exact b3,rU b7 e_, ?_⟩) (fun s' hl hm=>cB rfl (aO _ _ _)) iS hK
               rw [Fm]
               refine sK (sK (fun k x hk=> ?_) ?_) (fun k x hk=> ?_)
               · rw [List.getElem?_take] at hk
                 split at hk
                 · rename_i hkn
                   obtain ⟨ds,d1,d2,q,d3⟩:=b5 k x hk
                   refine ⟨ds,d1,rj d2 (.inr (.inl ?_)),q,d3.mono S hl (Nat.le_refl _)⟩
                   have :(k+1)*Ty.sz S e≤n.toNat*Ty.sz S e:=Nat.mul_le_mul_right _ (by omega)
                   rw [Nat.add_mul,Nat.one_mul] at this
                   omega
                 · cases hk
               · rw [hpl]
                 exact (hnews.later hl).row (xJ e_)
               · rw [List.getElem?_drop] at hk
                 obtain ⟨ds,d1,d2,q,d3⟩:=b5 _ x hk
                 rw [List.length_append,hpl,Nat.add_assoc, ← Nat.add_mul]
                 refine ⟨ds,d1,rj d2 (.inr (.inr ?_)),q,d3.mono S hl (Nat.le_refl _)⟩
                 have :(n.toNat+y.length)*Ty.sz S e≤(n.toNat+y.length+k)*Ty.sz S e:=Nat.mul_le_mul_right _ (by omega)
                 omega
             · omega
           · exact hl.elim
        · exact hl.elim
       | b8=>
        simp only [qg] at hl
        split at hl
        · rename_i y hy
          obtain ⟨hg,rfl,rfl⟩:=eJ hl
          have hlim:y.length*ai t≤limit:=hg (gd (y.length*ai t≤limit)) (by simp)
          have hB:=wS (.arr e y) (by simp)
          obtain ⟨news,hsrc,hnews⟩:=(zA h hx (qF y hy)).src hP ue
          have ez:a.eval xs= .slice none 0 0:=hs
          have hold:(Builtin.firstCells (Ty.sz S e) 0 (.slice none 0 0)).run P w.drew= .ok (#[]:Array Value) w.drew:=run_firstCells_none _ _ _ _ _
          rcases yc (olds:= []) (ty:=o.type) hP ht hsrc hold (by simp) (Nat.le_refl 0) (by rw [Nat.zero_add]; exact hlim) with ⟨h0,hr⟩ | ⟨h0,hroom,hr⟩ | ⟨c',te,cells,hcap,fI,hcsz,hpre,hr⟩
          · have :y= []:=List.length_eq_zero_iff.1 h0
            subst this
            rw [← ez] at hr
            refine n7 (i:=B) (B:= .arr e []) (V:= .aM B) (L:=⟨0,0,0,0,true⟩) h (hrun hr) hd (aX.refl w _) hB (fun b o' hf=> ?_) (fun hl _ h3=>⟨⟨by simp,fun _=>rfl,Nat.le_refl _,fun j hj=>absurd hj (Nat.not_lt_zero j),fun i x hi=>by simp at hi⟩,⟨⟨none,0,0,ez⟩,fun e' l' hb=> ?_⟩⟩)
             (fun vs hvs=>by rcases hvs with hvs | hvs <;> cases hvs) (fun j hj=> .inl (by simpa [az,ax] using hj)) hK
            · have h1:=hf.2.1; have h2:=hf.2.2; simp at h2
            · rw [aO] at hb
              rcases hb with hb | hb
              · cases hb
                rw [aO]
                exact ⟨none,0,ez,rfl,rfl,by simp,fun _=>rfl,Nat.le_refl _⟩
              · cases hb
          · omega
          · rw [← ez] at hr
            rw [Nat.zero_add] at fI hr
            exact CE (us:= []) (t:=te) (e:=e) (l:=y) (cap:=c') (cells:=cells) (cs:=news) (w1:=w.drew) h hd (Tk.refl S _) hB rfl ⟨rfl,rfl,rfl⟩ (hrun hr) fI hcsz hnews hpre hK
        · exact hl.elim
       | _=>exact hl.elim
     · exact hl.elim
   · exact hl.elim
 · exact hl.elim
theorem KX {α:Type} (z:α) (l:List α) {i m:Int} (h3:i.toNat+m.toNat≤l.length) (h0:0≤i) (h1:0≤m):(tc z l i m).length=l.length:=by
 unfold tc
 simp only [List.length_append,List.length_take,List.length_drop,List.length_replicate]
 omega
theorem QW (hP:aU P S ai) {t:Nat} {e:Ty} (ht:S.ty t=some (.sl e)) {ty:Nat} {ad:Option Addr} {n cap b o':Nat} {news:List Value} (had:n=0∧news= []∨ad=some ⟨b,o',none⟩)
 {te:Nat} {ie:TypeInfo} {z:Value} (hu:P.underlying t=some (.slice te)) (hz: ∀ w,(zeroValue te).run P w= .ok z w) (hn:(Builtin.zeroCells z.cells n).toList=news) (b7:w.there b o' news.length) (h1: ∀ c ∈ news,c.oneCell'=true):
 (Builtin.clear_ #[t] ty #[.slice ad n cap]).run P w= .ok (.tuple #[]) (w.setCells b o' news):=by
 rcases Nat.eq_zero_or_pos n with h0 | h0
 · subst h0
   have :news= []:=by rw [← hn]; simp [Builtin.zeroCells]
   subst this
   cases ad <;> simp [Builtin.clear_,run_underlying hu,Ro]
 · rcases had with ⟨h2,_⟩ | h2
   · omega
   · subst h2
     have hst:=run_storeCells_cells (P:=P) b o' news 0 w (by simpa using fun j hj=>(b7 j hj).1) (by simpa using fun j hj=>(b7 j hj).2) h1
     simp only [Nat.add_zero] at hst
     obtain ⟨m,rfl⟩: ∃ m,n=m+1:=⟨n - 1,by omega⟩
     simp [Builtin.clear_,run_underlying hu,hz,hn,hst]
theorem KW (hP:aU P S ai) (h:Inv P S w0 M0 s0 dq env a w μ) (hd: ∀ d,o.dst=some d→d<a.tmps.size) {c:Call} (ho:o.op= .call c) (hc:c.callee= .builtin .clear) {args:List (Sy.V S.C)} {ids:List Nat}
 (hargs:c.args.toList.mapM (aN S env.tm)=some args)
 (hl:(match args,c.argTypes.toList with
  | [v],[t]=>match dR S t with
   | some e=>zv S e (restrict S env.bx ids) v
   | none=> .fail
  | _,_=> .fail).leaf (V,us)) (hK:Goal P S w0 M0 s0 dq env a o.dst V us K):o.wp P a w K Q:=by
 split at hl
 · rename_i Vs t Ay
   split at hl
   · rename_i e het
     have hone: ∃ x,c.args= #[x]∧aN S env.tm x=some Vs:=by
      have hca:c.args=c.args.toList.toArray:=by simp
      cases e:c.args.toList with
      | nil=>rw [e] at hargs; cases hargs
      | cons x r=>
       rw [e] at hargs
       obtain ⟨y,zs,h1,h2,h3⟩:=kI hargs
       cases h3
       cases r with
       | nil=>exact ⟨x,by rw [hca,e],h1⟩
       | cons x' r'=>
        obtain ⟨y',zs',h4,h5,h6⟩:=kI h2
        cases h6
     obtain ⟨x,Mw,hex⟩:=hone
     obtain ⟨hx,_⟩:=bk h hex
     have ht:=lH het
     have cF:c.argTypes= #[t]:=by
      have :c.argTypes=c.argTypes.toList.toArray:=by simp
      rw [this,Ay]
     unfold zv at hl
     split at hl
     · rename_i b i m _
       split at hl
       · rename_i e' l hb
         have hb:=dQ hb
         split at hl
         · rename_i l' hl'
           obtain ⟨e1,e2⟩:=dB hl'
           cases e1
           dsimp only at e2
           subst e2
           obtain ⟨rfl,rfl⟩:=bl hl
           obtain ⟨hi0,hm0,Ao,ad,cap,AH,Nj,had⟩:=hx.2 e l hb
           obtain ⟨b1,b2,b3,b7,b5⟩:=h.bL b _ hb
           have bN:live S env.bx b:=by unfold live; rw [hb]; trivial
           obtain ⟨te,ie,z,hu,hte,hie,hby,eT,_⟩:=hP.sl ht
           obtain ⟨⟨i',z,h1,h2,h3,h4,h5⟩,_⟩:=hP.ty te _ hte
           obtain ⟨q,hq⟩:=CI (w:=w) hP hte (aE S w0 M0 s0 env.bx μ w)
           obtain ⟨x1,x2,x3⟩:=kz (P:=P) hP.tocz μ env.bx hq
           have Fu:=vi x2 x1
           rw [← h5] at hq Fu
           have NM: ∀ w,(zeroValue te).run P w= .ok z w:=fun w=>by simp [zeroValue,typeInfo,h1,h3]
           have hzs:z.cells.size=Ty.sz S e:=by have :=hq.length S; simpa using this
           obtain ⟨news,hnews⟩: ∃ news,news=(Builtin.zeroCells z.cells m.toNat).toList:=⟨_,rfl⟩
           have E1:cE w (aE S w0 M0 s0 env.bx μ w) e (List.replicate m.toNat (Ty.zero S e)) news:=by
            have :=cE.replicate hq m.toNat
            rw [hnews]
            have e3:Builtin.zeroCells z.cells m.toNat=madeCells z.cells (m.toNat*Ty.sz S e):=by
             unfold Builtin.zeroCells madeCells
             rw [hzs]
            rw [e3]; exact this
           have hnl:news.length=m.toNat*Ty.sz S e:=by have :=E1.1; rwa [List.length_replicate] at this
           have hsum:(i.toNat+m.toNat)*Ty.sz S e=i.toNat*Ty.sz S e+m.toNat*Ty.sz S e:=Nat.add_mul ..
           have hmul:(i.toNat+m.toNat)*Ty.sz S e≤(μ b).cap*Ty.sz S e:=Nat.mul_le_mul_right _ (by omega)
           have e_:w.there (μ b).b ((μ b).o+i.toNat*Ty.sz S e) news.length:=k8 b7 (by omega) (by omega)
           have hno: ∀ c ∈ news,c.oneCell'=true:=by
            intro c hc
            rw [hnews] at hc
            unfold Builtin.zeroCells at hc
            simp only [Array.toList_map,List.mem_map,Array.toList_range,List.mem_range] at hc
            obtain ⟨k,hk,rfl⟩:=hc
            have hp:0<z.cells.size:=by
             rcases Nat.eq_zero_or_pos z.cells.size with h0 | h0
             · rw [h0,Nat.mul_zero] at hk; omega
             · exact h0
            have hlt:=Nat.mod_lt k hp
            rw [getElem!_pos z.cells _ hlt]
            exact Fu _ (by simp)
           have hrun:(execOp a.eval o).run P w= .ok (.value (.tuple #[])) (w.setCells (μ b).b ((μ b).o+i.toNat*Ty.sz S e) news):=by
            have hr:=QW (P:=P) (w:=w) (ty:=o.type) hP ht (ad:=ad) (n:=m.toNat) (cap:=cap) (b:=(μ b).b) (o':=(μ b).o+i.toNat*Ty.sz S e) (news:=news) (te:=te) (ie:=ie) (z:=z) (had.imp (fun h0=>⟨h0,List.length_eq_zero_iff.1 (by rw [hnl,h0,Nat.zero_mul])⟩) id) hu NM hnews.symm e_ hno
            rw [← AH] at hr
            unfold execOp
            simp only [ho]
            simp [resolve,hc,Mw,cF,invoke,builtin,hr]
           have hcl:=KX (Ty.zero S e) l Ao hi0 hm0
           have hI:=h.write (B':= .arr e (tc (Ty.zero S e) l i m)) hb bN (fun _ e=>nomatch e) (o':=(μ b).o+i.toNat*Ty.sz S e) (vals:=news) (by omega) (by omega) ⟨rfl,rfl,hcl⟩ (fun hl lM=>⟨b1,b2,by rw [hcl]; exact b3,rU b7 e_, ?_⟩) (fun ws gw=>by rcases gw with gw | gw <;> cases gw)
           · unfold Oper.wp
             rw [hrun]
             refine hK _ _ μ (hI.put hd (V:= .gm []) (v:= .tuple #[]) ⟨#[],rfl,rfl⟩ (by simp [az])) ?_
             cases o.dst <;> simp [Act.put]
           · have hpl:(List.take i.toNat l).length=i.toNat:=by rw [List.length_take]; omega
             unfold tc
             refine sK (sK (fun k x hk=> ?_) ?_) (fun k x hk=> ?_)
             · rw [List.getElem?_take] at hk
               split at hk
               · rename_i hkn
                 obtain ⟨ds,d1,d2,q,d3⟩:=b5 k x hk
                 refine ⟨ds,d1,rj d2 (.inr (.inl ?_)),q,d3.mono S hl (Nat.le_refl _)⟩
                 have :(k+1)*Ty.sz S e≤i.toNat*Ty.sz S e:=Nat.mul_le_mul_right _ (by omega)
                 rw [Nat.add_mul,Nat.one_mul] at this
                 omega
               · cases hk
             · rw [hpl]
               exact (E1.later hl).row (xJ e_)
             · rw [List.getElem?_drop] at hk
               obtain ⟨ds,d1,d2,q,d3⟩:=b5 _ x hk
               rw [List.length_append,hpl,List.length_replicate,Nat.add_assoc, ← Nat.add_mul]
               have MX:(i+m).toNat=i.toNat+m.toNat:=by omega
               rw [MX] at d2
               refine ⟨ds,d1,rj d2 (.inr (.inr ?_)),q,d3.mono S hl (Nat.le_refl _)⟩
               have :(i.toNat+m.toNat)*Ty.sz S e≤(i.toNat+m.toNat+k)*Ty.sz S e:=Nat.mul_le_mul_right _ (by omega)
               omega
         · exact hl.elim
       · exact hl.elim
     · exact hl.elim
   · exact hl.elim
 · exact hl.elim
end
end Go.Sy
namespace Go.Sy
section
variable {P:Program} {S:aP} {ai:Nat→Nat}
theorem fR.length {w:World} {s:St} : ∀ {M:St} {cs:List CK} {x:bp S.C cs} {vs:List Value},fR S w s M cs x vs→vs.length=CK.bV S cs
 | _,[],_,_,h=>by rw [h.2]; rfl
 | _,c::cs,_,_,⟨M1,M2,v1,v2,h1,h2,h3,h4,h5⟩=>by subst h2; rw [List.length_append,h3,fR.length h5]; rfl
theorem Bg (hS:cz S) {w:World} {s M:St} (gZ id:Nat) {cs:List CK} {x:bp S.C cs} {v:Value} (hne: ∀ i,id≤i→i<(bh S id cs x).2.2→i≠gZ) (L:Loc) (hv:v= .pointer (some ⟨L.b,L.o,none⟩)) (hn:L.n=CK.bV S cs)
 (h:dy S w s M cs x v):
 ∃ lam,lam gZ=L∧id≤(bh S id cs x).2.2∧bO P S w s (fun i=>i=gZ∨(id≤i∧i<(bh S id cs x).2.2)) ((gZ, .cells (bh S id cs x).1)::(bh S id cs x).2.1) lam M:=by
 obtain ⟨b,o,ds,M',dh,b7,iW,hM,hcs⟩:=h
 rw [dh] at hv
 cases hv
 obtain ⟨le,l2,g2,s2,r2,l8⟩:=Ba (P:=P) hS cs id hcs
 have hlen:=fR.length hcs
 have hne: ∀ u ∈ (bh S id cs x).2.1,u.1≠gZ:=fun u hu=>hne _ (g2.eD u hu).1 (g2.eD u hu).2
 let lam:Nat→Loc:=fun i=>if i=gZ then L else l2 i
 have e1:lam gZ=L:=if_pos rfl
 have e2: ∀ u ∈ (bh S id cs x).2.1,lam u.1=l2 u.1:=fun u hu=>if_neg (hne u hu)
 have hag: ∀ μ bx,Agree ((gZ, .cells (bh S id cs x).1)::(bh S id cs x).2.1) lam μ bx→Agree (bh S id cs x).2.1 l2 μ bx:=
  fun μ bx h u hu=>⟨(h u (by simp [hu])).1,(h u (by simp [hu])).2.trans (e2 u hu)⟩
 refine ⟨lam,e1,le,⟨?_, ?_, ?_, ?_, ?_, ?_, ?_⟩⟩
 · intro u hu
   rcases List.mem_cons.1 hu with rfl | hu
   · exact .inl rfl
   · exact .inr (g2.eD u hu)
 · intro u hu u' aL he
   rcases List.mem_cons.1 hu with rfl | hu <;> rcases List.mem_cons.1 aL with rfl | aL
   · rfl
   · exact absurd he.symm (hne u' aL)
   · exact absurd he (hne u hu)
   · exact g2.one u hu u' aL he
 · intro μ bx ha u hu
   rcases List.mem_cons.1 hu with rfl | hu
   · show RB P S w s μ bx (lam gZ) (.cells _)
     rw [e1]
     have hr:=l8 μ bx (hag μ bx ha)
     exact ⟨s2,by rw [hn, ← hlen]; exact aF.length P S hr,by rw [hn, ← hlen]; exact b7,ds,iW,hr⟩
   · rw [e2 u hu]
     exact g2.rb μ bx (hag μ bx ha) u hu
 · intro bx u hu hb
   rcases List.mem_cons.1 hu with rfl | hu
   · unfold live; rw [hb]; trivial
   · exact g2.lv bx u hu hb
 · intro b' o'
   rw [hM.1 b' o',g2.aD]
   constructor
   · rintro (h | ⟨u,hu,hf⟩)
     · refine ⟨_,List.mem_cons_self, ?_⟩
       show (lam gZ).aD b' o'
       rw [e1]; exact ⟨h.1,h.2.1,by rw [hn, ← hlen]; exact h.2.2⟩
     · exact ⟨u,by simp [hu],by rw [e2 u hu]; exact hf⟩
   · rintro ⟨u,hu,hf⟩
     rcases List.mem_cons.1 hu with rfl | hu
     · have hf:(lam gZ).aD b' o':=hf
       rw [e1] at hf; exact .inl ⟨hf.1,hf.2.1,by rw [hlen, ← hn]; exact hf.2.2⟩
     · rw [e2 u hu] at hf; exact .inr ⟨u,hu,hf⟩
 · intro u hu u' aL hn' b' o' hf hf'
   rcases List.mem_cons.1 hu with rfl | hu <;> rcases List.mem_cons.1 aL with rfl | aL
   · exact hn' rfl
   · have hf:(lam gZ).aD b' o':=hf
     rw [e1] at hf; rw [e2 u' aL] at hf'
     exact hM.2 b' o' ⟨hf.1,hf.2.1,by rw [hlen, ← hn]; exact hf.2.2⟩ ((g2.aD b' o').2 ⟨u',aL,hf'⟩)
   · have hf':(lam gZ).aD b' o':=hf'
     rw [e1] at hf'; rw [e2 u hu] at hf
     exact hM.2 b' o' ⟨hf'.1,hf'.2.1,by rw [hlen, ← hn]; exact hf'.2.2⟩ ((g2.aD b' o').2 ⟨u,hu,hf⟩)
   · rw [e2 u hu] at hf; rw [e2 u' aL] at hf'
     exact g2.cM u hu u' aL hn' b' o' hf hf'
 · intro u hu vs hvs v hv j hj
   rcases List.mem_cons.1 hu with rfl | hu
   · rcases hvs with hvs | hvs
     · cases hvs
       obtain ⟨u',aL,he⟩:=r2 v hv j hj
       exact ⟨u',by simp [aL],he⟩
     · cases hvs
   · obtain ⟨u',aL,he⟩:=g2.ref u hu vs hvs v hv j hj
     exact ⟨u',by simp [aL],he⟩
theorem OY (hS:cz S) {w:World} {s M:St} (id:Nat) {k:K} {x:k.den S.C} {v:Value} (h:kj P S w s M k x v) {κ:Sy.V S.C×aH S.C×Nat→Tr (Sy.V S.C×aH S.C)} {p:Sy.V S.C×aH S.C} (hl:(F_ S id k x κ).leaf p):
 ∃ q,(κ q).leaf p∧id≤q.2.2∧q.2.2≤id+lR k∧ ∃ lam,bO P S w s (fun i=>id≤i∧i<q.2.2) q.2.1 lam M∧(∀ j ∈ ax S q.1, ∃ u ∈ q.2.1,u.1=j)∧
  ∀ μ bx,Agree q.2.1 lam μ bx→bq P S w s μ bx q.1 v:=by
 have mC: ∀ (M:St) (n:Nat),fS M→bO P S w s (fun i=>n≤i∧i<n) ([]:aH S.C) (fun _=>⟨0,0,0,0,true⟩) M:=fun M n hM=>bO.nil hM _
 have obj: ∀ (cs:List CK) (y:bp S.C cs),dy S w s M cs y v→(κ (.ptr id 0,(id, .cells (bh S (id+1) cs y).1)::(bh S (id+1) cs y).2.1,(bh S (id+1) cs y).2.2)).leaf p→
  ∃ q,(κ q).leaf p∧id≤q.2.2∧q.2.2≤id+(1+cs.foldl oneMore 0)∧ ∃ lam,bO P S w s (fun i=>id≤i∧i<q.2.2) q.2.1 lam M∧(∀ j ∈ ax S q.1, ∃ u ∈ q.2.1,u.1=j)∧
  ∀ μ bx,Agree q.2.1 lam μ bx→bq P S w s μ bx q.1 v:=by
  intro cs y hy hl
  obtain ⟨lam,g,le,rv⟩:=qS (P:=P) hS id hy
  refine ⟨_,hl,Nat.le_of_lt le, ?_,lam,g,fun j hj=> ?_,rv⟩
  · have :=o_ cs (id+1) y 0
    show (bh S (id+1) cs y).2.2≤_
    omega
  · simp [ax] at hj
    subst hj
    exact ⟨_,List.mem_cons_self,rfl⟩
 cases k with
 | val c=>
  obtain ⟨h1,h2⟩:=h
  cases c with
  | data t=>
   obtain ⟨hM,n,hn⟩:=h1
   exact ⟨_,hl,Nat.le_refl _,Nat.le_refl _,_,mC M id hM,fun j hj=>by simp [ax] at hj,fun μ bx _=>⟨h2,n,hn⟩⟩
  | aW e=>
   obtain ⟨le,lam,g,s1,r1,rv⟩:=xz (P:=P) hS id h1
   refine ⟨_,hl,Nat.le_succ _,Nat.le_refl _,lam,g,fun j hj=>r1 (.aW id e x) (by simp [bS]) j hj,fun μ bx ha=> ?_⟩
   obtain ⟨c,r,hc,hv,hr⟩:=rv μ bx ha
   cases hr
   rw [mW hc h2]
   exact hv
  | aM e=>
   obtain ⟨le,lam,g,s1,r1,rv⟩:=xz (P:=P) hS id h1
   refine ⟨_,hl,Nat.le_succ _,Nat.le_refl _,lam,g,fun j hj=>r1 (.aM id) (by simp [bS]) j hj,fun μ bx ha=> ?_⟩
   obtain ⟨c,r,hc,hv,hr⟩:=rv μ bx ha
   cases hr
   rw [mW hc h2]
   exact hv
 | obj cs=>exact obj cs x h hl
 | opt cs=>
  rcases hl with ⟨hx,hl⟩ | ⟨y,hx,hl⟩
  · subst hx
    exact ⟨_,hl,Nat.le_refl _,Nat.le_add_right _ _,_,mC M id h.1,fun j hj=>by simp [ax] at hj,fun μ bx _=>h.2⟩
  · subst hx
    exact obj cs y h hl
 | bJ t cs=>exact hl.elim
 | err=>exact ⟨_,hl,Nat.le_refl _,Nat.le_refl _,_,mC M id h.1,fun j hj=>by simp [ax] at hj,fun μ bx _=>h.2⟩
 | aV=>
  have h:lq S w M x v:=h
  obtain ⟨b,R,hb,_⟩:=Iff.mp Iff.rfl h
  obtain ⟨lam,e,g⟩:=zh (P:=P) (s:=s) id (id+1) (by omega) ⟨b,0,2,0,false⟩ rfl rfl hb h
  refine ⟨_,hl,by show id≤id+2; omega,Nat.le_refl _,lam,g.weaken fun i hi=>by show id≤i∧i<id+2; omega,fun j hj=> ?_,fun μ bx ha=> ?_⟩
  · simp [ax] at hj
    subst hj
    exact ⟨_,List.mem_cons_self,rfl⟩
  · have a1:=(ha (id, .aV (id+1)) (by simp)).2
    show v= .pointer (some ⟨(μ id).b,(μ id).o+0,none⟩)
    rw [hb,show μ id=lam id from a1,e]
 | nil=>exact ⟨_,hl,Nat.le_refl _,Nat.le_refl _,_,mC M id h.1,fun j hj=>by simp [ax] at hj,fun μ bx _=>h.2⟩
 | ro t=>exact ⟨_,hl,Nat.le_refl _,Nat.le_refl _,_,mC M id h.1,fun j hj=>by simp [ax] at hj,fun μ bx _=>h.2⟩
 | fn a r=>exact ⟨_,hl,Nat.le_refl _,Nat.le_refl _,_,mC M id h.1,fun j hj=>by simp [ax] at hj,fun μ bx _=>h.2⟩
 | bX cs=>
  obtain ⟨p',hv,h⟩:=h
  obtain ⟨lam,g,le,rv⟩:=qS (P:=P) hS id h
  refine ⟨_,hl,Nat.le_of_lt le, ?_,lam,g,fun j hj=> ?_,fun μ bx ha=> ?_⟩
  · have :=o_ cs (id+1) x 0
    show (bh S (id+1) cs x).2.2≤id+(1+cs.foldl oneMore 0)
    omega
  · simp [ax] at hj
    subst hj
    exact ⟨_,List.mem_cons_self,rfl⟩
  · have :Value.pointer (some p')= .pointer (some ⟨(μ id).b,(μ id).o+0,none⟩):=rv μ bx ha
    show v= .slice (some ⟨(μ id).b,(μ id).o,none⟩) (CK.bV S cs) (CK.bV S cs)
    rw [hv]
    cases this
    rfl
theorem Ga (hS:cz S) {w:World} {s:St} {os:List K} : ∀ (rs:List K) {M:St} (id:Nat) {r:Ks S.C (rs++os)} {vs:List Value} {κ:List (Sy.V S.C)×aH S.C×Nat→Rt S} {p:Sy.V S.C×aH S.C},
 bM P S w s M (rs++os) r vs→(xA S id rs (iG S rs os r).1 κ).leaf p→
 ∃ q M1 M2 us ws,(κ q).leaf p∧vs=us++ws∧fT M M1 M2∧bM P S w s M2 os (iG S rs os r).2 ws∧id≤q.2.2∧q.2.2≤id+gx rs∧
  ∃ lam,bO P S w s (fun i=>id≤i∧i<q.2.2) q.2.1 lam M1∧(∀ v ∈ q.1, ∀ j ∈ ax S v, ∃ u ∈ q.2.1,u.1=j)∧ ∀ μ bx,Agree q.2.1 lam μ bx→aF P S w s μ bx q.1 us
 | [],M,id,r,vs,κ,p,h,hl=>⟨_,fun _ _=>False,M,[],vs,hl,rfl,⟨fun b o=>by simp,fun _ _ h=>h.elim⟩,h,Nat.le_refl _,Nat.le_refl _,fun _=>⟨0,0,0,0,true⟩,bO.nil (fun _ _ h=>h) _,by simp,fun _ _ _=>rfl⟩
 | k::rs,M,id,r,vs,κ,p,⟨M1,M2,v,vr,hM,hvs,h1,h2⟩,hl=>by
  have e1:(iG S (k::rs) os r).1=Ks.cons (Ks.head r) (iG S rs os (Ks.tail r)).1:=rfl
  have e2:(iG S (k::rs) os r).2=(iG S rs os (Ks.tail r)).2:=rfl
  rw [e1] at hl
  simp only [xA] at hl
  rw [show Ks.head (Ks.cons (Ks.head r) (iG S rs os (Ks.tail r)).1)=Ks.head (t:=k) (ts:=rs++os) r from by cases rs <;> rfl,
   show Ks.tail (Ks.cons (Ks.head r) (iG S rs os (Ks.tail r)).1)=(iG S rs os (Ks.tail r)).1 from by cases rs <;> rfl] at hl
  obtain ⟨q1,bR,a1,a2,l1,g1,r1,l7⟩:=OY (P:=P) hS id h1 hl
  obtain ⟨q2,N1,N2,us,ws,tQ,b1,b2,b3,b4,b5,l2,g2,r2,l8⟩:=Ga hS rs q1.2.2 h2 bR
  have hsp:fT (fun b o=>M1 b o∨N1 b o) M1 N1:=⟨fun _ _=>Iff.rfl,fun b o x y=>hM.2 b o x (b2.left y)⟩
  obtain ⟨g,hag⟩:=bO.both g1 g2 (fun i hi hi'=>by omega) hsp
  refine ⟨_,fun b o=>M1 b o∨N1 b o,N2,v::us,ws,tQ,by rw [hvs,b1]; rfl,⟨fun b o=> ?_,fun b o x y=> ?_⟩,by rw [e2]; exact b3,Nat.le_trans a1 b4, ?_,_,g.weaken (fun i hi=> ?_),fun v' dh j hj=> ?_,fun μ bx ha=> ?_⟩
  · rw [hM.1,b2.1,or_assoc]
  · rcases x with x | x
    · exact hM.2 b o x (b2.right y)
    · exact b2.2 b o x y
  · show q2.2.2≤id+(lR k+gx rs)
    omega
  · show id≤i∧i<q2.2.2
    omega
  · rcases List.mem_cons.1 dh with rfl | dh
    · obtain ⟨u,hu,he⟩:=r1 j hj; exact ⟨u,List.mem_append.2 (.inl hu),he⟩
    · obtain ⟨u,hu,he⟩:=r2 v' dh j hj; exact ⟨u,List.mem_append.2 (.inr hu),he⟩
  · obtain ⟨h3,h4⟩:=hag μ bx ha
    exact ⟨v,us,rfl,l7 μ bx h3,l8 μ bx h4⟩
end
end Go.Sy
namespace Go.Sy
section
variable {P:Program} {S:aP} {ai:Nat→Nat}
def dV:List K→List Value→List Value
 | [],_=> []
 | _::_,[]=> []
 | k::ks,v::vs=>match k with
  | .obj _ | .aV | .bJ _ _=>v::dV ks vs
  | .val _ | .opt _ | .nil | .ro _ | .fn _ _ | .bX _ | .err=>dV ks vs
def I6 (S:aP) (μ:Nat→Loc) (w:World) (s:St) (t:Ty) (cs:List CK) (V:Sy.V S.C) (v:Value):Prop:=
 ∃ b c kb q,V= .split b c∧v= .pointer (some ⟨kb,q,none⟩)∧(μ b).b=kb∧(μ b).o=q+1∧(μ b).n=CK.bV S cs∧(μ c).n=CK.bV S [.data t]∧s kb q∧w.cell? ⟨kb,q,none⟩=some (.pointer (some ⟨(μ c).b,(μ c).o,none⟩))
def oc (S:aP) (μ:Nat→Loc) (w:World) (s:St):List K→List (Sy.V S.C)→List Value→Prop
 | [],_,_=>True
 | k::ks,V::Vs,v::vs=>(∀ t cs,k= .bJ t cs→I6 S μ w s t cs V v)∧(∀ cs,k= .obj cs→ ∃ b,V= .ptr b 0∧v= .pointer (some ⟨(μ b).b,(μ b).o,none⟩)∧(μ b).n=CK.bV S cs)∧(k= .aV→ ∃ b,V= .ptr b 0∧v= .pointer (some ⟨(μ b).b,(μ b).o,none⟩)∧(μ b).o=0∧(μ b).n=2)∧oc S μ w s ks Vs vs
 | _::_,_,_=>False
theorem oc.later {μ:Nat→Loc} {w w':World} {s:St} (h: ∀ b o,s b o→w'.cell? ⟨b,o,none⟩=w.cell? ⟨b,o,none⟩): ∀ {ks:List K} {Vs:List (Sy.V S.C)} {vs:List Value},oc S μ w s ks Vs vs→oc S μ w' s ks Vs vs
 | [],_,_,_=>trivial
 | _::_,[],_,h1=>h1.elim
 | _::_,_::_,[],h1=>h1.elim
 | k::ks,V::Vs,v::vs,⟨h0,h1,h2,h3⟩=>⟨fun t cs e=>by
  obtain ⟨b,c,kb,q,e1,e2,e3,e4,e5,e6,e7,e8⟩:=h0 t cs e
  exact ⟨b,c,kb,q,e1,e2,e3,e4,e5,e6,e7,(h kb q e7).trans e8⟩,h1,h2,oc.later h h3⟩
theorem wY {bx:Bx S.C} {b:Nat} {B:cZ S.C} (h:pn S B) (hb:bx b=some B):live S bx b:=by
 unfold live
 rw [hb]
 cases B <;> first | exact h.elim | trivial
theorem uI {cs:List CK} {ks:List K} {b off:Nat} {Vs:List (Sy.V S.C)} :cP S (.obj cs::ks) (.ptr b off::Vs)=b::cP S ks Vs:=rfl
theorem Gn {k:K} {ks:List K} {V:Sy.V S.C} {Vs:List (Sy.V S.C)} (h: ∀ cs,k≠ .obj cs) (h':k≠ .aV) (h'': ∀ t cs,k≠ .bJ t cs):cP S (k::ks) (V::Vs)=cP S ks Vs:=by
 cases k <;> first | rfl | exact absurd rfl (h _) | exact absurd rfl h' | exact absurd rfl (h'' _ _)
theorem Pf {k:K} {ks:List K} {v:Value} {vs:List Value} (h: ∀ cs,k≠ .obj cs) (h':k≠ .aV) (h'': ∀ t cs,k≠ .bJ t cs):dV (k::ks) (v::vs)=dV ks vs:=by
 cases k <;> first | rfl | exact absurd rfl (h _) | exact absurd rfl h' | exact absurd rfl (h'' _ _)
theorem jX (hS:cz S) {w:World} {s so:St} {μ:Nat→Loc} : ∀ (ps:List K) {M:St} (id:Nat) {Vs:List (Sy.V S.C)} {args:List Value} {x:Ks S.C (outs ps)},oc S μ w so ps Vs args→(cP S ps Vs).Nodup→
 (∀ b ∈ cP S ps Vs, ∀ i,id≤i→i<id+gx (outs ps)→i≠b)→bM P S w s M (outs ps) x (dV ps args)→
 ∃ lam,bO P S w s (fun i=>i ∈ cP S ps Vs∨(id≤i∧i<id+gx (outs ps))) (ec S id ps Vs x) lam M∧ ∀ b ∈ cP S ps Vs,lam b=μ b∧ ∃ B,pn S B∧(b,B) ∈ ec S id ps Vs x
 | [],M,id,Vs,args,x,_,_,_,h=>⟨fun _=>⟨0,0,0,0,true⟩,by
  have :ec S id [] Vs x= []:=rfl
  rw [this]; exact bO.nil h.1 _,by intro b hb; cases Vs <;> simp [cP] at hb⟩
 | k::ks,M,id,[],_,x,h,_,_,_=>h.elim
 | k::ks,M,id,V::Vs,[],x,h,_,_,_=>h.elim
 | k::ks,M,id,V::Vs,v::args,x,⟨Mf,h0,h0',h1⟩,hnd,hid,h=>by
  by_cases hk: ∃ cs,k= .obj cs
  · obtain ⟨cs,rfl⟩:=hk
    obtain ⟨b,rfl,rfl,hn⟩:=h0 cs rfl
    rw [uI] at hnd hid
    obtain ⟨M1,M2,v',r,hM,hvs,r1,r2⟩:=h
    cases hvs
    obtain ⟨hb,tU⟩:=List.nodup_cons.1 hnd
    have hsum:gx (outs (.obj cs::ks))=1+cs.foldl oneMore 0+gx (outs ks):=rfl
    have hmk:=o_ cs id (Ks.head (t:= .obj cs) x) 0
    rw [hsum] at hid
    obtain ⟨l1,e1,uy,g1⟩:=Bg (P:=P) hS b id (cs:=cs) (x:=Ks.head (t:= .obj cs) x) (fun i hi hi'=>hid b (by simp) i hi (by omega)) (μ b) rfl hn r1
    obtain ⟨l2,g2,p2⟩:=jX hS ks (bh S id cs (Ks.head (t:= .obj cs) x)).2.2 (x:=Ks.tail (t:= .obj cs) x) h1 tU (fun b' hb' i hi hi'=>hid b' (by simp [hb']) i (by omega) (by omega)) r2
    obtain ⟨g,hag⟩:=bO.both g1 g2 (fun i hi hi'=>by
     rcases hi with rfl | hi
     · rcases hi' with hi' | hi'
       · exact hb hi'
       · exact hid i (by simp) i (by omega) (by omega) rfl
     · rcases hi' with hi' | hi'
       · exact hid i (by simp [hi']) i (by omega) (by omega) rfl
       · omega) hM
    have hput:ec S id (.obj cs::ks) (.ptr b 0::Vs) x=((b, .cells (bh S id cs (Ks.head (t:= .obj cs) x)).1)::(bh S id cs (Ks.head (t:= .obj cs) x)).2.1)++ec S (bh S id cs (Ks.head (t:= .obj cs) x)).2.2 ks Vs (Ks.tail (t:= .obj cs) x):=rfl
    rw [hput]
    refine ⟨_,g.weaken fun i hi=> ?_,fun b' hb'=> ?_⟩
    · rw [uI,hsum]
      rcases hi with (rfl | hi) | (hi | hi)
      · exact .inl (by simp)
      · exact .inr (by omega)
      · exact .inl (by simp [hi])
      · exact .inr (by omega)
    · rw [uI] at hb'
      rcases List.mem_cons.1 hb' with rfl | hb'
      · refine ⟨?_,_,(by exact trivial),List.mem_append.2 (.inl List.mem_cons_self)⟩
        unfold both
        rw [if_pos (List.mem_map.2 ⟨_,List.mem_cons_self,rfl⟩)]
        exact e1
      · obtain ⟨p3,vs,p0,p4⟩:=p2 b' hb'
        refine ⟨?_,vs,p0,List.mem_append.2 (.inr p4)⟩
        unfold both
        rw [if_neg]
        · exact p3
        · intro hm
          obtain ⟨u,hu,he⟩:=List.mem_map.1 hm
          rcases g1.eD u hu with h | h
          · rw [he] at h; exact hb (h▸hb')
          · rw [he] at h; exact hid b' (by simp [hb']) b' (by omega) (by omega) rfl
  · have hk: ∀ cs,k≠ .obj cs:=fun cs e=>hk ⟨cs,e⟩
    by_cases hkb:k= .aV
    · subst hkb
      obtain ⟨b,rfl,rfl,hn0,hn⟩:=h0' rfl
      have hov:cP S (.aV::ks) (.ptr b 0::Vs)=b::cP S ks Vs:=rfl
      rw [hov] at hnd hid
      obtain ⟨M1,M2,v',r,hM,hvs,r1,r2⟩:=h
      cases hvs
      obtain ⟨hb,tU⟩:=List.nodup_cons.1 hnd
      have hsum:gx (outs (.aV::ks))=2+gx (outs ks):=rfl
      rw [hsum] at hid
      obtain ⟨l1,e1,g1⟩:=zh (P:=P) (s:=s) b id (fun e=>hid b (by simp) id (Nat.le_refl _) (by omega) e) (μ b) hn0 hn (x:=Ks.head (t:= .aV) x) rfl r1
      obtain ⟨l2,g2,p2⟩:=jX hS ks (id+1) (x:=Ks.tail (t:= .aV) x) h1 tU (fun b' hb' i hi hi'=>hid b' (by simp [hb']) i (by omega) (by omega)) r2
      obtain ⟨g,hag⟩:=bO.both g1 g2 (fun i hi hi'=>by
       rcases hi with rfl | rfl
       · rcases hi' with hi' | hi'
         · exact hb hi'
         · exact hid i (by simp) i (by omega) (by omega) rfl
       · rcases hi' with hi' | hi'
         · exact hid i (by simp [hi']) i (by omega) (by omega) rfl
         · omega) hM
      have hput:ec S id (.aV::ks) (.ptr b 0::Vs) x= [(b, .aV id),(id, .buf (Ks.head (t:= .aV) x))]++ec S (id+1) ks Vs (Ks.tail (t:= .aV) x):=rfl
      rw [hput]
      refine ⟨_,g.weaken fun i hi=> ?_,fun b' hb'=> ?_⟩
      · rw [hov,hsum]
        rcases hi with (rfl | rfl) | (hi | hi)
        · exact .inl (by simp)
        · exact .inr (by omega)
        · exact .inl (by simp [hi])
        · exact .inr (by omega)
      · rw [hov] at hb'
        rcases List.mem_cons.1 hb' with rfl | hb'
        · refine ⟨?_,_,(by exact trivial),List.mem_append.2 (.inl List.mem_cons_self)⟩
          unfold both
          rw [if_pos (List.mem_map.2 ⟨_,List.mem_cons_self,rfl⟩)]
          exact e1
        · obtain ⟨p3,vs,p0,p4⟩:=p2 b' hb'
          refine ⟨?_,vs,p0,List.mem_append.2 (.inr p4)⟩
          unfold both
          rw [if_neg]
          · exact p3
          · intro hm
            obtain ⟨u,hu,he⟩:=List.mem_map.1 hm
            rcases g1.eD u hu with h | h
            · rw [he] at h; exact hb (h▸hb')
            · rw [he] at h; exact hid b' (by simp [hb']) b' (by omega) (by omega) rfl
    by_cases iU: ∃ t cs,k= .bJ t cs
    · obtain ⟨t,cs,rfl⟩:=iU
      obtain ⟨b,c,kb,q,rfl,rfl,eT,fZ,My,MF,_,hcell⟩:=Mf t cs rfl
      have hov:cP S (.bJ t cs::ks) (.split b c::Vs)=c::b::cP S ks Vs:=rfl
      rw [hov] at hnd hid
      obtain ⟨M1,M2,v',r,hM,hvs,r1,r2⟩:=h
      cases hvs
      obtain ⟨b0,o0,p,Ma,Mb,q1,q2,q3,q4,q5⟩:=r1
      cases q1
      have hp:Value.pointer (some p)= .pointer (some ⟨(μ c).b,(μ c).o,none⟩):=by
       have :=(q2 0 _ rfl).1
       rw [Nat.add_zero,hcell] at this
       exact (Option.some.inj this).symm
      obtain ⟨wV,tU⟩:=List.nodup_cons.1 hnd
      obtain ⟨EY,Nn⟩:=List.nodup_cons.1 tU
      have hsum:gx (outs (.bJ t cs::ks))=2+cs.foldl oneMore 0+gx (outs ks):=rfl
      have hmk:=o_ cs id (Ks.head (t:= .bJ t cs) x).2 0
      rw [hsum] at hid
      obtain ⟨l0,e0,Tg,g0⟩:=Bg (P:=P) hS c id (cs:= [.data t]) (x:=(Ks.head (t:= .bJ t cs) x).1) (fun i hi hi'=>hid c (by simp) i hi (by have :i<id:=hi'; omega)) (μ c) hp MF q4
      obtain ⟨l1,e1,uy,g1⟩:=Bg (P:=P) hS b id (cs:=cs) (x:=(Ks.head (t:= .bJ t cs) x).2) (fun i hi hi'=>hid b (by simp) i hi (by omega)) (μ b) (by rw [eT,fZ]) My q5
      obtain ⟨l2,g2,p2⟩:=jX hS ks (bh S id cs (Ks.head (t:= .bJ t cs) x).2).2.2 (x:=Ks.tail (t:= .bJ t cs) x) h1 Nn (fun b' hb' i hi hi'=>hid b' (by simp [hb']) i (by omega) (by omega)) r2
      obtain ⟨EH,S6⟩:=bO.both g0 g1 (fun i hi hi'=>by
       have hi:i=c:=hi.elim (fun e=>e) fun h=>by
        have h1:id≤i:=h.1
        have h2:i<id:=h.2
        omega
       subst hi
       rcases hi' with hi' | hi'
       · subst hi'; exact wV (by simp)
       · exact hid i (by simp) i (by omega) (by omega) rfl) q3
      obtain ⟨g,hag⟩:=bO.both EH g2 (fun i hi hi'=>by
       rcases hi with (rfl | hi) | (rfl | hi)
       · rcases hi' with hi' | hi'
         · exact wV (by simp [hi'])
         · exact hid i (by simp) i (by omega) (by omega) rfl
       · have h1:id≤i:=hi.1
         have h2:i<id:=hi.2
         omega
       · rcases hi' with hi' | hi'
         · exact EY hi'
         · exact hid i (by simp) i (by omega) (by omega) rfl
       · rcases hi' with hi' | hi'
         · exact hid i (by simp [hi']) i (by omega) (by omega) rfl
         · omega) hM
      have hput:ec S id (.bJ t cs::ks) (.split b c::Vs) x=(((c, .cells (bh S id [.data t] (Ks.head (t:= .bJ t cs) x).1).1)::(bh S id [.data t] (Ks.head (t:= .bJ t cs) x).1).2.1)++((b, .cells (bh S id cs (Ks.head (t:= .bJ t cs) x).2).1)::(bh S id cs (Ks.head (t:= .bJ t cs) x).2).2.1))++ec S (bh S id cs (Ks.head (t:= .bJ t cs) x).2).2.2 ks Vs (Ks.tail (t:= .bJ t cs) x):=rfl
      rw [hput]
      refine ⟨_,g.weaken fun i hi=> ?_,fun b' hb'=> ?_⟩
      · rw [hov,hsum]
        rcases hi with ((rfl | hi) | (rfl | hi)) | (hi | hi)
        · exact .inl (by simp)
        · have h1:id≤i:=hi.1
          have h2:i<id:=hi.2
          omega
        · exact .inl (by simp)
        · exact .inr (by omega)
        · exact .inl (by simp [hi])
        · exact .inr (by omega)
      · rw [hov] at hb'
        have S_: ∀ (cR k9:aH S.C) (la lb:Nat→Loc) (i:Nat) (B:cZ S.C),(i,B) ∈ cR→both cR la lb i=la i:=fun cR k9 la lb i B hi=>if_pos (List.mem_map.2 ⟨_,hi,rfl⟩)
        rcases List.mem_cons.1 hb' with rfl | hb'
        · refine ⟨?_,_,(by exact trivial),List.mem_append.2 (.inl (List.mem_append.2 (.inl List.mem_cons_self)))⟩
          unfold both
          rw [if_pos (List.mem_map.2 ⟨_,List.mem_append.2 (.inl List.mem_cons_self),rfl⟩),if_pos (List.mem_map.2 ⟨_,List.mem_cons_self,rfl⟩)]
          exact e0
        · rcases List.mem_cons.1 hb' with rfl | hb'
          · refine ⟨?_,_,(by exact trivial),List.mem_append.2 (.inl (List.mem_append.2 (.inr List.mem_cons_self)))⟩
            unfold both
            rw [if_pos (List.mem_map.2 ⟨_,List.mem_append.2 (.inr List.mem_cons_self),rfl⟩),if_neg]
            · exact e1
            · intro hm
              obtain ⟨u,hu,he⟩:=List.mem_map.1 hm
              rcases g0.eD u hu with h | h
              · rw [he] at h; exact wV (by rw [← h]; simp)
              · rw [he] at h
                have h1:id≤b':=h.1
                have h2:b'<id:=h.2
                omega
          · obtain ⟨p3,vs,p0,p4⟩:=p2 b' hb'
            refine ⟨?_,vs,p0,List.mem_append.2 (.inr p4)⟩
            unfold both
            rw [if_neg]
            · exact p3
            · intro hm
              obtain ⟨u,hu,he⟩:=List.mem_map.1 hm
              rcases EH.eD u hu with (h | h) | (h | h)
              · rw [he] at h; exact wV (by rw [← h]; simp [hb'])
              · rw [he] at h
                have h1:id≤b':=h.1
                have h2:b'<id:=h.2
                omega
              · rw [he] at h; exact EY (h▸hb')
              · rw [he] at h; exact hid b' (by simp [hb']) b' (by omega) (by omega) rfl
    have iU: ∀ t cs,k≠ .bJ t cs:=fun t cs e=>iU ⟨t,cs,e⟩
    rw [Gn hk hkb iU] at hnd hid ⊢
    rw [Pf hk hkb iU] at h
    cases k with
    | aV=>exact absurd rfl hkb
    | obj cs=>exact absurd rfl (hk cs)
    | bJ t cs=>exact absurd rfl (iU t cs)
    | val c=>exact jX hS ks id h1 hnd hid h
    | opt cs=>exact jX hS ks id h1 hnd hid h
    | nil=>exact jX hS ks id h1 hnd hid h
    | ro t=>exact jX hS ks id h1 hnd hid h
    | fn a r=>exact jX hS ks id h1 hnd hid h
    | bX cs=>exact jX hS ks id h1 hnd hid h
    | err=>exact jX hS ks id h1 hnd hid h
theorem Gi {bx:Bx S.C} {b:Nat} {ws vs:List (Sy.V S.C)} {cs:List CK} {y':bp S.C cs} {u':aH S.C} (hb:bx b=some (.cells ws)) (hy':cY S (aq bx b (some .dead)) cs vs=some (y',u'))
 (k1:Tk S bx (av bx ((b, .dead)::u'))):av bx ((b, .dead)::u') b=some .dead:=by
 have hpre:Tk S (aq bx b (some .dead)) (av (aq bx b (some .dead)) u'):=by
  intro i
  by_cases e:i=b
  · -- from the whole step
    subst e
    rcases k1 i with e1 | ⟨e1,_⟩ | ⟨e',l',e1,e2⟩
    · -- unchanged: then it was cells, but the parts' taking leaves cells alone
      exfalso
      rw [hb] at e1
      have : ∀ (cs:List CK) (bx:Bx S.C) (vs:List (Sy.V S.C)) (x:bp S.C cs) (us:aH S.C),cY S bx cs vs=some (x,us)→ ∀ u ∈ us,u.2= .dead∨ ∃ e l,u.2= .bw e l:=by
       intro cs
       induction cs with
       | nil=>intro bx vs x us h; cases h; simp
       | cons c cs ih=>
        intro bx vs x us h
        simp only [cY] at h
        obtain ⟨⟨p,q⟩,h1,h⟩:=Option.bind_eq_some_iff.1 h
        obtain ⟨⟨p',q'⟩,h2,h⟩:=Option.bind_eq_some_iff.1 h
        cases h
        intro u hu
        rcases List.mem_append.1 hu with hu | hu
        · cases c with
          | data t=>
           simp only [dn] at h1
           obtain ⟨z,_,h1⟩:=Option.bind_eq_some_iff.1 h1
           cases h1
           obtain ⟨v,_,hv⟩:=List.mem_flatMap.1 hu
           obtain ⟨e,l,he,_⟩:=cy.cg bx v u hv
           exact .inr ⟨e,l,he⟩
          | aW e=>
           simp only [dn] at h1
           split at h1
           · split at h1
             · obtain ⟨z,_,h1⟩:=Option.bind_eq_some_iff.1 h1
               cases h1
               simp at hu; subst hu; exact .inl rfl
             · cases h1
           · cases h1; simp at hu
           · cases h1
          | aM e=>
           simp only [dn] at h1
           split at h1
           · split at h1
             · obtain ⟨z,_,h1⟩:=Option.bind_eq_some_iff.1 h1
               cases h1
               simp at hu; subst hu; exact .inl rfl
             · cases h1
           · split at h1
             · obtain ⟨z,_,h1⟩:=Option.bind_eq_some_iff.1 h1
               cases h1
               simp at hu; subst hu; exact .inl rfl
             · cases h1
           · cases h1; simp at hu
           · cases h1
        · exact ih _ _ _ _ h2 u hu
      have aL:=this _ _ _ _ _ hy'
      have : ∀ (us:aH S.C) (bx:Bx S.C),(∀ u ∈ us,u.2= .dead∨ ∃ e l,u.2= .bw e l)→(∀ ws,bx i≠some (.cells ws))→ ∀ ws,av bx us i≠some (.cells ws):=by
       intro us
       induction us with
       | nil=>intro bx _ h; exact h
       | cons u us ih=>
        intro bx hu h
        refine ih _ (fun u' aL=>hu u' (by simp [aL])) fun ws=> ?_
        by_cases e:i=u.1
        · rw [e,aO]
          rcases hu u (by simp) with h | ⟨_,_,h⟩ <;> rw [h] <;> simp
        · rw [aZ _ _ e]; exact h ws
      exact this u' (aq bx i (some .dead)) aL (by intro ws; rw [aO]; simp) _ e1
    · exact .inl (e1.trans (aO _ _ _).symm)
    · rw [hb] at e1; cases e1
  · rcases k1 i with e1 | ⟨e1,h2⟩ | ⟨e',l',e1,e2⟩
    · exact .inl (e1.trans (aZ _ _ e).symm)
    · exact .inr (.inl ⟨e1,(dF S (aZ _ _ e)).2 h2⟩)
    · exact .inr (.inr ⟨e',l',(aZ _ _ e).trans e1,e2⟩)
 exact ng hpre (aO _ _ _)
theorem RT {fs:List (fA S)} {bx:Bx S.C} {cs:List CK} {b:Nat} :bQ S fs bx (.obj cs) (.ptr b 0)=eY S bx cs b:=by
 simp only [bQ,eY]
 cases hb:bx b with
 | none=>rfl
 | some B=>cases B <;> rfl
theorem HP {bx:Bx S.C} {cs:List CK} {b:Nat} {y:bp S.C cs} {us:aH S.C} (h:eY S bx cs b=some (y,us)) (hk:Tk S bx (av bx us)):
 (∃ ws,bx b=some (.cells ws)∧ws.length=CK.bV S cs)∧av bx us b=some .dead:=by
 unfold eY at h
 split at h
 · rename_i ws hb
   cases hw:Nat.beq ws.length (CK.bV S cs) with
   | false=>rw [hw] at h; cases h
   | true=>
    rw [hw,cond_true] at h
    obtain ⟨⟨y',u'⟩,hy',h⟩:=Option.bind_eq_some_iff.1 h
    cases h
    exact ⟨⟨ws,hb,Nat.eq_of_beq_eq_true hw⟩,Gi hb hy' hk⟩
 · cases h
theorem HN {env:Env S.C} {w:World} {s s':St} {μ:Nat→Loc} {fs:List (fA S)} (hn: ∀ i B,env.bx i=some B→RB P S w s μ env.bx (μ i) B):
 ∀ (ks:List K) {bx:Bx S.C} (hk:Tk S env.bx bx) (hks: ∀ (ks:List K) (bx:Bx S.C) (hk:Tk S env.bx bx) (Vs:List (Sy.V S.C)) (args:List Value) (x:Ks S.C ks) (us:aH S.C),ep P S w s' μ env.bx Vs args→dx S fs bx ks Vs=some (x,us)→Tk S bx (av bx us))
  {Vs:List (Sy.V S.C)} {args:List Value} {x:Ks S.C ks} {us:aH S.C},ep P S w s' μ env.bx Vs args→dx S fs bx ks Vs=some (x,us)→
 oc S μ w s' ks Vs args∧(cP S ks Vs).Nodup∧ ∀ b ∈ cP S ks Vs,(∃ B,pn S B∧bx b=some B)∧av bx us b=some .dead
 | [],bx,hk,hks,[],args,x,us,h,hx=>⟨trivial,by simp [cP],by simp [cP]⟩
 | [],_,_,_,_::_,_,_,_,_,hx=>by cases hx
 | _::_,_,_,_,[],_,_,_,_,hx=>by cases hx
 | k::ks,bx,hk,hks,V::Vs,args,x,us,⟨v,r,hargs,h1,h2⟩,hx=>by
  subst hargs
  simp only [dx] at hx
  obtain ⟨⟨y,u1⟩,hy,hx⟩:=Option.bind_eq_some_iff.1 hx
  obtain ⟨⟨z,u2⟩,hz,hx⟩:=Option.bind_eq_some_iff.1 hx
  cases hx
  have hone:dx S fs bx [k] [V]=some (Ks.cons (t:=k) (ts:= []) y (),u1++ []):=by
   simp only [dx]
   rw [hy]; rfl
  have k1:=hks [k] bx hk [V] [v] _ _ ⟨v,[],rfl,h1,rfl⟩ hone
  rw [List.append_nil] at k1
  have k2:=hks ks _ (hk.trans S k1) Vs r _ _ h2 hz
  obtain ⟨o1,o2,o3⟩:=HN hn ks (hk.trans S k1) hks h2 hz
  by_cases tV: ∃ cs,k= .obj cs
  · obtain ⟨cs,rfl⟩:=tV
    simp only [bQ] at hy
    split at hy
    · rename_i b off
      split at hy
      · rename_i ws hb
        cases hw:Nat.beq off 0&&Nat.beq ws.length (CK.bV S cs) with
        | false=>rw [hw] at hy; cases hy
        | true=>
         rw [hw,cond_true] at hy
         rw [Bool.and_eq_true] at hw
         have w1:=Nat.eq_of_beq_eq_true hw.1
         have w2:=Nat.eq_of_beq_eq_true hw.2
         subst w1
         obtain ⟨⟨y',u'⟩,hy',hy⟩:=Option.bind_eq_some_iff.1 hy
         cases hy
         have hlb:live S bx b:=by unfold live; rw [hb]; trivial
         have hb0:env.bx b=some (.cells ws):=(hk.di hlb).symm.trans hb
         have hrb:=hn b _ hb0
         have iT:av bx ((b, .dead)::u') b=some .dead:=Gi hb hy' k1
         have hv:v= .pointer (some ⟨(μ b).b,(μ b).o+0,none⟩):=h1
         refine ⟨⟨(fun t' cs' e=>nomatch e),fun cs' e=> ?_,(fun e=>nomatch e),o1⟩, ?_, ?_⟩
         · cases e
           exact ⟨b,rfl,hv,by rw [hrb.2.1,w2]⟩
         · rw [uI]
           refine List.nodup_cons.2 ⟨fun hm=> ?_,o2⟩
           obtain ⟨lf,hh,hw'⟩:=(o3 b hm).1
           rw [iT] at hw'
           cases hw'
           exact hh
         · rw [uI,gG]
           intro b' hb'
           rcases List.mem_cons.1 hb' with rfl | hb'
           · exact ⟨⟨_,(by exact trivial),hb⟩,ng k2 iT⟩
           · obtain ⟨⟨lf,hh,hw'⟩,h'⟩:=o3 b' hb'
             have hl':live S (av bx ((b, .dead)::u')) b':=wY hh hw'
             exact ⟨⟨lf,hh,by rw [← k1.di hl']; exact hw'⟩,h'⟩
      · cases hy
    · cases hy
  · have tV: ∀ cs,k≠ .obj cs:=fun cs e=>tV ⟨cs,e⟩
    by_cases hkb:k= .aV
    · subst hkb
      simp only [bQ] at hy
      split at hy
      · split at hy
        · split at hy
          · rename_i b off _ j hb _ l hj
            cases hw:Nat.beq off 0 with
            | false=>rw [hw] at hy; cases hy
            | true=>
             rw [hw] at hy
             cases hy
             have ho:=Nat.eq_of_beq_eq_true hw
             subst ho
             have hne:j≠b:=fun e=>by subst e; rw [hb] at hj; cases hj
             have hlb:live S bx b:=by unfold live; rw [hb]; trivial
             have hb0:env.bx b=some (.aV j):=(hk.di hlb).symm.trans hb
             have hrb:=hn b _ hb0
             have iT:av bx [(b, .dead),(j, .dead)] b=some .dead:=(aZ _ _ hne.symm).trans (aO _ _ _)
             have hv:v= .pointer (some ⟨(μ b).b,(μ b).o+0,none⟩):=h1
             have hov:cP S (.aV::ks) (.ptr b 0::Vs)=b::cP S ks Vs:=rfl
             refine ⟨⟨(fun t' cs' e=>nomatch e),(fun cs' e=>nomatch e),fun _=>⟨b,rfl,hv,hrb.1,hrb.2.1⟩,o1⟩, ?_, ?_⟩
             · rw [hov]
               refine List.nodup_cons.2 ⟨fun hm=> ?_,o2⟩
               obtain ⟨lf,hh,hw'⟩:=(o3 b hm).1
               rw [iT] at hw'
               cases hw'
               exact hh
             · rw [hov,gG]
               intro b' hb'
               rcases List.mem_cons.1 hb' with rfl | hb'
               · exact ⟨⟨_,(by exact trivial),hb⟩,ng k2 iT⟩
               · obtain ⟨⟨lf,hh,hw'⟩,h'⟩:=o3 b' hb'
                 have hl':live S (av bx [(b, .dead),(j, .dead)]) b':=wY hh hw'
                 exact ⟨⟨lf,hh,by rw [← k1.di hl']; exact hw'⟩,h'⟩
          · cases hy
        · cases hy
      · cases hy
    by_cases iU: ∃ t cs,k= .bJ t cs
    · obtain ⟨t,cs,rfl⟩:=iU
      simp only [bQ] at hy
      split at hy
      · rename_i b c
        obtain ⟨⟨ya,ua⟩,AI,hy⟩:=Option.bind_eq_some_iff.1 hy
        obtain ⟨⟨yb,ub⟩,AJ,hy⟩:=Option.bind_eq_some_iff.1 hy
        cases hy
        dsimp only at AI AJ
        have Ft: ∀ (bx:Bx S.C) (cs:List CK) (i:Nat) (y:bp S.C cs) (u:aH S.C),Tk S env.bx bx→eY S bx cs i=some (y,u)→Tk S bx (av bx u):=fun bx cs i y u MY h0=>by
         have :=hks [.obj cs] bx MY [.ptr i 0] [.pointer (some ⟨(μ i).b,(μ i).o+0,none⟩)] (Ks.cons (t:= .obj cs) (ts:= []) y ()) (u++ []) ⟨_,_,rfl,rfl,rfl⟩ (by
          simp only [dx]
          rw [RT,h0]; rfl)
         rwa [List.append_nil] at this
        have ka:=Ft bx _ _ _ _ hk AI
        have kb':=Ft _ _ _ _ _ (hk.trans S ka) AJ
        obtain ⟨⟨wa,hca,hla⟩,hda⟩:=HP AI ka
        obtain ⟨⟨wb,hcb,hlb⟩,hdb⟩:=HP AJ kb'
        have Nd:live S (av bx ua) b:=by unfold live; rw [hcb]; trivial
        have Ag:bx b=some (.cells wb):=(ka.di Nd).symm.trans hcb
        have Ng:live S bx c:=by unfold live; rw [hca]; trivial
        have Nf:live S bx b:=by unfold live; rw [Ag]; trivial
        have hne:c≠b:=fun e=>by subst e; rw [hda] at hcb; cases hcb
        have hc0:env.bx c=some (.cells wa):=(hk.di Ng).symm.trans hca
        have hb0:env.bx b=some (.cells wb):=(hk.di Nf).symm.trans Ag
        obtain ⟨kb,q,e1,e2,e3,e4⟩:=h1
        have cF:=e2 0 _ rfl
        rw [Nat.add_zero] at cF
        have hov:cP S (.bJ t cs::ks) (.split b c::Vs)=c::b::cP S ks Vs:=rfl
        have E4:av bx (ua++ub) c=some .dead:=by rw [gG]; exact ng kb' hda
        have E3:av bx (ua++ub) b=some .dead:=by rw [gG]; exact hdb
        have hout: ∀ i ∈ cP S ks Vs,av bx (ua++ub) i≠some .dead:=fun i hi he=>by
         obtain ⟨lf,hh,hw'⟩:=(o3 i hi).1
         rw [he] at hw'
         cases hw'
         exact hh
        refine ⟨⟨fun t' cs' e=> ?_,(fun cs' e=>nomatch e),(fun e=>nomatch e),o1⟩, ?_, ?_⟩
        · cases e
          exact ⟨b,c,kb,q,rfl,e1,e3,e4,by rw [(hn b _ hb0).2.1,hlb],by rw [(hn c _ hc0).2.1,hla],cF.2,cF.1⟩
        · rw [hov]
          refine List.nodup_cons.2 ⟨fun hm=> ?_,List.nodup_cons.2 ⟨fun hm=>hout b hm E3,o2⟩⟩
          rcases List.mem_cons.1 hm with e | hm
          · exact hne e
          · exact hout c hm E4
        · rw [hov,gG]
          intro b' hb'
          rcases List.mem_cons.1 hb' with rfl | hb'
          · exact ⟨⟨_,(by exact trivial),hca⟩,ng k2 E4⟩
          · rcases List.mem_cons.1 hb' with rfl | hb'
            · exact ⟨⟨_,(by exact trivial),Ag⟩,ng k2 E3⟩
            · obtain ⟨⟨lf,hh,hw'⟩,h'⟩:=o3 b' hb'
              have hl':live S (av bx (ua++ub)) b':=wY hh hw'
              exact ⟨⟨lf,hh,by rw [← k1.di hl']; exact hw'⟩,h'⟩
      · cases hy
    have iU: ∀ t cs,k≠ .bJ t cs:=fun t cs e=>iU ⟨t,cs,e⟩
    rw [Gn tV hkb iU,gG]
    refine ⟨⟨fun t cs e=>absurd e (iU t cs),fun cs e=>absurd e (tV cs),fun e=>absurd e hkb,o1⟩,o2,fun b' hb'=> ?_⟩
    obtain ⟨⟨lf,hh,hw'⟩,h'⟩:=o3 b' hb'
    have hl':live S (av bx u1) b':=wY hh hw'
    exact ⟨⟨lf,hh,by rw [← k1.di hl']; exact hw'⟩,h'⟩
end
end Go.Sy
namespace Go.Sy
section
variable {P:Program} {S:aP} {ai:Nat→Nat}
variable {w0:World} {M0 s0:St} {dq:List Deferred} {env:Env S.C} {a:Act} {w:World} {μ:Nat→Loc}
theorem bq.mono {w w':World} {s s':St} {μ:Nat→Loc} {bx:Bx S.C} (hl:bI w s w' s') {V:V S.C} {v:Value} (h:bq P S w s μ bx V v):bq P S w' s' μ bx V v:=by
 cases V with
 | d t x=>exact bU.mono S hl h
 | aW b e l=>exact ⟨bU.mono S hl h.1,h.2⟩
 | cN t x=>exact kn.mono S hl h
 | fv a r g=>exact ki.mono P S hl h
 | split b c=>obtain ⟨k,q,h1,h2,h3⟩:=h; exact ⟨k,q,h1,h2.later hl,h3⟩
 | jY c=>obtain ⟨k,q,h1,h2⟩:=h; exact ⟨k,q,h1,h2.later hl⟩
 | _=>exact h
theorem aF.mono {w w':World} {s s':St} {μ:Nat→Loc} {bx:Bx S.C} (hl:bI w s w' s'): ∀ {vs:List (V S.C)} {cs:List Value},aF P S w s μ bx vs cs→aF P S w' s' μ bx vs cs
 | [],_,h=>h
 | _::_,_,⟨c,r,h1,h2,h3⟩=>⟨c,r,h1,h2.mono hl,aF.mono hl h3⟩
theorem RB.mono {w:World} {s s':St} {μ:Nat→Loc} {bx:Bx S.C} (hl:bI w s w s') {L:Loc} {B:cZ S.C} (h:RB P S w s μ bx L B):RB P S w s' μ bx L B:=by
 cases B with
 | cells vs=>
  obtain ⟨h1,h2,h3,cs,h4,h5⟩:=h
  exact ⟨h1,h2,h3,cs,h4,h5.mono hl⟩
 | bG vs=>
  obtain ⟨h1,cs,h4,h5⟩:=h
  exact ⟨h1,cs,h4.later hl,h5.mono hl⟩
 | arr e l=>
  obtain ⟨h1,h2,h3,h4,h5⟩:=h
  refine ⟨h1,h2,h3,h4,fun i x hi=> ?_⟩
  obtain ⟨ds,d1,d2,n,d3⟩:=h5 i x hi
  exact ⟨ds,d1,d2,n,d3.mono S hl (Nat.le_refl _)⟩
 | bw e l=>
  obtain ⟨h2,h3,h5⟩:=h
  refine ⟨h2,h3,fun i x hi=> ?_⟩
  obtain ⟨ds,d1,d2,n,d3⟩:=h5 i x hi
  exact ⟨ds,d1,d2.later hl,n,d3.mono S hl (Nat.le_refl _)⟩
 | tail=>exact h
 | dead=>trivial
 | aV j=>exact h
 | buf l=>exact h
def DF (us:aH S.C):Prop:= ∀ u ∈ us,u.2= .dead∨ ∃ e l,u.2= .bw e l
theorem DF.append {us vs:aH S.C} (h:DF us) (h':DF vs):DF (us++vs):=fun u hu=>(List.mem_append.1 hu).elim (h u) (h' u)
theorem DF.fz {bx:Bx S.C} {us:aH S.C} (h:cy bx us):DF us:=fun u hu=>by obtain ⟨e,l,he,_⟩:=h u hu; exact .inr ⟨e,l,he⟩
theorem DF.dn {bx:Bx S.C} {c:CK} {vs:List (Sy.V S.C)} {x:c.den S.C} {us:aH S.C} (h1:dn S bx c vs=some (x,us)):DF us:=by
 intro u hu
 cases c with
 | data t=>
  simp only [Sy.dn] at h1
  obtain ⟨z,_,h1⟩:=Option.bind_eq_some_iff.1 h1
  cases h1
  obtain ⟨v,_,hv⟩:=List.mem_flatMap.1 hu
  obtain ⟨e,l,he,_⟩:=cy.cg bx v u hv
  exact .inr ⟨e,l,he⟩
 | aW e=>
  simp only [Sy.dn] at h1
  split at h1
  · split at h1
    · obtain ⟨z,_,h1⟩:=Option.bind_eq_some_iff.1 h1
      cases h1
      simp at hu; subst hu; exact .inl rfl
    · cases h1
  · cases h1; simp at hu
  · cases h1
 | aM e=>
  simp only [Sy.dn] at h1
  split at h1
  · split at h1
    · obtain ⟨z,_,h1⟩:=Option.bind_eq_some_iff.1 h1
      cases h1
      simp at hu; subst hu; exact .inl rfl
    · cases h1
  · split at h1
    · obtain ⟨z,_,h1⟩:=Option.bind_eq_some_iff.1 h1
      cases h1
      simp at hu; subst hu; exact .inl rfl
    · cases h1
  · cases h1; simp at hu
  · cases h1
theorem DF.cY: ∀ {cs:List CK} {bx:Bx S.C} {vs:List (Sy.V S.C)} {x:bp S.C cs} {us:aH S.C},cY S bx cs vs=some (x,us)→DF us
 | [],_,_,_,_,h=>by cases h; intro u hu; simp at hu
 | c::cs,bx,vs,x,us,h=>by
  simp only [Sy.cY] at h
  obtain ⟨⟨p,q⟩,h1,h⟩:=Option.bind_eq_some_iff.1 h
  obtain ⟨⟨p',q'⟩,h2,h⟩:=Option.bind_eq_some_iff.1 h
  cases h
  exact (DF.dn h1).append (DF.cY h2)
theorem DF.eY {cs:List CK} {bx:Bx S.C} {b:Nat} {x:bp S.C cs} {us:aH S.C} (hx:eY S bx cs b=some (x,us)):DF us:=by
 unfold Sy.eY at hx
 split at hx
 · rename_i ws hb
   cases hw:Nat.beq ws.length (CK.bV S cs) with
   | false=>rw [hw] at hx; cases hx
   | true=>
    rw [hw,cond_true] at hx
    obtain ⟨⟨y,u'⟩,hy,hx⟩:=Option.bind_eq_some_iff.1 hx
    cases hx
    intro u hu
    rcases List.mem_cons.1 hu with rfl | hu
    · exact .inl rfl
    · exact DF.cY hy u hu
 · cases hx
theorem DF.bQ {fs:List (fA S)} {bx:Bx S.C} {k:K} {V:Sy.V S.C} {x:k.den S.C} {us:aH S.C} (hx:bQ S fs bx k V=some (x,us)):DF us:=by
 have obj: ∀ (b:Nat) (us':aH S.C),DF us'→DF ((b, .dead)::us'):=fun b us' h u hu=>by
  rcases List.mem_cons.1 hu with rfl | hu
  · exact .inl rfl
  · exact h u hu
 cases k with
 | val c=>
  cases c with
  | data t=>
   simp only [Sy.bQ] at hx
   obtain ⟨y,hy,hx⟩:=Option.bind_eq_some_iff.1 hx
   cases hx
   exact DF.fz (cy.cJ bx V)
  | aW e=>exact DF.dn (c:= .aW e) hx
  | aM e=>exact DF.dn (c:= .aM e) hx
 | obj ps=>
  simp only [Sy.bQ] at hx
  split at hx
  · split at hx
    · rename_i b off _ ws hb
      cases hw:Nat.beq off 0&&Nat.beq ws.length (CK.bV S ps) with
      | false=>rw [hw] at hx; cases hx
      | true=>
       rw [hw,cond_true] at hx
       obtain ⟨⟨y,u'⟩,hy,hx⟩:=Option.bind_eq_some_iff.1 hx
       cases hx
       exact obj _ _ (DF.cY hy)
    · cases hx
  · cases hx
 | bJ t ps=>
  simp only [Sy.bQ] at hx
  split at hx
  · obtain ⟨⟨y,u1⟩,hy,hx⟩:=Option.bind_eq_some_iff.1 hx
    obtain ⟨⟨z,u2⟩,hz,hx⟩:=Option.bind_eq_some_iff.1 hx
    cases hx
    exact (DF.eY hy).append (DF.eY hz)
  · cases hx
 | opt ps=>
  simp only [Sy.bQ] at hx
  split at hx
  · cases hx; intro u hu; simp at hu
  · split at hx
    · rename_i b off _ ws hb
      cases hw:Nat.beq off 0&&Nat.beq ws.length (CK.bV S ps) with
      | false=>rw [hw] at hx; cases hx
      | true=>
       rw [hw,cond_true] at hx
       obtain ⟨⟨y,u'⟩,hy,hx⟩:=Option.bind_eq_some_iff.1 hx
       cases hx
       exact obj _ _ (DF.cY hy)
    · cases hx
  · cases hx
 | bX ps=>
  simp only [Sy.bQ] at hx
  split at hx
  · split at hx
    · rename_i b n _ ws hb
      cases hw:Nat.beq n ws.length&&Nat.beq ws.length (CK.bV S ps) with
      | false=>rw [hw] at hx; cases hx
      | true=>
       rw [hw,cond_true] at hx
       obtain ⟨⟨y,u'⟩,hy,hx⟩:=Option.bind_eq_some_iff.1 hx
       cases hx
       exact obj _ _ (DF.cY hy)
    · cases hx
  · cases hx
 | err=>
  simp only [Sy.bQ] at hx
  split at hx
  · cases hx; intro u hu; simp at hu
  · cases hx
 | aV=>
  simp only [Sy.bQ] at hx
  split at hx
  · split at hx
    · split at hx
      · rename_i b off _ j hb _ l hj
        cases hw:Nat.beq off 0 with
        | false=>rw [hw] at hx; cases hx
        | true=>
         rw [hw] at hx
         cases hx
         intro u hu
         simp only [List.mem_cons,List.not_mem_nil,or_false] at hu
         rcases hu with rfl | rfl <;> exact .inl rfl
      · cases hx
    · cases hx
  · cases hx
 | nil=>
  simp only [Sy.bQ] at hx
  split at hx
  · cases hx; intro u hu; simp at hu
  · cases hx
 | ro t=>
  simp only [Sy.bQ] at hx
  obtain ⟨y,hy,hx⟩:=Option.bind_eq_some_iff.1 hx
  cases hx; intro u hu; simp at hu
 | fn A R=>
  simp only [Sy.bQ] at hx
  obtain ⟨y,hy,hx⟩:=Option.bind_eq_some_iff.1 hx
  cases hx; intro u hu; simp at hu
theorem DF.dx {fs:List (fA S)} : ∀ {ks:List K} {bx:Bx S.C} {Vs:List (Sy.V S.C)} {x:Ks S.C ks} {us:aH S.C},dx S fs bx ks Vs=some (x,us)→DF us
 | [],_,[],_,_,h=>by cases h; intro u hu; simp at hu
 | [],_,_::_,_,_,h=>by cases h
 | _::_,_,[],_,_,h=>by cases h
 | k::ks,bx,V::Vs,x,us,h=>by
  simp only [Sy.dx] at h
  obtain ⟨⟨p,q⟩,h1,h⟩:=Option.bind_eq_some_iff.1 h
  obtain ⟨⟨p',q'⟩,h2,h⟩:=Option.bind_eq_some_iff.1 h
  cases h
  exact (DF.bQ h1).append (DF.dx h2)
theorem xl {i:Nat} : ∀ {us:aH S.C} {bx iK:Bx S.C} (eA:Bool),(bx i=some .dead→iK i=some .dead)→av bx us i=some .dead→av iK (ig S eA us) i=some .dead
 | [],bx,iK,eA,h,hu=>by
  have :ig S eA ([]:aH S.C)= []:=by cases eA <;> rfl
  rw [this]; exact h hu
 | u::us,bx,iK,true,h,hu=>xl (us:=us) (bx:=aq bx u.1 (some u.2)) (iK:=aq iK u.1 (some u.2)) true (fun hi=>by
  by_cases e:i=u.1
  · rw [e,aO] at hi ⊢; exact hi
  · rw [aZ _ _ e] at hi ⊢; exact h hi) hu
 | (k,B)::us,bx,iK,false,h,hu=>by
  have keep:av iK ((k,B)::ig S false us) i=some .dead:=xl (us:=us) (bx:=aq bx k (some B)) (iK:=aq iK k (some B)) false (fun hi=>by
   by_cases e:i=k
   · rw [e,aO] at hi ⊢; exact hi
   · rw [aZ _ _ e] at hi ⊢; exact h hi) hu
  cases B with
  | bw e l=>
   refine xl (us:=us) (bx:=aq bx k (some (.bw e l))) (iK:=iK) false (fun hi=> ?_) hu
   by_cases e:i=k
   · rw [e,aO] at hi
     cases hi
   · rw [aZ _ _ e] at hi; exact h hi
  | _=>exact keep
theorem Il {i:Nat} : ∀ {us:aH S.C} {bx:Bx S.C},(∀ u ∈ us,u.2= .dead)→av bx us i=bx i∨av bx us i=some .dead
 | [],_,_=> .inl rfl
 | u::us,bx,h=>by
  rcases Il (us:=us) (bx:=aq bx u.1 (some u.2)) (fun v hv=>h v (by simp [hv])) with h1 | h1
  · by_cases e:i=u.1
    · right; show av (aq bx u.1 (some u.2)) us i=_
      rw [h1,e,aO,h u (by simp)]
    · left; show av (aq bx u.1 (some u.2)) us i=_
      rw [h1,aZ _ _ e]
  · exact .inr h1
theorem N4 {us:aH S.C} (h:DF us) (eA:Bool) (bx:Bx S.C) (i:Nat):
 av bx (ig S eA us) i=bx i∨av bx (ig S eA us) i=some .dead∨(eA=true∧av bx (ig S eA us) i=av bx us i):=by
 cases eA with
 | true=>exact .inr (.inr ⟨rfl,rfl⟩)
 | false=>
  rcases Il (i:=i) (us:=ig S false us) (bx:=bx) (fun u hu=>by
   unfold ig at hu
   rw [cond_false,List.mem_filter] at hu
   rcases h u hu.1 with h1 | ⟨e,l,h1⟩
   · exact h1
   · rw [h1] at hu; exact absurd hu.2 (by simp)) with h1 | h1
  · exact .inl h1
  · exact .inr (.inl h1)
theorem Inv.call (h:Inv P S w0 M0 s0 dq env a w μ) {cR gs:aH S.C} {eA:Bool} {M M' s':St} {w':World} {lam:Nat→Loc} {I:Nat→Prop} {Ai:List Nat}
 (hdf:DF cR) (hk:Tk S env.bx (av env.bx cR)) (hM:bT S env μ env.bx (av env.bx cR) M) (hw:aX w w' M)
 (hs': ∀ b o,s' b o→b<w'.heap.size∧ ¬ M' b o∧(bW S w0 M0 s0 env.bx (av env.bx cR) μ w b o∨M b o∨w.heap.size≤b))
 (ni: ∀ b o,M' b o→M b o∨w.heap.size≤b) (hG:bO P S w' s' I gs lam M') (hI: ∀ i,I i→i ∈ Ai∨env.bx i=none)
 (hh: ∀ b ∈ Ai,(∃ B,pn S B∧env.bx b=some B)∧lam b=μ b∧ ∃ B,pn S B∧(b,B) ∈ gs) (hl:eA=true∨ ∀ b o, ¬ s' b o):
 ∃ μ',Inv P S w0 M0 s0 dq { env with bx:=av env.bx (ig S eA cR++gs) } a w' μ'∧bI w' s' w' (aE S w0 M0 s0 (av env.bx (ig S eA cR++gs)) μ' w')∧
  Agree gs lam μ' (av env.bx (ig S eA cR++gs)):=by
 rw [gG]
 generalize Af:av env.bx (ig S eA cR)=dA
 let μ':Nat→Loc:=fun i=>if i ∈ gs.map (·.1) then lam i else μ i
 have hin: ∀ u ∈ gs,av dA gs u.1=some u.2∧μ' u.1=lam u.1:=fun u hu=>⟨yM gs dA hG.one u hu,if_pos (List.mem_map.2 ⟨u,hu,rfl⟩)⟩
 have hout: ∀ i,(∀ u ∈ gs,u.1≠i)→av dA gs i=dA i∧μ' i=μ i:=fun i hi=>⟨rZ gs dA hi,if_neg fun hm=>by
  obtain ⟨u,hu,he⟩:=List.mem_map.1 hm; exact hi u hu he⟩
 have eT: ∀ i,dA i=env.bx i∨dA i=some .dead∨(eA=true∧dA i=av env.bx cR i):=fun i=>by rw [← Af]; exact N4 hdf eA env.bx i
 have iT: ∀ i,av env.bx cR i=some .dead→dA i=some .dead:=fun i hi=>by rw [← Af]; exact xl eA (fun h=>h) hi
 have hlv: ∀ i,live S dA i→dA i=env.bx i∧live S env.bx i:=fun i hi=>by
  have h1:dA i=env.bx i:=by
   rcases eT i with h1 | h1 | ⟨_,h1⟩
   · exact h1
   · unfold live at hi; rw [h1] at hi; exact hi.elim
   · rw [h1]; exact hk.di ((dF S h1).1 hi)
  exact ⟨h1,(dF S h1).1 hi⟩
 let U:Nat→Prop:=fun i=>(∃ u ∈ gs,u.1=i)∨dA i≠env.bx i
 have qD: ∀ b o,M b o→ ∃ i,live S env.bx i∧dA i=some .dead∧(μ i).aD b o:=fun b o hm=>by
  obtain ⟨i,h1,_,h3,h4⟩:=hM b o hm
  exact ⟨i,h1,iT i h3,h4⟩
 have Ab: ∀ i,live S env.bx i→dA i=some .dead→U i:=fun i h1 h2=> .inr fun e=>by
  unfold live at h1; rw [← e,h2] at h1; exact h1
 have hT: ∀ b o,M b o→b<w.heap.size→ ∃ i,U i∧live S env.bx i∧(μ i).aD b o:=fun b o hm _=>by
  obtain ⟨i,h1,h2,h3⟩:=qD b o hm
  exact ⟨i,Ab i h1 h2,h1,h3⟩
 have hU: ∀ i, ¬ U i→av dA gs i=env.bx i∧μ' i=μ i:=fun i hi=>by
  obtain ⟨h1,h2⟩:=hout i fun u hu e=>hi (.inl ⟨u,hu,e⟩)
  exact ⟨h1.trans (Classical.not_not.1 fun e=>hi (.inr e)),h2⟩
 have qJ: ∀ i,live S (av dA gs) i→(∃ u ∈ gs,u.1=i∧μ' i=lam u.1)∨(dA i=env.bx i∧live S env.bx i∧μ' i=μ i∧av dA gs i=dA i):=fun i hi=>by
  by_cases hg: ∃ u ∈ gs,u.1=i
  · obtain ⟨u,hu,rfl⟩:=hg
    exact .inl ⟨u,hu,rfl,(hin u hu).2⟩
  · obtain ⟨h1,h2⟩:=hout i fun u hu e=>hg ⟨u,hu,e⟩
    obtain ⟨h3,h4⟩:=hlv i ((dF S h1).1 hi)
    exact .inr ⟨h3,h4,h2,h1⟩
 have w6: ∀ u ∈ gs, ∀ b o,(lam u.1).aD b o→M' b o:=fun u hu b o hf=>(hG.aD b o).2 ⟨u,hu,hf⟩
 have hf: ∀ i,U i→live S (av dA gs) i→ ∀ b o,(μ' i).aD b o→w.heap.size≤b∨ ∃ j,U j∧live S env.bx j∧(μ j).aD b o:=by
  intro i hi Ap b o hfo
  rcases qJ i Ap with ⟨u,hu,rfl,h2⟩ | ⟨h1,h2,h3,h4⟩
  · rw [h2] at hfo
    rcases ni b o (w6 u hu b o hfo) with hm | hn
    · obtain ⟨j,j1,j2,j3⟩:=qD b o hm
      exact .inr ⟨j,Ab j j1 j2,j1,j3⟩
    · exact .inl hn
  · rcases hi with ⟨u,hu,rfl⟩ | hi
    · rw [(hin u hu).2] at hfo
      rcases ni b o (w6 u hu b o hfo) with hm | hn
      · obtain ⟨j,j1,j2,j3⟩:=qD b o hm
        exact .inr ⟨j,Ab j j1 j2,j1,j3⟩
      · exact .inl hn
    · exact absurd h1 hi
 have tR:=h.later hw hT hU hf
 have eU:bI w' s' w' (aE S w0 M0 s0 (av dA gs) μ' w'):=by
  intro b o hs
  obtain ⟨q1,q2,q3⟩:=hs' b o hs
  refine ⟨⟨q1, ?_,fun i hi hfo=> ?_⟩,rfl⟩
  · rcases q3 with q3 | q3 | q3
    · exact q3.2.1
    · obtain ⟨i,i1,_,i3⟩:=qD b o q3
      exact (h.own i i1 b o i3).elim (fun h=> .inr (.inr h)) (fun h=> .inr (.inl h))
    · exact .inr (.inr (Nat.le_trans h.fW.size q3))
  · rcases qJ i hi with ⟨u,hu,rfl,h2⟩ | ⟨h1,h2,h3,h4⟩
    · rw [h2] at hfo; exact q2 (w6 u hu b o hfo)
    · rw [h3] at hfo
      rcases q3 with q3 | q3 | q3
      · rcases q3.2.2 i h2 with ⟨e,l,hq⟩ | hq
        · rcases hl with hl | hl
          · have :dA i=some (.bw e l):=by rw [← Af,hl]; exact hq
            have hi':=(dF S h4).1 hi
            unfold live at hi'
            rw [this] at hi'
            exact hi'
          · exact hl b o hs
        · exact hq hfo
      · obtain ⟨k,k1,k2,k3⟩:=qD b o q3
        refine h.cM i k (fun e=> ?_) h2 k1 b o hfo k3
        subst e
        rw [h1] at k2
        unfold live at h2; rw [k2] at h2; exact h2
      · exact absurd (jV P S (h.bL i) h2 hfo).1 (by omega)
 refine ⟨μ',h.step hw hT hU hf ?_ ?_ ?_ ?_,eU,hin⟩
 · intro i B0 hi
   by_cases hg: ∃ u ∈ gs,u.1=i
   · obtain ⟨u,hu,rfl⟩:=hg
     rcases hI u.1 (hG.eD u hu) with hm | hn
     · obtain ⟨⟨ws,d1,e1⟩,e2,vs,d3,e3⟩:=hh _ hm
       rw [hi] at e1
       cases e1
       have :u=(u.1,vs):=hG.one u hu _ e3 rfl
       refine ⟨_,(hin u hu).1, ?_⟩
       rw [show u.2=vs from congrArg Prod.snd this]
       exact K4 S d1 d3 ((hin u hu).2.trans e2)
     · rw [hi] at hn; cases hn
   · obtain ⟨h1,h2⟩:=hout i fun u hu e=>hg ⟨u,hu,e⟩
     rw [h1,h2]
     rcases eT i with e1 | e1 | ⟨e0,e1⟩
     · exact ⟨B0,e1.trans hi,cc.refl S _ _⟩
     · exact ⟨_,e1,by cases B0 <;> rfl⟩
     · rcases hk i with e2 | ⟨e2,_⟩ | ⟨e,l,e2,e3⟩
       · exact ⟨B0,(e1.trans e2).trans hi,cc.refl S _ _⟩
       · exact ⟨_,e1.trans e2,by cases B0 <;> rfl⟩
       · rw [hi] at e2
         cases e2
         exact ⟨_,e1.trans e3,rfl,rfl,rfl⟩
 · intro i j hi hj hij li lj b o fi fj
   rcases qJ i li with ⟨u,hu,rfl,h2⟩ | ⟨h1,h2,h3,h4⟩
   · rcases qJ j lj with ⟨u',aL,rfl,lK⟩ | ⟨h1',_,_,_⟩
     · rw [h2] at fi; rw [lK] at fj
       exact hG.cM u hu u' aL hij b o fi fj
     · rcases hj with ⟨u',aL,rfl⟩ | hj
       · rw [h2] at fi; rw [(hin u' aL).2] at fj
         exact hG.cM u hu u' aL hij b o fi fj
       · exact hj h1'
   · rcases hi with ⟨u,hu,rfl⟩ | hi
     · rcases qJ j lj with ⟨u',aL,rfl,lK⟩ | ⟨h1',_,_,_⟩
       · rw [(hin u hu).2] at fi; rw [lK] at fj
         exact hG.cM u hu u' aL hij b o fi fj
       · rcases hj with ⟨u',aL,rfl⟩ | hj
         · rw [(hin u hu).2] at fi; rw [(hin u' aL).2] at fj
           exact hG.cM u hu u' aL hij b o fi fj
         · exact hj h1'
     · exact hi h1
 · intro i B hi hB
   by_cases hg: ∃ u ∈ gs,u.1=i
   · obtain ⟨u,hu,rfl⟩:=hg
     rw [(hin u hu).1] at hB
     cases hB
     rw [(hin u hu).2]
     exact (hG.rb μ' _ hin u hu).mono eU
   · obtain ⟨h1,h2⟩:=hout i fun u hu e=>hg ⟨u,hu,e⟩
     rw [h1] at hB
     rw [h2]
     have hne:dA i≠env.bx i:=hi.resolve_left hg
     rcases eT i with e1 | e1 | ⟨e0,e1⟩
     · exact absurd e1 hne
     · rw [e1] at hB; cases hB; trivial
     · rcases hk i with e2 | ⟨e2,_⟩ | ⟨e,l,e2,e3⟩
       · exact absurd (e1.trans e2) hne
       · rw [e1,e2] at hB; cases hB; trivial
       · have EX:dA i=some (.bw e l):=e1.trans e3
         rw [EX] at hB
         cases hB
         have bN:live S env.bx i:=by unfold live; rw [e2]; trivial
         obtain ⟨g1,g2,g3,g4,g5⟩:=h.bL i _ e2
         refine ⟨g2,g3,fun k x tP=> ?_⟩
         obtain ⟨ds,d1,d2,n,d3⟩:=g5 k x tP
         refine ⟨ds,d1,fun j u hj=> ?_,n,d3.mono S tR (Nat.le_refl _)⟩
         have hj':=(List.getElem?_eq_some_iff.1 hj).1
         have qK:=(List.getElem?_eq_some_iff.1 tP).1
         have f_:(μ i).aD (μ i).b ((μ i).o+k*Ty.sz S e+j):=by
          refine ⟨rfl,by omega, ?_⟩
          have :(k+1)*Ty.sz S e≤(μ i).cap*Ty.sz S e:=Nat.mul_le_mul_right _ (by omega)
          rw [Nat.add_mul,Nat.one_mul] at this
          omega
         have Fo: ¬ M (μ i).b ((μ i).o+k*Ty.sz S e+j):=fun hm=>by
          obtain ⟨q,q1,q2,q3⟩:=qD _ _ hm
          refine h.cM i q (fun e=> ?_) bN q1 _ _ f_ q3
          subst e
          rw [EX] at q2
          cases q2
         have Fk:=(jV P S (h.bL i) bN f_).1
         refine ⟨(hw.cell _ _ Fk Fo).trans (d2 j u hj),Nat.lt_of_lt_of_le Fk hw.size,(h.own i bN _ _ f_).elim (fun h=> .inr (.inr h)) (fun h=> .inr (.inl h)),fun q hq qI=> ?_⟩
         rcases qJ q hq with ⟨u,hu,rfl,h2⟩ | ⟨r1,r2,r3,r4⟩
         · rw [h2] at qI
           rcases ni _ _ (w6 u hu _ _ qI) with hm | hn
           · exact Fo hm
           · omega
         · rw [r3] at qI
           refine h.cM q i (fun e=> ?_) r2 bN _ _ qI f_
           subst e
           exact hne r1
 · intro i vs hi hvs v hv j hj
   by_cases hg: ∃ u ∈ gs,u.1=i
   · obtain ⟨u,hu,rfl⟩:=hg
     rw [(hin u hu).1] at hvs
     obtain ⟨u',aL,he⟩:=hG.ref u hu vs (by rcases hvs with hvs | hvs <;> · rw [Option.some.inj hvs]; simp) v hv j hj
     rw [← he,(hin u' aL).1]; simp
   · obtain ⟨h1,h2⟩:=hout i fun u hu e=>hg ⟨u,hu,e⟩
     have hne:dA i≠env.bx i:=hi.resolve_left hg
     rw [h1] at hvs
     rcases eT i with e1 | e1 | ⟨e0,e1⟩
     · exact absurd e1 hne
     · rw [e1] at hvs; rcases hvs with hvs | hvs <;> cases hvs
     · rcases hk i with e2 | ⟨e2,_⟩ | ⟨e,l,e2,e3⟩
       · exact absurd (e1.trans e2) hne
       · rw [e1,e2] at hvs; rcases hvs with hvs | hvs <;> cases hvs
       · rw [e1,e3] at hvs; rcases hvs with hvs | hvs <;> cases hvs
end
end Go.Sy
namespace Go.Sy
section
variable {P:Program} {S:aP} {ai:Nat→Nat}
theorem qh {bx ag:Bx S.C} {W:Sy.V S.C} {t:Ty} (hW: ∀ i ∈ ax S W,ag i=bx i):cA S ag t W=cA S bx t W:=by
 cases W with
 | aM b=>simp only [cA]; rw [hW b (by simp [ax])]
 | _=>rfl
theorem L0 {bx ag:Bx S.C} {W:Sy.V S.C} (hW: ∀ i ∈ ax S W,ag i=bx i):cg S ag W=cg S bx W:=by
 cases W with
 | aM b=>simp only [cg]; rw [hW b (by simp [ax])]
 | _=>rfl
theorem HZ {bx ag:Bx S.C} : ∀ {ts:List Ty} {vs:List (Sy.V S.C)},(∀ v ∈ vs, ∀ i ∈ ax S v,ag i=bx i)→fQ S ag ts vs=fQ S bx ts vs
 | [],_,_=>rfl
 | t::ts,[],_=>rfl
 | t::ts,v::vs,h=>by
  simp only [fQ]
  rw [qh (h v (by simp)),HZ fun v hv=>h v (by simp [hv])]
theorem AP {bx ag:Bx S.C} {t:Ty} {vs:List (Sy.V S.C)} (h: ∀ v ∈ vs, ∀ i ∈ ax S v,ag i=bx i):ga S ag t vs=ga S bx t vs:=by
 cases t with
 | st u=>simp only [ga]; rw [HZ h]
 | _=>
  cases vs with
  | nil=>rfl
  | cons v vs=>exact qh (h v (by simp))
theorem EG {bx ag:Bx S.C} : ∀ {vs:List (Sy.V S.C)},(∀ v ∈ vs, ∀ i ∈ ax S v,ag i=bx i)→vs.flatMap (cg S ag)=vs.flatMap (cg S bx)
 | [],_=>rfl
 | v::vs,h=>by
  simp only [List.flatMap_cons]
  rw [L0 (h v (by simp)),EG fun v hv=>h v (by simp [hv])]
theorem HJ {bx ag:Bx S.C} {c:CK} {vs:List (Sy.V S.C)} (h: ∀ v ∈ vs, ∀ i ∈ ax S v,ag i=bx i):dn S ag c vs=dn S bx c vs:=by
 cases c with
 | data t=>
  simp only [dn]
  rw [AP h,EG fun v hv=>h v (List.mem_of_mem_take hv)]
 | aW e=>
  cases vs with
  | nil=>rfl
  | cons v vs=>
   have :=h v (by simp)
   cases v with
   | aW b e' l=>simp only [dn]; rw [this b (by simp [ax])]
   | _=>rfl
 | aM e=>
  cases vs with
  | nil=>rfl
  | cons v vs=>
   have :=h v (by simp)
   cases v with
   | aM b=>simp only [dn]; rw [this b (by simp [ax])]
   | pre b n=>simp only [dn]; rw [this b (by simp [ax])]
   | _=>rfl
theorem n6 {i:Nat} : ∀ (us:aH S.C) {bx ag:Bx S.C},ag i=bx i→av ag us i=av bx us i
 | [],_,_,h=>h
 | u::us,bx,ag,h=>n6 us (bx:=aq bx u.1 (some u.2)) (ag:=aq ag u.1 (some u.2)) (by
  by_cases e:i=u.1
  · rw [e,aO,aO]
  · rw [aZ _ _ e,aZ _ _ e]; exact h)
theorem yH: ∀ {cs:List CK} {bx ag:Bx S.C} {vs:List (Sy.V S.C)},(∀ v ∈ vs, ∀ i ∈ ax S v,ag i=bx i)→cY S ag cs vs=cY S bx cs vs
 | [],_,_,_,_=>rfl
 | c::cs,bx,ag,vs,h=>by
  simp only [cY]
  rw [HJ h]
  cases dn S bx c vs with
  | none=>rfl
  | some a=>
   simp only [Option.bind_some]
   rw [yH fun v hv i hi=>n6 _ (h v (List.mem_of_mem_drop hv) i hi)]
def gI (S:aP) (bx ag:Bx S.C) (V:Sy.V S.C):Prop:=
 ∀ i ∈ az S V,ag i=bx i∧(∀ vs,(bx i=some (.cells vs)∨bx i=some (.bG vs))→ ∀ v ∈ vs, ∀ j ∈ ax S v,ag j=bx j)∧ ∀ j,bx i=some (.aV j)→ag j=bx j
theorem SL {us:aH S.C} {i:Nat} {vs:List (Sy.V S.C)} (h:DF us): ∀ {bx:Bx S.C},(av bx us i=some (.cells vs)∨av bx us i=some (.bG vs))→(bx i=some (.cells vs)∨bx i=some (.bG vs)):=by
 induction us with
 | nil=>exact fun h=>h
 | cons u us ih=>
  intro bx hu
  have :=ih (fun v hv=>h v (by simp [hv])) (bx:=aq bx u.1 (some u.2)) hu
  by_cases e:i=u.1
  · rw [e,aO] at this
    rcases h u (by simp) with h1 | ⟨_,_,h1⟩ <;> · rw [h1] at this; rcases this with h2 | h2 <;> cases h2
  · rw [aZ _ _ e] at this; exact this
theorem SM {us:aH S.C} {i j:Nat} (h:DF us): ∀ {bx:Bx S.C},av bx us i=some (.aV j)→bx i=some (.aV j):=by
 induction us with
 | nil=>exact fun h=>h
 | cons u us ih=>
  intro bx hu
  have :=ih (fun v hv=>h v (by simp [hv])) (bx:=aq bx u.1 (some u.2)) hu
  by_cases e:i=u.1
  · rw [e,aO] at this
    rcases h u (by simp) with h1 | ⟨_,_,h1⟩ <;> · rw [h1] at this; cases this
  · rw [aZ _ _ e] at this; exact this
theorem gI.av {bx ag:Bx S.C} {V:Sy.V S.C} {us:aH S.C} (hd:DF us) (h:gI S bx ag V):gI S (av bx us) (av ag us) V:=fun i hi=>
 ⟨n6 us (h i hi).1,fun vs hvs v hv j hj=>n6 us ((h i hi).2.1 vs (SL hd hvs) v hv j hj),fun j hj=>n6 us ((h i hi).2.2 j (SM hd hj))⟩
theorem Ko {bx ag:Bx S.C} {t:Ty} {v:Sy.V S.C} (this: ∀ i ∈ ax S v,ag i=bx i∧ ∀ ws,(bx i=some (.cells ws)∨bx i=some (.bG ws))→ ∀ v ∈ ws, ∀ j ∈ ax S v,ag j=bx j):ku S ag t v=ku S bx t v:=by
 cases v with
 | ptr b off=>
  obtain ⟨h1,h2⟩:=this b (by simp [ax])
  cases off with
  | zero=>
   simp only [ku]
   rw [h1]
   split
   · rename_i ws hb
     rw [AP (h2 ws (.inr hb))]
   · rfl
  | succ n=>rfl
 | _=>rfl
theorem zj {bx ag:Bx S.C} : ∀ {ts:List Ty} {vs:List (Sy.V S.C)},(∀ v ∈ vs, ∀ i ∈ ax S v,ag i=bx i∧ ∀ ws,(bx i=some (.cells ws)∨bx i=some (.bG ws))→ ∀ v ∈ ws, ∀ j ∈ ax S v,ag j=bx j)→caps S ag ts vs=caps S bx ts vs
 | [],[],_=>rfl
 | [],_::_,_=>rfl
 | t::ts,[],_=>rfl
 | t::ts,v::vs,h=>by
  simp only [caps]
  have h1:ku S ag t v=ku S bx t v:=by
   have :=h v (by simp)
   cases v with
   | ptr b off=>
    obtain ⟨h1,h2⟩:=this b (by simp [ax])
    cases off with
    | zero=>
     simp only [ku]
     rw [h1]
     split
     · rename_i ws hb
       rw [AP (h2 ws (.inr hb))]
     · rfl
    | succ n=>rfl
   | _=>rfl
  rw [h1,zj fun v hv=>h v (by simp [hv])]
theorem LW {fs:List (fA S)} {bx ag:Bx S.C} {A R:List Ty} {V:Sy.V S.C} (h:gI S bx ag V):oH S fs ag A R V=oH S fs bx A R V:=by
 cases V with
 | ey f vs=>
  simp only [oH]
  have : ∀ ts,caps S ag ts vs=caps S bx ts vs:=fun ts=>zj fun v hv i hi=>have q:=h i (by simp only [az,List.mem_flatMap]; exact ⟨v,hv,hi⟩); ⟨q.1,q.2.1⟩
  simp only [this]
 | _=>rfl
theorem HQ {bx ag:Bx S.C} {cs:List CK} {b:Nat} (h:gI S bx ag (.ptr b 0)):eY S ag cs b=eY S bx cs b:=by
 unfold eY
 rw [(h b (by simp [az,ax])).1]
 split
 · rename_i vs hb
   have :cY S (aq ag b (some .dead)) cs (vs.drop 0)=cY S (aq bx b (some .dead)) cs (vs.drop 0):=by
    refine yH fun v hv i hi=> ?_
    have :=(h b (by simp [az,ax])).2.1 vs (.inl hb) v (List.mem_of_mem_drop hv) i hi
    by_cases e:i=b
    · rw [e,aO,aO]
    · rw [aZ _ _ e,aZ _ _ e]; exact this
   rw [this]
 · rfl
theorem RQ {fs:List (fA S)} {bx ag:Bx S.C} {k:K} {V:Sy.V S.C} (h:gI S bx ag V):bQ S fs ag k V=bQ S fs bx k V:=by
 have h1: ∀ (c:CK),dn S ag c [V]=dn S bx c [V]∨ ∃ u vs,V= .agg u vs∨V= .ey u vs∨V= .gm vs:=by
  intro c
  cases V with
  | agg u vs=>exact .inr ⟨u,vs, .inl rfl⟩
  | ey u vs=>exact .inr ⟨u,vs, .inr (.inl rfl)⟩
  | gm vs=>exact .inr ⟨0,vs, .inr (.inr rfl)⟩
  | _=>exact .inl (HJ fun v hv i hi=>by simp at hv; subst hv; exact (h i hi).1)
 have obj: ∀ (cs:List CK) (b:Nat) (vs:List (Sy.V S.C)) (off:Nat),V= .ptr b off→bx b=some (.cells vs)→cY S (aq ag b (some .dead)) cs (vs.drop off)=cY S (aq bx b (some .dead)) cs (vs.drop off):=by
  rintro cs b vs off rfl hb
  refine yH fun v hv i hi=> ?_
  have :=(h b (by simp [az,ax])).2.1 vs (.inl hb) v (List.mem_of_mem_drop hv) i hi
  by_cases e:i=b
  · rw [e,aO,aO]
  · rw [aZ _ _ e,aZ _ _ e]; exact this
 cases k with
 | val c=>
  cases c with
  | data t=>
   obtain ⟨d1,d2⟩:=tg (t:=t) fun i hi=>(h i hi).1
   simp only [bQ,d1,d2]
  | aW e=>
   rcases h1 (.aW e) with h1 | ⟨u,vs,rfl | rfl | rfl⟩
   · exact h1
   all_goals rfl
  | aM e=>
   rcases h1 (.aM e) with h1 | ⟨u,vs,rfl | rfl | rfl⟩
   · exact h1
   all_goals rfl
 | obj cs=>
  cases V with
  | ptr b off=>
   simp only [bQ]
   rw [(h b (by simp [az,ax])).1]
   split
   · rename_i vs hb
     rw [obj cs b vs off rfl hb]
   · rfl
  | _=>rfl
 | opt cs=>
  cases V with
  | ptr b off=>
   simp only [bQ]
   rw [(h b (by simp [az,ax])).1]
   split
   · rename_i vs hb
     rw [obj cs b vs off rfl hb]
   · rfl
  | _=>rfl
 | bX cs=>
  cases V with
  | bX b n=>
   simp only [bQ]
   rw [(h b (by simp [az,ax])).1]
   split
   · rename_i vs hb
     have :cY S (aq ag b (some .dead)) cs (vs.drop 0)=cY S (aq bx b (some .dead)) cs (vs.drop 0):=by
      refine yH fun v hv i hi=> ?_
      have :=(h b (by simp [az,ax])).2.1 vs (.inl hb) v (List.mem_of_mem_drop hv) i hi
      by_cases e:i=b
      · rw [e,aO,aO]
      · rw [aZ _ _ e,aZ _ _ e]; exact this
     rw [this]
   · rfl
  | _=>rfl
 | bJ t cs=>
  cases V with
  | split b c=>
   simp only [bQ]
   have hc:gI S bx ag (.ptr c 0):=fun i hi=>h i (by simp [az,ax] at hi ⊢; exact .inr hi)
   have hb:gI S bx ag (.ptr b 0):=fun i hi=>h i (by simp [az,ax] at hi ⊢; exact .inl hi)
   rw [HQ hc]
   cases hy:eY S bx [.data t] c with
   | none=>rfl
   | some y=>
    simp only [Option.bind_some]
    rw [HQ (hb.av (DF.eY (us:=y.2) (x:=y.1) hy))]
  | _=>rfl
 | nil=>rfl
 | err=>rfl
 | aV=>
  cases V with
  | ptr b off=>
   simp only [bQ]
   rw [(h b (by simp [az,ax])).1]
   split
   · rename_i j hb
     rw [(h b (by simp [az,ax])).2.2 j hb]
   · rfl
  | _=>rfl
 | ro t=>
  cases V with
  | ptr b off=>
   simp only [bQ]
   have :=Ko (t:=t) (v:= .ptr b off) fun i hi=>⟨(h i hi).1,(h i hi).2.1⟩
   rw [this]
  | _=>rfl
 | fn A R=>simp only [bQ]; rw [LW h]
theorem HM {fs:List (fA S)} : ∀ {ks:List K} {bx ag:Bx S.C} {Vs:List (Sy.V S.C)},(∀ V ∈ Vs,gI S bx ag V)→dx S fs ag ks Vs=dx S fs bx ks Vs
 | [],_,_,[],_=>rfl
 | [],_,_,_::_,_=>rfl
 | k::ks,_,_,[],_=>rfl
 | k::ks,bx,ag,V::Vs,h=>by
  simp only [dx]
  rw [RQ (h V (by simp))]
  cases hk:bQ S fs bx k V with
  | none=>rfl
  | some a=>
   simp only [Option.bind_some]
   rw [HM fun V' Mo=>(h V' (by simp [Mo])).av (DF.bQ (us:=a.2) (x:=a.1) hk)]
theorem bM.length {w:World} {s:St} : ∀ {M:St} {ks:List K} {x:Ks S.C ks} {vs:List Value},bM P S w s M ks x vs→vs.length=ks.length
 | _,[],_,_,h=>by rw [h.2]; rfl
 | _,k::ks,_,_,⟨M1,M2,v,r,h1,h2,h3,h4⟩=>by subst h2; rw [List.length_cons,bM.length h4]; rfl
theorem aB.flat {w:World} {s s':St} {n:Nat} {t:Ty} (hf:wN S t=true) {x:t.den S.C} {cs:List Value} (h:aB S w s n t x cs):aB S w s' n t x cs:=by
 cases n with
 | zero=>exact h.elim
 | succ n=>cases t with
  | int k=>exact h
  | bool=>exact h
  | str=>exact h
  | pt=>exact h
  | sl e=>simp [wN] at hf
  | st u=>
   cases n with
   | zero=>
    have : ∀ (ts:List Ty) (x:an S.C ts) (cs:List Value),bn S (fun t x cs=>aB S w s 0 t x cs) ts x cs→bn S (fun t x cs=>aB S w s' 0 t x cs) ts x cs:=by
     intro ts x cs h
     exact bn.mono S (fun t x cs h=>h.elim) ts x cs h
    exact this _ _ _ h
   | succ m=>exact (bn.flat S (m:=m) _ _ _ hf h)
theorem jy.flat {w:World} {s s' M:St} {c:CK} (hf:oG S c=true) {x:c.den S.C} {cs:List Value} (h:jy S w s M c x cs):jy S w s' M c x cs:=by
 cases c with
 | data t=>exact ⟨h.1,h.2.imp fun _ hn=>hn.flat hf⟩
 | aW e=>simp [oG] at hf
 | aM e=>
  obtain ⟨a,cap,L,h1,h2,h3,h4,h5⟩:=h
  refine ⟨a,cap,L,h1,h2,h3,h4,fun i y hi=> ?_⟩
  obtain ⟨ds,d1,d2,n,d3⟩:=h5 i y hi
  exact ⟨ds,d1,d2,n,d3.flat hf⟩
theorem fR.flat {w:World} {s s':St} : ∀ {M:St} {cs:List CK} {x:bp S.C cs} {vs:List Value},cs.all (oG S)=true→fR S w s M cs x vs→fR S w s' M cs x vs
 | _,[],_,_,_,h=>h
 | _,_::_,_,_,hf,⟨M1,M2,v1,v2,h1,h2,h3,h4,h5⟩=>by
  simp only [List.all_cons,Bool.and_eq_true] at hf
  exact ⟨M1,M2,v1,v2,h1,h2,h3,h4.flat hf.1,fR.flat hf.2 h5⟩
theorem dy.flat {w:World} {s s' M:St} {cs:List CK} (hf:cs.all (oG S)=true) {x:bp S.C cs} {v:Value} (h:dy S w s M cs x v):dy S w s' M cs x v:=by
 obtain ⟨b,o,ds,M',h1,h2,h3,h4,h5⟩:=h
 exact ⟨b,o,ds,M',h1,h2,h3,h4,h5.flat hf⟩
theorem kj.flat {w:World} {s s' M:St} {k:K} (hf:qz S k=true) {x:k.den S.C} {v:Value} (h:kj P S w s M k x v):kj P S w s' M k x v:=by
 cases k with
 | val c=>exact ⟨h.1.flat hf,h.2⟩
 | obj cs=>exact dy.flat hf h
 | aV=>exact h
 | opt cs=>
  cases x with
  | none=>exact h
  | some y=>exact dy.flat hf h
 | nil=>exact h
 | ro t=>simp [qz] at hf
 | fn a r=>simp [qz] at hf
 | bJ t cs=>simp [qz] at hf
 | bX cs=>
  obtain ⟨p,h1,h2⟩:=h
  exact ⟨p,h1,dy.flat hf h2⟩
 | err=>exact h
theorem bM.flat {w:World} {s s':St} : ∀ {M:St} {ks:List K} {x:Ks S.C ks} {vs:List Value},ks.all (qz S)=true→bM P S w s M ks x vs→bM P S w s' M ks x vs
 | _,[],_,_,_,h=>h
 | _,_::_,_,_,hf,⟨M1,M2,v,r,h1,h2,h3,h4⟩=>by
  simp only [List.all_cons,Bool.and_eq_true] at hf
  exact ⟨M1,M2,v,r,h1,h2,h3.flat hf.1,bM.flat hf.2 h4⟩
def aC (P:Program) (S:aP) (e:Entry S):Prop:=gH P e.f∧ ∀ (w:World) (s M:St) (x:Ks S.C e.ps) (args:List Value) (r:Ks S.C (e.rs++outs e.ps)),
 bM P S w s M e.ps x args→(∀ b o,s b o→b<w.heap.size∧ ¬ M b o)→gp S w M→e.sp x=some r→
 Calls P e.f args.toArray w fun en w'=> ∃ us s' M',en= .returned (jj us)∧aX w w' M∧bM P S w' s' M' (e.rs++outs e.ps) r (us++dV e.ps args)∧
  (∀ b o,s' b o→b<w'.heap.size∧ ¬ M' b o∧(s b o∨M b o∨w.heap.size≤b))∧ ∀ b o,M' b o→M b o∨w.heap.size≤b
def mP (P:Program) (S:aP) (w0:World) (M0:St) (e:Entry S):Prop:=gH P e.f∧ ∀ (w:World) (s M:St) (x:Ks S.C e.ps) (args:List Value) (r:Ks S.C (e.rs++outs e.ps)),
 aX w0 w M0→(∀ b o,M b o→w0.heap.size≤b∨M0 b o)→bM P S w s M e.ps x args→(∀ b o,s b o→b<w.heap.size∧ ¬ M b o)→e.sp x=some r→
 Calls P e.f args.toArray w fun en w'=> ∃ us s' M',en= .returned (jj us)∧aX w w' M∧bM P S w' s' M' (e.rs++outs e.ps) r (us++dV e.ps args)∧
  (∀ b o,s' b o→b<w'.heap.size∧ ¬ M' b o∧(s b o∨M b o∨w.heap.size≤b))∧ ∀ b o,M' b o→M b o∨w.heap.size≤b
theorem aC.at {w0:World} {M0:St} {e:Entry S} (h:aC P S e) (hG:gp S w0 M0):mP P S w0 M0 e:=
 ⟨h.1,fun w s M x args r hc hM hx hs hr=>h.2 w s M x args r hx hs ⟨fun g hg=>by
  obtain ⟨g1,g2,v,g3,g4⟩:=hG.1 g hg
  refine ⟨Nat.lt_of_lt_of_le g1 hc.size,fun hm=> ?_,v,(hc.cell g.1.1 g.1.2 g1 g2).trans g3,g4⟩
  rcases hM _ _ hm with h1 | h1
  · exact absurd g1 (Nat.not_lt.2 h1)
  · exact g2 h1,fun g hg=>by
  obtain ⟨g1,g2,v,g3,g4⟩:=hG.2 g hg
  refine ⟨Nat.lt_of_lt_of_le g1 hc.size,fun o hm=> ?_,v,(hc.same g.1 g1 g2).trans g3,g4⟩
  rcases hM _ _ hm with h1 | h1
  · exact absurd g1 (Nat.not_lt.2 h1)
  · exact g2 o h1⟩ hr⟩
end
end Go.Sy
namespace Go.Sy
section
variable {P:Program} {S:aP} {ai:Nat→Nat}
variable {w0:World} {M0 s0:St} {dq:List Deferred} {env:Env S.C} {a:Act} {w:World} {μ:Nat→Loc} {K:Act→World→Prop} {Q:Exit→Act→World→Prop} {o:Oper} {V:V S.C} {us:aH S.C}
theorem CR {s:St} {bx:Bx S.C} {vs:List (Sy.V S.C)} {us:List Value} (h:aF P S w s μ bx vs us):RV P S w s μ bx (n5 S vs) (jj us):=by
 cases vs with
 | nil=>cases h; exact ⟨#[],rfl,rfl⟩
 | cons v vs=>
  obtain ⟨c,r,rfl,h1,h2⟩:=h
  cases vs with
  | nil=>cases h2; exact ko h1
  | cons v' vs=>
   obtain ⟨c',r',rfl,h3,h4⟩:=h2
   exact ⟨_,rfl,c,c'::r',by simp,h1,c',r',rfl,h3,h4⟩
theorem FH {vs:List (Sy.V S.C)} {j:Nat} (h:j ∈ az S (n5 S vs)): ∃ v ∈ vs,j ∈ ax S v∨j ∈ az S v:=by
 cases vs with
 | nil=>simp [n5,az] at h
 | cons v vs=>
  cases vs with
  | nil=>exact ⟨v,by simp, .inr h⟩
  | cons v' vs=>
   simp only [n5,az,List.mem_flatMap] at h
   obtain ⟨u,hu,hj⟩:=h
   exact ⟨u,hu, .inl hj⟩
theorem NO {s:St} {bx:Bx S.C} {V:Sy.V S.C} {v:Value} (h:bq P S w s μ bx V v) {j:Nat} (hj:j ∈ az S V):j ∈ ax S V:=by
 cases V <;> first | exact hj | exact (h:False).elim
theorem FG {s:St} {bx:Bx S.C} : ∀ {vs:List (Sy.V S.C)} {cs:List Value},aF P S w s μ bx vs cs→ ∀ v ∈ vs, ∀ j ∈ az S v,j ∈ ax S v
 | [],_,_,v,hv,_,_=>by simp at hv
 | u::vs,_,⟨c,r,h1,h2,h3⟩,v,hv,j,hj=>by
  rcases List.mem_cons.1 hv with rfl | hv
  · exact NO h2 hj
  · exact FG h3 v hv j hj
theorem B5 {c:Call} (ho:o.op= .call c) {f:Operand} (hc:c.callee= .value f) {g:Nat} {first cap:Array Value} (hf:a.eval f= .func (.func g) first cap) (hok:gH P g):
 (execOp a.eval o).run P w= .ok (.enter g (first++c.args.map a.eval++cap)) w:=by
 obtain ⟨fn,h1,h2,h3⟩:=hok
 unfold execOp
 simp only [ho]
 have lK: ¬ fn.name= "runtime.NumGoroutine" :=by simpa using h2
 have Mi: ¬ fn.body=none:=fun e=>by rw [e] at h3; cases h3
 simp [resolve,hc,hf,Deferred.ofValue,invoke,callFunc,h1,lK,Mi]
theorem Bk: ∀ (ps:List Sy.K) (args:List Value),args.length=ps.length→(dV ps args).length=(outs ps).length
 | [],_,_=>by simp [dV,outs]
 | _::_,[],h=>by simp at h
 | k::ps,v::args,h=>by
  have ih:=Bk ps args (by simpa using h)
  cases k <;> simp [dV,outs,ih]
theorem Dq (hP:aU P S ai) {T:fD S} {f:Nat} {args:Array Value} {C:(Ending→World→Prop)→Prop} (hmono: ∀ R R',(∀ en w',R en w'→R' en w')→C R→C R')
 (hT: ∀ e ∈ T.es,e.f=f→ ∀ (s M:St) (x:Ks S.C e.ps) (r:Ks S.C (e.rs++outs e.ps)),(∀ b o,M b o→w0.heap.size≤b∨M0 b o)→bM P S w s M e.ps x args.toList→(∀ b o,s b o→b<w.heap.size∧ ¬ M b o)→e.sp x=some r→
  C fun en w'=> ∃ us s' M',en= .returned (jj us)∧aX w w' M∧bM P S w' s' M' (e.rs++outs e.ps) r (us++dV e.ps args.toList)∧
   (∀ b o,s' b o→b<w'.heap.size∧ ¬ M' b o∧(s b o∨M b o∨w.heap.size≤b))∧ ∀ b o,M' b o→M b o∨w.heap.size≤b)
 (hF: ∀ e ∈ T.fs,fB P S e) (h:Inv P S w0 M0 s0 dq env a w μ) {B:Nat} {eI:Bx S.C}
 {Vs:List (Sy.V S.C)} (hargs:ep P S w (aE S w0 M0 s0 env.bx μ w) μ env.bx Vs args.toList)
 (hkn: ∀ V ∈ Vs,gI S env.bx eI V) (hnew: ∀ u ∈ us,B≤u.1→u.1<B+16→env.bx u.1=none)
 (hl:(mV S T B eI f Vs).leaf (V,us)):
 C fun en w'=> ∃ v μ',en= .returned v∧Inv P S w0 M0 s0 dq { env with bx:=av env.bx us } a w' μ'∧RV P S w' (aE S w0 M0 s0 (av env.bx us) μ' w') μ' (av env.bx us) V v∧ ∀ j ∈ az S V,av env.bx us j≠none:=by
 unfold mV at hl
 split at hl
 · rename_i e tk hfind
   obtain ⟨e0,tM,hsel⟩:=List.exists_of_findSome?_eq_some hfind
   split at hsel
   · rename_i jR
     obtain ⟨mB,htk,hsel⟩:=Option.bind_eq_some_iff.1 hsel
     cases hsel
     cases hlim:Nat.ble (gx e.rs+gx (outs e.ps)) 16&&(cP S e.ps Vs).all fun b=> !(Nat.ble B b&&Nat.blt b (B+16)) with
     | false=>rw [hlim] at hl; exact hl.elim
     | true=>
      rw [hlim,cond_true] at hl
      rw [Bool.and_eq_true] at hlim
      obtain ⟨hlim,Mv⟩:=hlim
      have hlim:=Nat.le_of_ble_eq_true hlim
      obtain ⟨r,hr,hl⟩:=hl
      rw [HM hkn] at htk
      obtain ⟨x,cR⟩:=tk
      dsimp only at hr hl
      obtain ⟨k1,M,kr,fr⟩:=vm hP.tocz h hF e.ps (Tk.refl S env.bx) hargs htk
      have NA: ∀ (ks:List Sy.K) (bx:Bx S.C) (hk:Tk S env.bx bx) (Vs:List (Sy.V S.C)) (args:List Value) (x:Ks S.C ks) (us:aH S.C),ep P S w (aE S w0 M0 s0 env.bx μ w) μ env.bx Vs args→dx S T.fs bx ks Vs=some (x,us)→Tk S bx (av bx us):=
       fun ks bx hk Vs args x us h1 h2=>(vm hP.tocz h hF ks hk h1 h2).1
      obtain ⟨oo,Pc,od⟩:=HN (s:=aE S w0 M0 s0 env.bx μ w) (s':=aE S w0 M0 s0 env.bx μ w) h.bL e.ps (Tk.refl S env.bx) NA hargs htk
      have hdf:=DF.dx htk
      have FB: ∀ b o,bW S w0 M0 s0 env.bx (av env.bx cR) μ w b o→b<w.heap.size∧ ¬ M b o:=by
       intro b o ⟨q1,q2,q3⟩
       refine ⟨q1,fun hm=> ?_⟩
       obtain ⟨i,i1,_,i3,i4⟩:=fr b o hm
       rcases q3 i i1 with ⟨_,_,hq⟩ | hq
       · rw [i3] at hq; cases hq
       · exact hq i4
      refine hmono _ _ ?_ (hT e tM jR _ M x r (fun b o hm=>by obtain ⟨i,i1,_,_,i4⟩:=fr b o hm; exact h.own i i1 b o i4) kr FB hr)
      rintro en w' ⟨vs,s',M',rfl,hw,hks,hs',ni⟩
      have MR: ∃ s2:St,bM P S w' s2 M' (e.rs++outs e.ps) r (vs++dV e.ps args.toList)∧(∀ b o,s2 b o→s' b o)∧(xp S e=true∨ ∀ b o, ¬ s2 b o):=by
       cases hlk:xp S e with
       | true=>exact ⟨s',hks,fun _ _ h=>h, .inl rfl⟩
       | false=>
        unfold xp at hlk
        simp only [Bool.not_eq_false'] at hlk
        exact ⟨fun _ _=>False,hks.flat hlk,fun _ _ h=>h.elim, .inr fun _ _ h=>h⟩
      obtain ⟨s2,Fh,hs2,hlk⟩:=MR
      obtain ⟨q,M1,M2,us',ws,hq,hv1,hsp,Fq,n1,n2,l1,g1,r1,l7⟩:=Ga hP.tocz e.rs B Fh hl
      obtain ⟨rfl,rfl⟩:=bl hq
      have hlen:=bM.length Fh
      have hlo:=bM.length Fq
      have hla:args.toList.length=e.ps.length:=bM.length kr
      have hol:=Bk e.ps args.toList hla
      have hsame:vs=us'∧dV e.ps args.toList=ws:=by
       refine List.append_inj hv1 ?_
       have :=congrArg List.length hv1
       simp only [List.length_append] at this
       omega
      obtain ⟨rfl,rfl⟩:=hsame
      have An: ∀ b ∈ cP S e.ps Vs, ∀ i,B≤i→i<B+16→i≠b:=by
       rintro b hb i h1 h2 rfl
       have :=List.all_eq_true.1 Mv i hb
       rw [show Nat.ble B i=true from Nat.ble_eq_true_of_le h1,show Nat.blt i (B+16)=true from Nat.ble_eq_true_of_le h2] at this
       cases this
      obtain ⟨l2,g2,Fg⟩:=jX (P:=P) hP.tocz e.ps q.2.2 (oo.later fun b o hs=>have hq:=FB b o (k7 S w0 M0 s0 env.bx (av env.bx cR) μ w b o hs).1; hw.cell b o hq.1 hq.2) Pc (fun b hb i h1 h2=>An b hb i (by omega) (by omega)) Fq
      obtain ⟨g,hag⟩:=bO.both g1 g2 (fun i h1 h2=>by
       rcases h2 with h2 | h2
       · exact An i h2 i (by omega) (by omega) rfl
       · omega) hsp
      have Am:bO P S w' s2 (fun i=> ∃ u ∈ (q.2.1++ec S q.2.2 e.ps Vs (iG S e.rs (outs e.ps) r).2),u.1=i) (q.2.1++ec S q.2.2 e.ps Vs (iG S e.rs (outs e.ps) r).2) _ M':=
       ⟨fun u hu=>⟨u,hu,rfl⟩,g.one,g.rb,g.lv,g.aD,g.cM,g.ref⟩
      obtain ⟨μ',hI,eU,EW⟩:=h.call (Ai:=cP S e.ps Vs) hdf k1 fr hw (fun b o hs=>hs' b o (hs2 b o hs)) ni Am (fun i hi=>by
       obtain ⟨u,hu,rfl⟩:=hi
       rcases g.eD u hu with h1 | h1 | h1
       · exact .inr (hnew u (List.mem_append.2 (.inr hu)) h1.1 (by omega))
       · exact .inl h1
       · exact .inr (hnew u (List.mem_append.2 (.inr hu)) (by omega) (by omega)))
       (fun b hb=>⟨(od b hb).1,by
        unfold both
        rw [if_neg]
        · exact (Fg b hb).1
        · intro hm
          obtain ⟨u,hu,he⟩:=List.mem_map.1 hm
          have :=g1.eD u hu
          rw [he] at this
          exact An b hb b this.1 (by omega) rfl,by
        obtain ⟨vs,hh,hvs⟩:=(Fg b hb).2
        exact ⟨vs,hh,List.mem_append.2 (.inr hvs)⟩⟩) hlk
      have cB:=(l7 _ _ (hag _ _ EW).1).mono eU
      refine ⟨_,μ',rfl,hI,CR cB,fun j hj=> ?_⟩
      obtain ⟨v,hv,hj⟩:=FH hj
      obtain ⟨u,hu,he⟩:=r1 v hv j (hj.elim id fun hj=>FG cB v hv j hj)
      have :=(EW u (List.mem_append.2 (.inl hu))).1
      rw [he] at this
      rw [this]
      simp
   · cases hsel
 · exact hl.elim
theorem Km (hP:aU P S ai) {T:fD S} (hT: ∀ e ∈ T.es,mP P S w0 M0 e) (hF: ∀ e ∈ T.fs,fB P S e) (h:Inv P S w0 M0 s0 dq env a w μ) (hd: ∀ d,o.dst=some d→d<a.tmps.size) {B:Nat} {ids:List Nat}
 {Vs:List (Sy.V S.C)} {args:Array Value} {f:Nat} (hrun:gH P f→(execOp a.eval o).run P w= .ok (.enter f args) w) (hargs:ep P S w (aE S w0 M0 s0 env.bx μ w) μ env.bx Vs args.toList)
 (hkn: ∀ V ∈ Vs,gI S env.bx (restrict S env.bx ids) V) (hnew: ∀ u ∈ us,B≤u.1→u.1<B+16→env.bx u.1=none)
 (hl:(mV S T B (restrict S env.bx ids) f Vs).leaf (V,us)) (hK:Goal P S w0 M0 s0 dq env a o.dst V us K):o.wp P a w K Q:=by
 have hok:gH P f:=by
  unfold mV at hl
  split at hl
  · rename_i e tk hfind
    obtain ⟨e0,tM,hsel⟩:=List.exists_of_findSome?_eq_some hfind
    split at hsel
    · rename_i jR
      rw [← jR]; exact (hT e0 tM).1
    · cases hsel
  · exact hl.elim
 unfold Oper.wp
 rw [hrun hok]
 refine Calls.mono (Dq (dq:=dq) hP (C:=fun R=>Calls P f args w R) (fun R R' hR hc=>Calls.mono hc hR) (fun e he jR s M x r hM hx hs hr=> ?_) hF h hargs hkn hnew hl) ?_
 · have hc:=(hT e he).2 w s M x args.toList r h.fW hM hx hs hr
   rw [jR,show args.toList.toArray=args from by simp] at hc
   exact hc
 · rintro en w' ⟨v,μ',rfl,hI,cB,eK⟩
   refine hK _ w' μ' (hI.put hd cB eK) ?_
   cases o.dst <;> simp [Act.put]
end
end Go.Sy
namespace Go.Sy
section
variable {P:Program} {S:aP} {ai:Nat→Nat}
variable {w0:World} {M0 s0:St} {dq:List Deferred} {env:Env S.C} {a:Act} {w:World} {μ:Nat→Loc} {K:Act→World→Prop} {Q:Exit→Act→World→Prop} {o:Oper} {V:V S.C} {us:aH S.C}
theorem Inv.world (h:Inv P S w0 M0 s0 dq env a w μ) {w':World} (hw:aX w w' (fun _ _=>False)):
 Inv P S w0 M0 s0 dq env a w' μ∧bI w' (grown (aE S w0 M0 s0 env.bx μ w) w w') w' (aE S w0 M0 s0 env.bx μ w'):=by
 have tR:=h.later (T:=fun _ _=>False) (U:=fun _=>False) (ag:=env.bx) (μ':=μ) hw (fun _ _ h=>h.elim) (fun _ _=>⟨rfl,rfl⟩) (fun _ h=>h.elim)
 refine ⟨h.step (T:=fun _ _=>False) (U:=fun _=>False) hw (fun _ _ h=>h.elim) (fun _ _=>⟨rfl,rfl⟩) (fun _ h=>h.elim) (fun i B0 hi=>⟨B0,hi,cc.refl S _ _⟩) (fun _ _ h=>h.elim) (fun _ _ h=>h.elim) (fun _ _ h=>h.elim), ?_⟩
 rintro b o (hs | ⟨h1,h2⟩)
 · exact ⟨(tR b o hs).1,rfl⟩
 · exact ⟨⟨h2, .inr (.inr (Nat.le_trans h.fW.size h1)),fun i li hf=>absurd (jV P S (h.bL i) li hf).1 (by omega)⟩,rfl⟩
theorem DS {bx ag:Bx S.C} : ∀ {ts:List Ty} {Vs:List (Sy.V S.C)},(∀ V ∈ Vs, ∀ i ∈ az S V,ag i=bx i)→iP S ag ts Vs=iP S bx ts Vs
 | [],[],_=>rfl
 | [],_::_,_=>rfl
 | _::_,[],_=>rfl
 | t::ts,V::Vs,h=>by
  obtain ⟨h1,h2⟩:=tg (t:=t) (h V (by simp))
  simp only [iP,h1,h2]
  rw [DS fun V hV=>h V (by simp [hV])]
theorem zy {bx:Bx S.C} : ∀ {ts:List Ty} {Vs:List (Sy.V S.C)} {x:an S.C ts} {us:aH S.C},iP S bx ts Vs=some (x,us)→cy bx us
 | [],[],_,_,h=>by cases h; intro u hu; simp at hu
 | [],_::_,_,_,h=>by cases h
 | _::_,[],_,_,h=>by cases h
 | t::ts,V::Vs,x,us,h=>by
  simp only [iP] at h
  obtain ⟨y,hy,h⟩:=Option.bind_eq_some_iff.1 h
  obtain ⟨⟨z,u2⟩,hz,h⟩:=Option.bind_eq_some_iff.1 h
  cases h
  exact (cy.cJ bx V).append (zy hz)
theorem zz (hS:cz S) (h:Inv P S w0 M0 s0 dq env a w μ) {US:aH S.C} (hU:cy env.bx US): ∀ {ts:List Ty} {Vs:List (Sy.V S.C)} {args:List Value} {x:an S.C ts} {us:aH S.C},
 ep P S w (aE S w0 M0 s0 env.bx μ w) μ env.bx Vs args→iP S env.bx ts Vs=some (x,us)→(∀ u ∈ us,u ∈ US)→eH S w (bW S w0 M0 s0 env.bx (av env.bx US) μ w) ts x args
 | [],[],_,_,_,hv,h,_=>hv
 | [],_::_,_,_,_,_,h,_=>by cases h
 | _::_,[],_,_,_,_,h,_=>by cases h
 | t::ts,V::Vs,args,x,us,⟨v,r,hargs,h1,h2⟩,hx,hs=>by
  simp only [iP] at hx
  obtain ⟨y,hy,hx⟩:=Option.bind_eq_some_iff.1 hx
  obtain ⟨⟨z,u2⟩,hz,hx⟩:=Option.bind_eq_some_iff.1 hx
  cases hx
  obtain ⟨_,d2⟩:=wD hS h (Tk.refl S env.bx) h1 hy
  refine ⟨v,r,hargs, ?_, ?_⟩
  · rw [show an.head (an.cons y z)=y from by cases ts <;> rfl]
    exact d2.mono S (rT S (hU.tk (us:=cJ S env.bx V) fun u hu=>hs u (by simp [hu])))
  · rw [show an.tail (an.cons y z)=z from by cases ts <;> rfl]
    exact zz hS h hU h2 hz fun u hu=>hs u (by simp [hu])
theorem H7 {s:St} {bx:Bx S.C} : ∀ {ts:List Ty} {x:an S.C ts} {us:List Value},eH S w s ts x us→aF P S w s μ bx (pZ S ts x) us∧ ∀ v ∈ pZ S ts x,az S v= []∧ax S v= []
 | [],_,_,h=>⟨h,by simp [pZ]⟩
 | t::ts,x,us,⟨v,r,h1,h2,h3⟩=>by
  obtain ⟨h4,h5⟩:=H7 (bx:=bx) h3
  refine ⟨⟨v,r,h1,h2,h4⟩,fun u hu=> ?_⟩
  rcases List.mem_cons.1 hu with rfl | hu
  · exact ⟨rfl,rfl⟩
  · exact h5 u hu
theorem Iq (hP:aU P S ai) (h:Inv P S w0 M0 s0 dq env a w μ) (hd: ∀ d,o.dst=some d→d<a.tmps.size) {f:Nat} {args:Array Value} {us:aH S.C} (hfz:cy env.bx us) {r:List Ty} {y:an S.C r}
 (hrun:(execOp a.eval o).run P w= .ok (.enter f args) w)
 (hc:Calls P f args w fun e w'=> ∃ us',e= .returned (jj us')∧aX w w' (fun _ _=>False)∧eH S w' (grown (aE S w0 M0 s0 (av env.bx us) μ w) w w') r y us')
 (hK:Goal P S w0 M0 s0 dq env a o.dst (n5 S (pZ S r y)) us K):o.wp P a w K Q:=by
 have h1:=h.tk hfz.mB
 unfold Oper.wp
 rw [hrun]
 refine Calls.mono hc ?_
 rintro en w' ⟨vs,rfl,hw,ic⟩
 obtain ⟨h2,hl⟩:=h1.world hw
 obtain ⟨h3,h4⟩:=H7 (P:=P) (μ:=μ) (bx:=av env.bx us) (ic.mono S hl)
 refine hK _ w' μ (h2.put hd (CR h3) fun j hj=> ?_) ?_
 · obtain ⟨v,hv,hj⟩:=FH hj
   obtain ⟨e1,e2⟩:=h4 v hv
   rw [e1,e2] at hj
   simp at hj
 · cases o.dst <;> simp [Act.put]
theorem Kn (hP:aU P S ai) {T:fD S} (hT: ∀ e ∈ T.es,mP P S w0 M0 e) (hF: ∀ e ∈ T.fs,fB P S e) (h:Inv P S w0 M0 s0 dq env a w μ) (hd: ∀ d,o.dst=some d→d<a.tmps.size) {B:Nat} {ids:List Nat}
 {c:Call} (ho:o.op= .call c) {f:Operand} (hc:c.callee= .value f) {Vs:List (Sy.V S.C)} {Vf:Sy.V S.C} (hargs:c.args.toList.mapM (aN S env.tm)=some Vs) (hf:aN S env.tm f=some Vf)
 (hkn: ∀ V ∈ Vs,gI S env.bx (restrict S env.bx ids) V) (M8:gI S env.bx (restrict S env.bx ids) Vf) (hnew: ∀ u ∈ us,B≤u.1→u.1<B+16→env.bx u.1=none)
 (hl:(sP S T B (restrict S env.bx ids) Vs Vf).leaf (V,us)) (hK:Goal P S w0 M0 s0 dq env a o.dst V us K):o.wp P a w K Q:=by
 obtain ⟨hvs,_⟩:=vR h hargs
 obtain ⟨xb,_⟩:=bk h hf
 have qF: ∀ {ts:List Ty} {x:an S.C ts} {us:aH S.C},iP S (restrict S env.bx ids) ts Vs=some (x,us)→iP S env.bx ts Vs=some (x,us):=fun hx=>by
  rw [DS (bx:=env.bx) fun V hV i hi=>(hkn V hV i hi).1] at hx; exact hx
 cases Vf with
 | fv A R g=>
  simp only [sP] at hl
  split at hl
  · rename_i x us' hx
    obtain ⟨y,hy,hl⟩:=hl
    obtain ⟨rfl,rfl⟩:=bl hl
    have hx:=qF hx
    have hfz:=zy hx
    have ic:=(zz hP.tocz h hfz hvs hx fun u hu=>hu).mono S (yG hfz.mB)
    have xb:ki P S w (aE S w0 M0 s0 env.bx μ w) A R g (a.eval f):=xb
    obtain ⟨g',first,cap,he,hok,o5⟩:=xb
    have :=o5 w _ (HH hfz.mB) (h.oJ.at h.fW fun _ _ h=>h.elim) x _ y ic hy
    refine Iq hP h hd hfz (B5 ho hc he hok) ?_ hK
    rw [show (c.args.toList.map a.eval).toArray=c.args.map a.eval from by rw [← Array.toList_map,Array.toArray_toList]] at this
    exact this
  · exact hl.elim
 | ey g vs=>
  obtain ⟨cs,he,hcs⟩:=xb
  cases vs with
  | nil=>
   simp only [sP] at hl
   have Ah:cs= #[]:=by have h0:cs.toList= []:=hcs; exact Array.toList_eq_nil_iff.1 h0
   subst Ah
   refine Km hP hT hF h hd (args:=c.args.map a.eval) (fun hok=> ?_) (by simpa using hvs) hkn hnew hl hK
   have :=B5 (w:=w) ho hc he hok
   simpa using this
  | cons v vs=>
   simp only [sP] at hl
   split at hl
   · rename_i e hfind
     split at hl
     · rename_i y x us' hy hx
       obtain ⟨z,hz,hl⟩:=hl
       obtain ⟨rfl,rfl⟩:=bl hl
       have hx:=qF hx
       have hfz:=zy hx
       have ic:=(zz hP.tocz h hfz hvs hx fun u hu=>hu).mono S (yG hfz.mB)
       have hmem:=List.mem_of_find?_eq_some hfind
       have jR:e.f=g:=by simpa using List.find?_some hfind
       obtain ⟨hok,o5⟩:=hF e hmem
       rw [jR] at hok o5
       have hy:caps S env.bx e.c (v::vs)=some y:=by
        rw [← zj (bx:=env.bx) (ag:=restrict S env.bx ids) fun u hu i hi=>have q:=M8 i (by simp only [az,List.mem_flatMap]; exact ⟨u,hu,hi⟩); ⟨q.1,q.2.1⟩]
        exact hy
       have hcap:=zk hP.tocz h (Tk.refl S env.bx) e.c hcs hy
       have hcap2:fy S w (aE S w0 M0 s0 (av env.bx us) μ w) e.c y cs.toList:=by
        refine fy.mono ?_ _ _ _ hcap
        exact (rT S hfz.mB).trans (yG hfz.mB)
       refine Iq hP h hd hfz (B5 ho hc he hok) ?_ hK
       have :=o5 w _ x y z (c.args.toList.map a.eval) cs.toList (h.oJ.at h.fW fun _ _ h=>h.elim) ic hcap2 hz
       rw [show (c.args.toList.map a.eval++cs.toList).toArray= #[]++c.args.map a.eval++cs from by simp] at this
       exact this
     · exact hl.elim
   · exact hl.elim
 | _=>exact hl.elim
theorem zY {bx eI:Bx S.C} : ∀ (vs:List (Sy.V S.C)) (u:Nat×cZ S.C),u ∈ jP S eI vs→(∀ i B,eI i=some B→bx i=some B)→ ∃ ws,u.2= .bG ws∧bx u.1=some (.cells ws)
 | [],u,hu,_=>by simp [jP] at hu
 | v::vs,u,hu,h=>by
  cases v with
  | ptr b off=>
   simp only [jP,List.mem_append] at hu
   rcases hu with hu | hu
   · split at hu
     · rename_i ws hb
       simp at hu
       subst hu
       exact ⟨ws,rfl,h _ _ hb⟩
     · simp at hu
   · exact zY vs u hu h
  | _=>exact zY vs u hu h
theorem Es {bx:Bx S.C} {i:Nat} : ∀ {us:aH S.C} (ag:Bx S.C),(∀ u ∈ us, ∃ ws,u.2= .bG ws∧bx u.1=some (.cells ws))→av ag us i=ag i∨ ∃ ws,bx i=some (.cells ws)∧av ag us i=some (.bG ws)
 | [],_,_=> .inl rfl
 | u::us,ag,h=>by
  rcases Es (us:=us) (aq ag u.1 (some u.2)) (fun v hv=>h v (by simp [hv])) with h1 | h1
  · by_cases e:i=u.1
    · right
      obtain ⟨ws,h2,h3⟩:=h u (by simp)
      refine ⟨ws,e▸h3, ?_⟩
      show av (aq ag u.1 (some u.2)) us i=_
      rw [h1,e,aO,h2]
    · left
      show av (aq ag u.1 (some u.2)) us i=_
      rw [h1,aZ _ _ e]
  · exact .inr h1
theorem Inv.wP (h:Inv P S w0 M0 s0 dq env a w μ) {ag:Bx S.C} (hk: ∀ i,ag i=env.bx i∨ ∃ ws,env.bx i=some (.cells ws)∧ag i=some (.bG ws)):Inv P S w0 M0 s0 dq { env with bx:=ag } a w μ:=by
 have hlv: ∀ i,live S ag i→ag i=env.bx i:=fun i hi=>by
  rcases hk i with e | ⟨ws,_,e⟩
  · exact e
  · unfold live at hi; rw [e] at hi; exact hi.elim
 have hf: ∀ i, ¬ ag i=env.bx i→live S ag i→False:=fun i hi hl=>hi (hlv i hl)
 have hl:bI w (aE S w0 M0 s0 env.bx μ w) w (aE S w0 M0 s0 ag μ w):=h.later (T:=fun _ _=>False) (U:=fun i=> ¬ ag i=env.bx i) (aX.refl w _) (fun _ _ h=>h.elim) (fun i hi=>⟨Classical.not_not.1 hi,rfl⟩) (fun i hi hl=>(hf i hi hl).elim)
 have hc: ∀ i B0,env.bx i=some B0→ ∃ B,ag i=some B∧cc S (μ i) (μ i) B0 B:=fun i B0 bD=>by
  rcases hk i with e | ⟨ws,e1,e2⟩
  · exact ⟨B0,e.trans bD,cc.refl S _ _⟩
  · rw [bD] at e1; cases e1
    exact ⟨_,e2,rfl⟩
 refine h.step (T:=fun _ _=>False) (U:=fun i=> ¬ ag i=env.bx i) (aX.refl w _) (fun _ _ h=>h.elim) (fun i hi=>⟨Classical.not_not.1 hi,rfl⟩)
  (fun i hi hl=>(hf i hi hl).elim) hc (fun i _ hi _ _ hl=>(hf i hi hl).elim) (fun i B hi hB=> ?_) (fun i vs hi hvs v hv j hj=> ?_)
 · rcases hk i with e | ⟨ws,e1,e2⟩
   · exact absurd e hi
   · rw [e2] at hB
     cases hB
     obtain ⟨g1,g2,g3,cs,g4,g5⟩:=h.bL i _ e1
     have bN:live S env.bx i:=by unfold live; rw [e1]; trivial
     have hlen:=aF.length P S g5
     refine ⟨g1,cs,fun j u hj=>⟨g4 j u hj, ?_⟩,aF.step P S hl hc (h.jh i ws (.inl e1)) g5⟩
     have hj':=(List.getElem?_eq_some_iff.1 hj).1
     have f_:(μ i).aD (μ i).b ((μ i).o+j):=⟨rfl,by omega,by omega⟩
     refine ⟨(jV P S (h.bL i) bN f_).1,(h.own i bN _ _ f_).elim (fun h=> .inr (.inr h)) (fun h=> .inr (.inl h)),fun q hq qI=> ?_⟩
     refine h.cM q i (fun e=> ?_) ((dF S (hlv q hq)).1 hq) bN _ _ qI f_
     subst e
     unfold live at hq; rw [e2] at hq; exact hq
 · rcases hk i with e | ⟨ws,e1,e2⟩
   · exact absurd e hi
   · rw [e2] at hvs
     rcases hvs with hvs | hvs
     · cases hvs
     · cases hvs
       have :=h.jh i _ (.inl e1) v hv j hj
       obtain ⟨B0,bD⟩:=Option.ne_none_iff_exists'.1 this
       obtain ⟨B',fH,_⟩:=hc j B0 bD
       rw [fH]; simp
theorem CP {s:St} {bx:Bx S.C} : ∀ {vs:List (Sy.V S.C)} {cs:List Value},vs.all (bE S)=true→ep P S w s μ bx vs cs→aF P S w s μ bx vs cs
 | [],_,_,h=>h
 | v::vs,_,hs,⟨c,r,h1,h2,h3⟩=>by
  simp only [List.all_cons,Bool.and_eq_true] at hs
  refine ⟨c,r,h1, ?_,CP hs.2 h3⟩
  cases v <;> first | exact h2 | simp [bE] at hs
theorem OU (h:Inv P S w0 M0 s0 dq env a w μ) (hd: ∀ d,o.dst=some d→d<a.tmps.size) {f:Nat} {cs:Array Operand} {ids:List Nat} (ho:o.op= .makeFunc (.func f) #[] cs)
 (hl:(match cs.toList.mapM (aN S env.tm) with
  | some vs=>cond (vs.all (bE S)) (aA S (.ey f vs) (jP S (restrict S env.bx ids) vs)) .fail
  | none=> .fail).leaf (V,us)) (hK:Goal P S w0 M0 s0 dq env a o.dst V us K):o.wp P a w K Q:=by
 split at hl
 · rename_i vs hvs
   cases hs:vs.all (bE S) with
   | false=>rw [hs] at hl; exact hl.elim
   | true=>
    rw [hs,cond_true] at hl
    obtain ⟨rfl,rfl⟩:=bl hl
    obtain ⟨h1,h2⟩:=vR h hvs
    have h3:=CP hs h1
    have hall: ∀ i,av env.bx (jP S (restrict S env.bx ids) vs) i=env.bx i∨ ∃ ws,env.bx i=some (.cells ws)∧av env.bx (jP S (restrict S env.bx ids) vs) i=some (.bG ws):=fun i=>
     Es env.bx fun u hu=>zY vs u hu fun i B hB=>dQ hB
    have hI:=h.wP hall
    have hc: ∀ i B0,env.bx i=some B0→ ∃ B,av env.bx (jP S (restrict S env.bx ids) vs) i=some B∧cc S (μ i) (μ i) B0 B:=fun i B0 bD=>by
     rcases hall i with e | ⟨ws,e1,e2⟩
     · exact ⟨B0,e.trans bD,cc.refl S _ _⟩
     · rw [bD] at e1; cases e1
       exact ⟨_,e2,rfl⟩
    have tR:bI w (aE S w0 M0 s0 env.bx μ w) w (aE S w0 M0 s0 (av env.bx (jP S (restrict S env.bx ids) vs)) μ w):=fun b o ⟨q1,q2,q3⟩=>⟨⟨q1,q2,fun i hi=>q3 i (by
     rcases hall i with e | ⟨ws,_,e⟩
     · exact (dF S e).1 hi
     · unfold live at hi; rw [e] at hi; exact hi.elim)⟩,rfl⟩
    have eK: ∀ v ∈ vs, ∀ j ∈ ax S v,env.bx j≠none:=fun v hv j hj=>by
     obtain ⟨x,hx,he⟩:=h2 v hv
     refine (bk h he).2 j ?_
     cases v <;> first | exact hj | simp [ax] at hj
    unfold Oper.wp
    have hrun:(execOp a.eval o).run P w= .ok (.value (.func (.func f) #[] (cs.map a.eval))) w:=by
     unfold execOp
     simp only [ho]
     simp [Instr.makeFunc]
    rw [hrun]
    refine hK _ w μ (hI.put hd (V:= .ey f vs) ⟨_,rfl, ?_⟩ fun j hj=> ?_) ?_
    · have :=aF.step P S tR hc eK h3
      simpa using this
    · simp only [az,List.mem_flatMap] at hj
      obtain ⟨v,hv,hj⟩:=hj
      obtain ⟨B0,bD⟩:=Option.ne_none_iff_exists'.1 (eK v hv j hj)
      obtain ⟨B',fH,_⟩:=hc j B0 bD
      dsimp only
      rw [fH]; simp
    · cases o.dst <;> simp [Act.put]
 · exact hl.elim
theorem OX (h:Inv P S w0 M0 s0 dq env a w μ) (hd: ∀ d,o.dst=some d→d<a.tmps.size) {c:Call} (ho:o.op= .call c) {b:Builtin} (hc:c.callee= .builtin b) {args:List (Sy.V S.C)}
 (hargs:c.args.toList.mapM (aN S env.tm)=some args)
 (hl:(match args with
  | [v,w]=>match v.int?,w.int? with
   | some (k,x),some (k',y)=>if k=k' then match b with
    | .min=>aA S (.d (.int k) (Min.min (α:=Int) x y)) []
    | .max=>aA S (.d (.int k) (Max.max (α:=Int) x y)) []
    | _=>Tr.fail else Tr.fail
   | _,_=>Tr.fail
  | _=>Tr.fail).leaf (V,us)) (hK:Goal P S w0 M0 s0 dq env a o.dst V us K):o.wp P a w K Q:=by
 split at hl
 · rename_i v u
   obtain ⟨xs,xx,hxs,lO,hex⟩:=C_ hargs
   have har:c.args= #[xs,xx]:=by
    have :c.args=c.args.toList.toArray:=by simp
    rw [this,hxs]
   split at hl
   · rename_i k x k' y hv hu
     split at hl
     · rename_i hkk
       subst hkk
       have e1:=gR (bk h lO).1 hv
       have e2:=gR (bk h hex).1 hu
       split at hl
       · obtain ⟨rfl,rfl⟩:=bl hl
         refine wp_pure (V:= .d (.int k) (Min.min (α:=Int) x y)) h (v:= .int k (Min.min x y)) ?_ hd (gy ..) (by simp [az,ax]) hK
         unfold execOp
         simp only [ho]
         simp [resolve,hc,har,e1,e2,invoke,builtin,Builtin.min_,Builtin.min2]
         split <;> first | omega | (simp; omega)
       · obtain ⟨rfl,rfl⟩:=bl hl
         refine wp_pure (V:= .d (.int k) (Max.max (α:=Int) x y)) h (v:= .int k (Max.max x y)) ?_ hd (gy ..) (by simp [az,ax]) hK
         unfold execOp
         simp only [ho]
         simp [resolve,hc,har,e1,e2,invoke,builtin,Builtin.max_,Builtin.max2]
         split <;> first | omega | (simp; omega)
       · exact hl.elim
     · exact hl.elim
   · exact hl.elim
 · exact hl.elim
end
end Go.Sy
namespace Go.Sy
section
variable {P:Program} {S:aP} {ai:Nat→Nat}
variable {w0:World} {M0 s0:St} {dq:List Deferred} {env:Env S.C} {a:Act} {w:World} {μ:Nat→Loc} {K:Act→World→Prop} {Q:Exit→Act→World→Prop} {o:Oper} {V:V S.C} {us:aH S.C}
theorem Dc {s:St} {bx:Bx S.C} {e:Ty} (he:bg e=false) {V:Sy.V S.C} {v:Value} {x:e.den S.C} (hv:bq P S w s μ bx V v) (hx:cA S (fun _=>none) e V=some x): ∃ n,aB S w s n e x [v]:=by
 have hd: ∀ (u:Ty) (y:u.den S.C),bU S w s u y v→dL S u e y=some x→ ∃ n,aB S w s n e x [v]:=by
  intro u y hr hc
  obtain ⟨rfl,rfl⟩:=dB hc
  obtain ⟨h1,n,hn⟩:=hr
  rw [aB.jG h1 he] at hn
  exact ⟨n,hn⟩
 cases V with
 | d u y=>exact hd u y hv hx
 | pr p i=>
  obtain ⟨rfl,rfl⟩:=dB hx
  cases hv
  exact ⟨1,rfl⟩
 | aW b e l=>exact hd (.sl e) l hv.1 hx
 | b8=>
  cases e with
  | sl e=>
   cases hx
   cases hv
   exact ⟨1,none,0,rfl,Nat.le_refl _, .inl rfl⟩
  | _=>cases hx
 | _=>cases hx
theorem HX {s:St} {bx:Bx S.C} : ∀ (ts:List Ty) (hts:ts.all (fun t=> !bg t)=true) {vs:List (Sy.V S.C)} {cs:List Value} {x:an S.C ts},aF P S w s μ bx vs cs→fQ S (fun _=>none) ts vs=some x→ ∃ n,bn S (fun t x cs=>aB S w s n t x cs) ts x (cs.take ts.length)
 | [],_,_,cs,_,_,_=>⟨0,by simp [bn]⟩
 | t::ts,hts,[],_,_,_,hx=>by simp [fQ] at hx
 | t::ts,hts,V::vs,cs,x,⟨c,r,hcs,hv,hr⟩,hx=>by
  simp only [List.all_cons,Bool.and_eq_true,Bool.not_eq_true'] at hts
  simp only [fQ] at hx
  obtain ⟨y,hy,hx⟩:=Option.bind_eq_some_iff.1 hx
  obtain ⟨z,hz,hx⟩:=Option.bind_eq_some_iff.1 hx
  cases hx
  obtain ⟨n,hn⟩:=Dc hts.1 hv hy
  obtain ⟨m,hm⟩:=HX ts hts.2 hr hz
  refine ⟨max n m,c,r.take ts.length,by simp [hcs], ?_, ?_⟩
  · rw [show an.head (an.cons y z)=y from by cases ts <;> rfl]
    exact hn.up S (by omega)
  · rw [show an.tail (an.cons y z)=z from by cases ts <;> rfl]
    exact bn.mono S (fun t x cs hr=>hr.up S (by omega)) _ _ _ hm
theorem DT (hP:aU P S ai) {s:St} {bx:Bx S.C} {u:Nat} {V:Sy.V S.C} {v:Value} {x:S.C u} (hv:RV P S w s μ bx V v) (hx:datum S (fun _=>none) (.st u) V=some x): ∃ cs n,v= .agg cs∧bn S (fun t x cs=>aB S w s n t x cs) (S.F u) (S.ex u x) cs.toList:=by
 cases V with
 | agg u' vs=>
  simp only [datum] at hx
  split at hx
  · rename_i hu
    obtain ⟨cs,g1,g2,g3,g4⟩:=hv
    simp only [ga] at hx
    obtain ⟨y,hy,hx⟩:=Option.bind_eq_some_iff.1 hx
    cases hx
    obtain ⟨n,hn⟩:=HX (S.F u) (hP.flat u) g4 hy
    have hlen:=aF.length P S g4
    rw [List.take_of_length_le (by rw [hlen,g2,hu]; exact Nat.le_refl _)] at hn
    refine ⟨cs,n,g1, ?_⟩
    rw [hP.qx]
    exact hn
  · cases hx
 | d t y=>
  simp only [datum] at hx
  obtain ⟨rfl,h2⟩:=dB hx
  cases h2
  obtain ⟨ha,n,hr⟩:=hv
  have : ∃ cs,v= .agg cs:=by
   cases v <;> first | exact ⟨_,rfl⟩ | (simp [Go.Sy.isAgg,bg] at ha)
  obtain ⟨cs,rfl⟩:=this
  cases n with
  | zero=>exact hr.elim
  | succ n=>exact ⟨cs,n,rfl,hr⟩
 | _=>cases hx
theorem wK {t:Ty} {ts:List Ty} (x y:an S.C (t::ts)):gN S (t::ts) x y↔qw S t (an.head x) (an.head y)∧gN S ts (an.tail x) (an.tail y):=by
 cases ts with
 | nil=>exact ⟨fun h=>⟨h,trivial⟩,fun h=>h.1⟩
 | cons u ts=>exact Iff.rfl
theorem Q1 (hP:aU P S ai) {s:St} {n m:Nat} {t:Nat} {T:Ty} (h4:match T with | .int _=>True | .bool=>True | .str=>True | _=>False) (h3:S.ty t=some T) {x y:T.den S.C} {c c':Value} (e2:aB S w s n T x [c]) (f2:aB S w s m T y [c']) (d:Nat):
 ∃ b0,(Op.equalIn (d+1) t c c').run P w= .ok b0 w∧(b0=true↔qw S T x y):=by
 have hty:=(hP.ty t T h3).2
 cases n with
 | zero=>exact e2.elim
 | succ n=>
 cases m with
 | zero=>exact f2.elim
 | succ m=>
 cases T with
 | int k=>
  have e2: [c]= [Value.int k _]:=e2
  have f2: [c']= [Value.int k _]:=f2
  cases e2; cases f2
  exact ⟨_,run_equalIn_int w d t k k _ _ hty,by show _↔ @Eq Int _ _; exact beq_iff_eq⟩
 | bool=>
  have e2: [c]= [Value.bool _]:=e2
  have f2: [c']= [Value.bool _]:=f2
  cases e2; cases f2
  exact ⟨_,run_equalIn_bool' w d t _ _ hty,by show _↔ @Eq Bool _ _; exact beq_iff_eq⟩
 | str=>
  have e2: [c]= [Value.string ⟨List.toArray _⟩]:=e2
  have f2: [c']= [Value.string ⟨List.toArray _⟩]:=f2
  cases e2; cases f2
  exact ⟨_,run_equalIn_string w d t _ _ hty,by show _↔ @Eq (List UInt8) _ _; rw [ByteArray.toList_eq,ByteArray.toList_eq]; exact beq_iff_eq⟩
 | st u=>exact h4.elim
 | sl e=>exact h4.elim
 | pt=>exact h4.elim
theorem G5 (hP:aU P S ai) {s:St} {d:Nat} {n m:Nat} : ∀ (fs:List Field) (ts:List Ty) (i:Nat) (xs ys:Array Value) (x y:an S.C ts),sB S fs ts i→
 bn S (fun t x cs=>aB S w s n t x cs) ts x (xs.toList.drop i)→bn S (fun t x cs=>aB S w s m t x cs) ts y (ys.toList.drop i)→ ∃ b,(Op.eqFields (d+1) xs ys fs).run P w= .ok b w∧(b=true↔gN S ts x y)
 | [],[],_,_,_,_,_,_,_,_=>⟨true,by simp [Op.eqFields],by simp [gN]⟩
 | [],_::_,_,_,_,_,_,h,_,_=>h.elim
 | _::_,[],_,_,_,_,_,h,_,_=>h.elim
 | fd::fs,T::ts,i,xs,ys,x,y,⟨h1,h2,h3,h4,h5⟩,⟨c,r,e1,e2,e3⟩,⟨c',r',f1,f2,f3⟩=>by
  have nx:xs.toList.drop (i+1)=r:=by rw [← List.drop_drop,e1]; rfl
  have ny:ys.toList.drop (i+1)=r':=by rw [← List.drop_drop,f1]; rfl
  obtain ⟨b,g1,g2⟩:=G5 hP (d:=d) fs ts (i+1) xs ys (an.tail x) (an.tail y) h5 (by rw [nx]; exact e3) (by rw [ny]; exact f3)
  have hsz:Ty.sz S T=1∧bg T=false:=by cases T <;> first | exact ⟨rfl,rfl⟩ | exact h4.elim
  have Nh:i<xs.size:=by
   have :=congrArg List.length e1
   simp at this; omega
  have Ni:i<ys.size:=by
   have :=congrArg List.length f1
   simp at this; omega
  have hm: ∀ ds,dU T ds=ds.headD Go.undef:=by intro ds; cases T <;> first | rfl | exact h4.elim
  have px:=l6 hP h3 (cs:=xs) (off:=i) (by rw [hsz.1]; omega) w
  have py:=l6 hP h3 (cs:=ys) (off:=i) (by rw [hsz.1]; omega) w
  rw [hm,e1,hsz.1] at px
  rw [hm,f1,hsz.1] at py
  have px:(part fd.type xs i).run P w= .ok c w:=px
  have py:(part fd.type ys i).run P w= .ok c' w:=py
  have heq: ∃ b0,(Op.equalIn (d+1) fd.type c c').run P w= .ok b0 w∧(b0=true↔qw S T (an.head x) (an.head y)):=by
   have hty:=(hP.ty fd.type T h3).2
   cases n with
   | zero=>exact e2.elim
   | succ n=>
   cases m with
   | zero=>exact f2.elim
   | succ m=>
   cases T with
   | int k=>
    have e2: [c]= [Value.int k _]:=e2
    have f2: [c']= [Value.int k _]:=f2
    cases e2; cases f2
    exact ⟨_,run_equalIn_int w d fd.type k k _ _ hty,by show _↔ @Eq Int _ _; exact beq_iff_eq⟩
   | bool=>
    have e2: [c]= [Value.bool _]:=e2
    have f2: [c']= [Value.bool _]:=f2
    cases e2; cases f2
    exact ⟨_,run_equalIn_bool' w d fd.type _ _ hty,by show _↔ @Eq Bool _ _; exact beq_iff_eq⟩
   | str=>
    have e2: [c]= [Value.string ⟨List.toArray _⟩]:=e2
    have f2: [c']= [Value.string ⟨List.toArray _⟩]:=f2
    cases e2; cases f2
    exact ⟨_,run_equalIn_string w d fd.type _ _ hty,by show _↔ @Eq (List UInt8) _ _; rw [ByteArray.toList_eq,ByteArray.toList_eq]; exact beq_iff_eq⟩
   | st u=>exact h4.elim
   | sl e=>exact h4.elim
   | pt=>exact h4.elim
  obtain ⟨b0,k1,k2⟩:=heq
  rw [wK]
  simp only [Op.eqFields,h2,ne_eq,not_false_eq_true,if_true,h1,Sem.run_bind,px,py,k1,Result.andThen_ok]
  cases b0 with
  | true=>
   simp only [Bool.not_true,Bool.false_eq_true,if_false]
   exact ⟨b,g1,by rw [g2]; exact ⟨fun h=>⟨k2.1 rfl,h⟩,fun h=>h.2⟩⟩
  | false=>
   simp only [Bool.not_false,if_true,Sem.run_pure]
   exact ⟨false,rfl,fun h=>(by cases h),fun h=>(by have :=k2.2 h.1; cases this)⟩
def mD:(ts us:List Ty)→an S.C (ts++us)→an S.C ts
 | [],_,_=>()
 | _::ts,us,x=>an.cons (an.head x) (mD ts us (an.tail x))
def vo:(ts us:List Ty)→an S.C (ts++us)→an S.C us
 | [],_,x=>x
 | _::ts,us,x=>vo ts us (an.tail x)
theorem head_cons {t:Ty} {ts:List Ty} (x:t.den S.C) (r:an S.C ts):an.head (an.cons x r)=x:=by cases ts <;> rfl
theorem tail_cons {t:Ty} {ts:List Ty} (x:t.den S.C) (r:an S.C ts):an.tail (an.cons x r)=r:=by cases ts <;> rfl
theorem Ed: ∀ (ts us:List Ty) (x y:an S.C (ts++us)),gN S (ts++us) x y↔gN S ts (mD ts us x) (mD ts us y)∧gN S us (vo ts us x) (vo ts us y)
 | [],us,x,y=>by
  show _↔True∧_
  rw [true_and]; rfl
 | t::ts,us,x,y=>by
  have h:=wK (S:=S) (t:=t) (ts:=ts++us) x y
  have h2:=wK (S:=S) (t:=t) (ts:=ts) (mD (t::ts) us x) (mD (t::ts) us y)
  show gN S (t::(ts++us)) x y↔_
  rw [h,h2,Ed ts us]
  simp only [mD,vo,head_cons,tail_cons]
  exact and_assoc.symm
theorem yQ {R:(t:Ty)→t.den S.C→List Value→Prop} : ∀ (ts us:List Ty) (x:an S.C (ts++us)) (cs:List Value),bn S R (ts++us) x cs→bn S R ts (mD ts us x) (cs.take ts.length)∧bn S R us (vo ts us x) (cs.drop ts.length)∧ts.length≤cs.length
 | [],us,x,cs,h=>⟨rfl,h,Nat.zero_le _⟩
 | t::ts,us,x,cs,⟨c,r,hc,h1,h2⟩=>by
  subst hc
  obtain ⟨a,b,l⟩:=yQ ts us _ _ h2
  refine ⟨⟨c,r.take ts.length,rfl, ?_, ?_⟩,b,by simpa using l⟩
  · simp only [mD,head_cons]; exact h1
  · simp only [mD,tail_cons]; exact a
theorem B6 (hP:aU P S ai) {s:St} {d:Nat} {n m:Nat} : ∀ (fs:List Field) (ts:List Ty) (i:Nat) (xs ys:Array Value) (x y:an S.C ts),sC P S fs ts i→
 bn S (fun t x cs=>aB S w s n t x cs) ts x (xs.toList.drop i)→bn S (fun t x cs=>aB S w s m t x cs) ts y (ys.toList.drop i)→ ∃ b,(Op.eqFields (d+3) xs ys fs).run P w= .ok b w∧(b=true↔gN S ts x y)
 | [],ts,_,_,_,_,_,h,_,_=>by
  have h:ts= []:=h
  subst h
  exact ⟨true,by simp [Op.eqFields],by simp [gN]⟩
 | fd::fs,ts,i,xs,ys,x,y,⟨h1,h2,h3⟩,hx,hy=>by
  have step: ∀ (b0 b:Bool) (c c':Value) (A B:Prop),(part fd.type xs i).run P w= .ok c w→(part fd.type ys i).run P w= .ok c' w→(Op.equalIn (d+3) fd.type c c').run P w= .ok b0 w→(b0=true↔A)→(Op.eqFields (d+3) xs ys fs).run P w= .ok b w→(b=true↔B)→
   ∃ b,(Op.eqFields (d+3) xs ys (fd::fs)).run P w= .ok b w∧(b=true↔A∧B):=by
   intro b0 b c c' A B px py k1 k2 g1 g2
   simp only [Op.eqFields,h2,ne_eq,not_false_eq_true,if_true,h1,Sem.run_bind,px,py,k1,Result.andThen_ok]
   cases b0 with
   | true=>
    simp only [Bool.not_true,Bool.false_eq_true,if_false]
    exact ⟨b,g1,by rw [g2]; exact ⟨fun h=>⟨k2.1 rfl,h⟩,fun h=>h.2⟩⟩
   | false=>
    simp only [Bool.not_false,if_true,Sem.run_pure]
    exact ⟨false,rfl,fun h=>(by cases h),fun h=>(by have :=k2.2 h.1; cases this)⟩
  rcases h3 with ⟨T,r,rfl,hty,hsc,h5⟩ | ⟨v,r,gs,rfl,hty,hu,hsi,hpos,hfl,h5⟩
  · obtain ⟨c,cr,e1,e2,e3⟩:=hx
    obtain ⟨c',K6,f1,f2,f3⟩:=hy
    have nx:xs.toList.drop (i+1)=cr:=by rw [← List.drop_drop,e1]; rfl
    have ny:ys.toList.drop (i+1)=K6:=by rw [← List.drop_drop,f1]; rfl
    obtain ⟨b,g1,g2⟩:=B6 hP (d:=d) fs r (i+1) xs ys (an.tail x) (an.tail y) h5 (by rw [nx]; exact e3) (by rw [ny]; exact f3)
    have S5:sB S [fd] [T] i:=⟨h1,h2,hty,hsc,trivial⟩
    have hsz:Ty.sz S T=1∧bg T=false:=by cases T <;> first | exact ⟨rfl,rfl⟩ | exact hsc.elim
    have Nh:i<xs.size:=by
     have :=congrArg List.length e1
     simp at this; omega
    have Ni:i<ys.size:=by
     have :=congrArg List.length f1
     simp at this; omega
    have hm: ∀ ds,dU T ds=ds.headD Go.undef:=by intro ds; cases T <;> first | rfl | exact hsc.elim
    have px:=l6 hP hty (cs:=xs) (off:=i) (by rw [hsz.1]; omega) w
    have py:=l6 hP hty (cs:=ys) (off:=i) (by rw [hsz.1]; omega) w
    rw [hm,e1,hsz.1] at px
    rw [hm,f1,hsz.1] at py
    have px:(part fd.type xs i).run P w= .ok c w:=px
    have py:(part fd.type ys i).run P w= .ok c' w:=py
    obtain ⟨b0,k1,k2⟩:=Q1 (w:=w) hP hsc hty e2 f2 (d+2)
    rw [wK]
    exact step b0 b c c' _ _ px py k1 k2 g1 g2
  · obtain ⟨x1,x2,lx⟩:=yQ (S.F v) r x _ hx
    obtain ⟨y1,y2,ly⟩:=yQ (S.F v) r y _ hy
    rw [List.drop_drop] at x2 y2
    obtain ⟨b,g1,g2⟩:=B6 hP (d:=d) fs r (i+(S.F v).length) xs ys _ _ h5 x2 y2
    rw [List.length_drop] at lx ly
    have px:=l6 hP hty (cs:=xs) (off:=i) (by show i+(S.F v).length≤_; have :xs.toList.length=xs.size:=Array.length_toList; omega) w
    have py:=l6 hP hty (cs:=ys) (off:=i) (by show i+(S.F v).length≤_; have :ys.toList.length=ys.size:=Array.length_toList; omega) w
    have hfo:P.underlying fd.type=some (.struct (P.fieldsOf fd.type)):=by unfold Program.fieldsOf; rw [hu]
    have Aj:P.fieldsOf fd.type=gs:=by unfold Program.fieldsOf; rw [hu]
    obtain ⟨b0,k1,k2⟩:=G5 hP (d:=d+1) gs.toList (S.F v) 0 ((xs.toList.drop i).take (S.F v).length).toArray ((ys.toList.drop i).take (S.F v).length).toArray _ _ hfl (by simpa using x1) (by simpa using y1)
    rw [Ed]
    refine step b0 b (.agg ((xs.toList.drop i).take (S.F v).length).toArray) (.agg ((ys.toList.drop i).take (S.F v).length).toArray) _ _ px py ?_ k2 g1 g2
    rw [run_equalIn_agg w (d+2) fd.type _ _ hfo hsi,Aj]
    exact k1
theorem RL (hP:aU P S ai) (h:Inv P S w0 M0 s0 dq env a w μ) (hd: ∀ d,o.dst=some d→d<a.tmps.size) {op:BinOp} {t t':TypeId} {x y:Operand} (ho:o.op= .binOp op t x y t') (he:S.eq t=true)
 (hl:(match aN S env.tm x,aN S env.tm y with
  | some p,some q=>structEq S op t p q
  | _,_=> .fail).leaf (V,us)) (hK:Goal P S w0 M0 s0 dq env a o.dst V us K):o.wp P a w K Q:=by
 obtain ⟨u,ht,⟨fs,hu,hfl⟩,hsi,hgt⟩:=hP.eq t he
 have hfo:P.underlying t=some (.struct (P.fieldsOf t)):=by unfold Program.fieldsOf; rw [hu]
 have Aj:P.fieldsOf t=fs:=by unfold Program.fieldsOf; rw [hu]
 split at hl
 · rename_i p q hx hy
   obtain ⟨hv1,_⟩:=bk h hx
   obtain ⟨fe,_⟩:=bk h hy
   unfold structEq at hl
   rw [ht] at hl
   dsimp only at hl
   split at hl
   · rename_i c d hc hd'
     obtain ⟨xs,n,e1,r1⟩:=DT hP hv1 hc
     obtain ⟨ys,m,e2,r2⟩:=DT hP fe hd'
     obtain ⟨b,g1,g2⟩:=B6 hP (d:=9996) fs.toList (S.F u) 0 xs ys _ _ hfl (by simpa using r1) (by simpa using r2)
     have hrun:(Op.equalIn 10000 t (.agg xs) (.agg ys)).run P w= .ok b w:=by
      rw [run_equalIn_agg w 9999 t xs ys hfo hsi,Aj]
      exact g1
     have fin: ∀ (z:Bool),(binOp op t (.agg xs) (.agg ys)).run P w= .ok (.bool z) w→RV P S w (aE S w0 M0 s0 env.bx μ w) μ env.bx V (.bool z)→az S V= []→us= []→o.wp P a w K Q:=by
      rintro z hz hr hi rfl
      refine wp_pure h (v:= .bool z) ?_ hd hr (by simp [hi]) hK
      unfold execOp
      simp only [ho,e1,e2]
      simp [run_eqGuard_agg w op t x y xs ys hgt,hz]
     split at hl
     · obtain ⟨rfl,rfl⟩:=bl hl
       refine fin b (by rw [run_eql_struct,hrun]; rfl) ?_ rfl rfl
       show Value.bool b=Value.bool (@decide _ (tr S _ _ _))
       congr 1
       cases hb:b with
       | true=>exact (@decide_eq_true _ (_) (g2.1 hb)).symm
       | false=>exact (@decide_eq_false _ (_) (fun hq=>by rw [g2.2 hq] at hb; cases hb)).symm
     · obtain ⟨rfl,rfl⟩:=bl hl
       refine fin (!b) (by rw [run_neq_struct,hrun]; rfl) ?_ rfl rfl
       show Value.bool (!b)=Value.bool (@decide _ (@instDecidableNot _ (tr S _ _ _)))
       congr 1
       cases hb:b with
       | true=>exact (@decide_eq_false _ (_) (fun hq=>hq (g2.1 hb))).symm
       | false=>exact (@decide_eq_true _ (_) (fun hq=>by rw [g2.2 hq] at hb; cases hb)).symm
     · exact hl.elim
   · exact hl.elim
 · exact hl.elim
theorem x_ {s:St} {bx:Bx S.C} {e:Ty} (he:bg e=false): ∀ {vs:List (Sy.V S.C)} {cs:List Value} {l:List (e.den S.C)},aF P S w s μ bx vs cs→rowOf S e vs=some l→l.length=vs.length∧
 ∀ (j:Nat) (x:e.den S.C),l[j]? =some x→ ∃ c n,cs[j]? =some c∧aB S w s n e x [c]
 | [],_,_,_,hl=>by
  cases hl
  exact ⟨rfl,fun j x h=>by simp at h⟩
 | v::vs,_,l,⟨c,r,rfl,h1,h2⟩,hl=>by
  simp only [rowOf] at hl
  obtain ⟨x,hx,hl⟩:=Option.bind_eq_some_iff.1 hl
  obtain ⟨l',hl',hl⟩:=Option.bind_eq_some_iff.1 hl
  cases hl
  obtain ⟨h3,h4⟩:=x_ he h2 hl'
  refine ⟨by simp [h3],fun j y hj=> ?_⟩
  cases j with
  | zero=>
   simp at hj
   subst hj
   obtain ⟨n,hn⟩:=Dc he h1 hx
   exact ⟨c,n,rfl,hn⟩
  | succ j=>
   obtain ⟨c',n,h5,h6⟩:=h4 j y (by simpa using hj)
   exact ⟨c',n,by simpa using h5,h6⟩
theorem zc (hP:aU P S ai) {t n u:Nat} {e:Ty} (h:mT S t=some (n,e,u)): ∃ te,S.ty t=some (.st u)∧P.underlying t=some (.array n te)∧S.ty te=some e∧Ty.sz S e=1∧bg e=false∧S.F u=List.replicate n e:=by
 unfold mT at h
 cases ha:S.ar t with
 | none=>rw [ha] at h; cases h
 | some p=>
  obtain ⟨n',e'⟩:=p
  rw [ha] at h
  dsimp only at h
  split at h
  · cases h
  · rename_i u' Nr hu
    cases h
    obtain ⟨_,_,h3⟩:=hP.ty t _ hu
    rw [ha] at h3
    obtain ⟨te,h4,h5,h6,_⟩:=h3
    rcases h6 with ⟨h6,h7,h8⟩ | ⟨w,rfl,_⟩
    · exact ⟨te,hu,h4,h5,h6,h7,h8⟩
    · exact absurd rfl (Nr w)
  · cases h
theorem JU (hP:aU P S ai) {t n m u:Nat} (h:vT S t=some (n,m,u)): ∃ te,S.ty t=some (.st u)∧P.underlying t=some (.array n te)∧S.ty te=some (.st m):=by
 unfold vT at h
 cases ha:S.ar t with
 | none=>rw [ha] at h; cases h
 | some p=>
  obtain ⟨n',e'⟩:=p
  rw [ha] at h
  dsimp only at h
  split at h
  · rename_i w u' hu
    cases h
    obtain ⟨_,_,h3⟩:=hP.ty t _ hu
    rw [ha] at h3
    obtain ⟨te,h4,h5,_⟩:=h3
    exact ⟨te,hu,h4,h5⟩
  · cases h
theorem Q6 (hP:aU P S ai) {t n te:Nat} {e:Ty} (hu:P.underlying t=some (.array n te)) (he:S.ty te=some e) (h1:Ty.sz S e=1) {b o':Nat} {k:IntKind} {i:Int} (h0:0≤i) (hi:i<(n:Int)) (w:World):
 (Instr.indexAt t (.pointer (some ⟨b,o',none⟩)) (.int k i)).run P w= .ok (.pointer (some ⟨b,o'+i.toNat,none⟩)) w:=by
 simp [Instr.indexAt,asIntOf,run_underlying hu,h0,hi,hP.size he w,Addr.add_mid,h1,Instr.sureAddr]
theorem Q4 (hP:aU P S ai) {t n te:Nat} {e:Ty} (hu:P.underlying t=some (.array n te)) (he:S.ty te=some e) (h1:Ty.sz S e=1) (hst:bg e=false) {cs:Array Value} {c:Value} {k:IntKind} {i:Int} (h0:0≤i) (hi:i<(n:Int)) (hc:cs.toList[i.toNat]? =some c) (w:World):
 (Instr.index t (.agg cs) (.int k i)).run P w= .ok c w:=by
 have hlt:i.toNat<cs.size:=by
  have :=(List.getElem?_eq_some_iff.1 hc).1
  simpa using this
 have :=l6 hP he (cs:=cs) (off:=i.toNat) (by rw [h1]; omega) w
 rw [h1] at this
 simp only [Instr.index,asIntOf,Sem.run_bind,Sem.run_pure,Result.andThen_ok,run_underlying hu]
 simp only [h0,hi,and_self,if_true,Sem.run_bind,hP.size he w,Result.andThen_ok,h1,Nat.mul_one,this]
 congr 1
 have hm: ∀ ds,dU e ds=ds.headD Go.undef:=by intro ds; cases e <;> first | rfl | simp [bg] at hst
 have o6:cs.toList[i.toNat]=c:=by
  have :=(List.getElem?_eq_some_iff.1 hc).2
  exact this
 rw [hm,List.drop_eq_getElem_cons (by simpa using hlt),o6]
 rfl
theorem SV (h:Inv P S w0 M0 s0 dq env a w μ) {o:Oper} {K:Act→World→Prop} {Q:Exit→Act→World→Prop} {V:Sy.V S.C} {v:Value} {us:aH S.C}
 (hrun:(execOp a.eval o).run P w= .ok (.value v) w) (hd: ∀ d,o.dst=some d→d<a.tmps.size) (hk: ∀ i,av env.bx us i=env.bx i∨ ∃ ws,env.bx i=some (.cells ws)∧av env.bx us i=some (.bG ws))
 (hv:Inv P S w0 M0 s0 dq { env with bx:=av env.bx us } a w μ→RV P S w (aE S w0 M0 s0 (av env.bx us) μ w) μ (av env.bx us) V v) (hr: ∀ i ∈ az S V,av env.bx us i≠none)
 (hK: ∀ a' w' μ',Inv P S w0 M0 s0 dq (env.apply o.dst V us) a' w' μ'→a'.tmps.size=a.tmps.size→K a' w'):o.wp P a w K Q:=by
 unfold Oper.wp
 rw [hrun]
 have hI:=h.wP hk
 refine hK _ w μ (hI.put hd (hv hI) hr) ?_
 cases o.dst <;> simp [Act.put]
theorem JQ (hP:aU P S ai) (h:Inv P S w0 M0 s0 dq env a w μ) (hd: ∀ d,o.dst=some d→d<a.tmps.size) {t:TypeId} {x i:Operand} {ids:List Nat} {n u:Nat} {e:Ty} (ho:o.op= .indexAddr t x i) (hte:mT S t=some (n,e,u))
 (hl:(match aN S env.tm x,aN S env.tm i with
  | some v,some w=>match w.int? with
   | some (_,j)=>zd S n e u (restrict S env.bx ids) j v
   | none=> .fail
  | _,_=> .fail).leaf (V,us)) (hK:Goal P S w0 M0 s0 dq env a o.dst V us K):o.wp P a w K Q:=by
 obtain ⟨te,ht,hu,he,h1,hst,hF⟩:=zc hP hte
 split at hl
 · rename_i v wv hx hi
   obtain ⟨hv,cO⟩:=bk h hx
   obtain ⟨lQ,_⟩:=bk h hi
   split at hl
   · rename_i k j hn
     have hin:=gR lQ hn
     have run: ∀ (b off:Nat),a.eval x= .pointer (some ⟨b,off,none⟩)→0≤j→j<(n:Int)→(execOp a.eval o).run P w= .ok (.value (.pointer (some ⟨b,off+j.toNat,none⟩))) w:=by
      intro b off he' h0 hj
      unfold execOp
      simp only [ho,he',hin]
      simp [Q6 hP hu he h1 h0 hj]
     unfold zd at hl
     split at hl
     · rename_i b off
       have main: ∀ (vs:List (Sy.V S.C)),(env.bx b=some (.cells vs)∨env.bx b=some (.bG vs))→(match rowOf S e ((vs.drop off).take n) with
        | some l=> .gd (dD j l.length) (aA S (.cN e (fG S e l j)) [(b, .bG vs)])
        | none=> .fail:Rt S).leaf (V,us)→o.wp P a w K Q:=by
        intro vs hb bR
        clear hl
        split at bR
        · rename_i l hrow
          obtain ⟨hg,rfl,rfl⟩:=eJ bR
          have g0:0≤j:=hg ⟨0≤j,inferInstance⟩ (by simp [dD,gd])
          have g1:j<(l.length:Int):=hg ⟨j<(l.length:Int),inferInstance⟩ (by simp [dD,gd])
          have hk: ∀ i,av env.bx [(b,cZ.bG vs)] i=env.bx i∨ ∃ ws,env.bx i=some (.cells ws)∧av env.bx [(b,cZ.bG vs)] i=some (.bG ws):=by
           intro i
           by_cases e':i=b
           · subst e'
             rcases hb with hb | hb
             · exact .inr ⟨vs,hb,aO ..⟩
             · exact .inl ((aO ..).trans hb.symm)
           · exact .inl (aZ _ _ e')
          have hlen:l.length≤n∧l.length≤vs.length - off:=by
           have : ∀ (e:Ty) (vs:List (Sy.V S.C)) (l:List (e.den S.C)),rowOf S e vs=some l→l.length=vs.length:=by
            intro e vs
            induction vs with
            | nil=>intro l hl; cases hl; rfl
            | cons v vs ih=>
             intro l hl
             simp only [rowOf] at hl
             obtain ⟨x,hx,hl⟩:=Option.bind_eq_some_iff.1 hl
             obtain ⟨l',hl',hl⟩:=Option.bind_eq_some_iff.1 hl
             cases hl
             simp [ih l' hl']
           have :=this e _ l hrow
           rw [List.length_take,List.length_drop] at this
           omega
          have AB:a.eval x= .pointer (some ⟨(μ b).b,(μ b).o+off,none⟩):=hv
          refine SV (V:= .cN e (fG S e l j)) h (run _ _ AB g0 (by omega)) hd hk (fun hI=> ?_) (by simp [az,ax]) hK
          have h_:av env.bx [(b,cZ.bG vs)] b=some (.bG vs):=aO ..
          obtain ⟨_,cs,cF,cB⟩:=hI.bL b _ h_
          obtain ⟨_,gv⟩:=x_ hst (aF.take P S n (aF.drop P S off cB)) hrow
          obtain ⟨c,m,hc,hr⟩:=gv j.toNat _ (qB g0 g1)
          refine ⟨(μ b).b,(μ b).o+off+j.toNat,[c],rfl,fun q u hq=> ?_,by rw [h1]; rfl,m,hr⟩
          cases q with
          | zero=>
           simp at hq
           subst hq
           rw [List.getElem?_take] at hc
           split at hc
           · rw [List.getElem?_drop] at hc
             have :=cF (off+j.toNat) c hc
             rw [Nat.add_zero,Nat.add_assoc]
             exact this
           · cases hc
          | succ q=>simp at hq
        · exact bR.elim
       split at hl
       · rename_i vs hb; exact main vs (.inl (dQ hb)) hl
       · rename_i vs hb; exact main vs (.inr (dQ hb)) hl
       · exact hl.elim
     · rename_i t' y
       split at hl
       · rename_i y' hc
         obtain ⟨rfl,rfl⟩:=dB hc
         split at hl
         · rename_i l hrow
           obtain ⟨hg,rfl,rfl⟩:=eJ hl
           have g0:0≤j:=hg ⟨0≤j,inferInstance⟩ (by simp [dD,gd])
           have g1:j<(l.length:Int):=hg ⟨j<(l.length:Int),inferInstance⟩ (by simp [dD,gd])
           obtain ⟨b,o',ds,AB,cF,hlen,m,hr⟩:=hv
           obtain ⟨cB,_⟩:=kz (P:=P) hP.tocz μ env.bx hr
           obtain ⟨tT,gv⟩:=x_ hst (aF.take P S n cB) hrow
           rw [List.length_take] at tT
           obtain ⟨c,m',hc,hr'⟩:=gv j.toNat _ (qB g0 g1)
           refine wp_pure (V:= .cN e (fG S e l j)) h (run _ _ AB g0 (by omega)) hd ⟨b,o'+j.toNat,[c],rfl,fun q u hq=> ?_,by rw [h1]; rfl,m',hr'⟩ (by simp [az,ax]) hK
           cases q with
           | zero=>
            simp at hq
            subst hq
            rw [List.getElem?_take] at hc
            split at hc
            · have :=cF j.toNat c hc
              rw [Nat.add_zero]
              exact this
            · cases hc
           | succ q=>simp at hq
         · exact hl.elim
       · exact hl.elim
     · exact hl.elim
   · exact hl.elim
 · exact hl.elim
theorem RI (hP:aU P S ai) (h:Inv P S w0 M0 s0 dq env a w μ) (hd: ∀ d,o.dst=some d→d<a.tmps.size) {t:TypeId} {x y:Operand} {ids:List Nat} {n u:Nat} {e:Ty} (ho:o.op= .store t x y) (hte:mT S t=some (n,e,u))
 (eK: ∀ V,aN S env.tm y=some V→ ∀ i ∈ az S V,restrict S env.bx ids i=env.bx i)
 (hl:(match aN S env.tm x,aN S env.tm y with
  | some p,some v=>Cs S u (restrict S env.bx ids) v p
  | _,_=> .fail).leaf (V,us)) (hK:Goal P S w0 M0 s0 dq env a o.dst V us K):o.wp P a w K Q:=by
 obtain ⟨te,ht,_⟩:=zc hP hte
 split at hl
 · rename_i p v hx hy
   unfold Cs at hl
   split at hl
   · rename_i b off
     split at hl
     · rename_i vs hb
       cases hf:fits S (cellsOf S v) (Ty.sz S (.st u))&&Nat.ble (off+Ty.sz S (.st u)) vs.length with
       | false=>rw [hf] at hl; exact hl.elim
       | true=>
        rw [hf] at hl
        obtain ⟨rfl,rfl⟩:=bl hl
        refine HF hP h hd (V:= .skip) (us:= [(b, .cells (setCells S vs off (cellsOf S v)))]) ho eK ?_ fun a' w' μ' hI hsz=> ?_
        · rw [ht,hx,hy]
          simp only [vk]
          rw [hb]
          dsimp only
          rw [hf]
          rfl
        · have hfr:=hI.wP (ag:=av env.bx [(b, .bG (setCells S vs off (cellsOf S v)))]) fun i=>by
           by_cases e':i=b
           · subst e'
             exact .inr ⟨_,aO ..,aO ..⟩
           · exact .inl ((aZ _ _ e').trans (aZ _ _ e').symm)
          exact hK a' w' μ' hfr hsz
     · exact hl.elim
   · exact hl.elim
 · exact hl.elim
theorem JS (hP:aU P S ai) (h:Inv P S w0 M0 s0 dq env a w μ) (hd: ∀ d,o.dst=some d→d<a.tmps.size) {t:TypeId} {x i:Operand} {n u:Nat} {e:Ty} (ho:o.op= .index t x i) (hte:mT S t=some (n,e,u))
 (hl:(match aN S env.tm x,aN S env.tm i with
  | some v,some w=>match w.int? with
   | some (_,j)=>zf S n e u j v
   | none=> .fail
  | _,_=> .fail).leaf (V,us)) (hK:Goal P S w0 M0 s0 dq env a o.dst V us K):o.wp P a w K Q:=by
 obtain ⟨te,ht,hu,he,h1,hst,hF⟩:=zc hP hte
 split at hl
 · rename_i v wv hx hi
   obtain ⟨hv,cO⟩:=bk h hx
   obtain ⟨lQ,_⟩:=bk h hi
   split at hl
   · rename_i k j hn
     have hin:=gR lQ hn
     unfold zf at hl
     split at hl
     · rename_i vs hcells
       split at hl
       · rename_i l hrow
         obtain ⟨hg,rfl,rfl⟩:=eJ hl
         have g0:0≤j:=hg ⟨0≤j,inferInstance⟩ (by simp [dD,gd])
         have g1:j<(l.length:Int):=hg ⟨j<(l.length:Int),inferInstance⟩ (by simp [dD,gd])
         have Av: ∃ cs,a.eval x= .agg cs∧aF P S w (aE S w0 M0 s0 env.bx μ w) μ env.bx vs cs.toList:=by
          unfold sL at hcells
          split at hcells
          · rename_i u' vs'
            cases hb:Nat.beq u u' with
            | false=>rw [hb] at hcells; cases hcells
            | true=>
             rw [hb] at hcells
             cases hcells
             obtain ⟨cs,g1,g2,g3,g4⟩:=hv
             exact ⟨cs,g1,g4⟩
          · rename_i t' y
            obtain ⟨y',hc,hcells⟩:=Option.bind_eq_some_iff.1 hcells
            cases hcells
            obtain ⟨rfl,rfl⟩:=dB hc
            obtain ⟨ha,m,hr⟩:=hv
            have : ∃ cs,a.eval x= .agg cs:=by
             cases e':a.eval x <;> rw [e'] at ha <;> first | exact ⟨_,rfl⟩ | (simp [Go.Sy.isAgg,bg] at ha)
            obtain ⟨cs,hcs⟩:=this
            rw [hcs] at hr
            exact ⟨cs,hcs,(kz (P:=P) hP.tocz μ env.bx hr).1⟩
          · cases hcells
         obtain ⟨cs,hcs,cB⟩:=Av
         obtain ⟨tT,gv⟩:=x_ hst (aF.take P S n cB) hrow
         rw [List.length_take] at tT
         obtain ⟨c,m',hc,hr'⟩:=gv j.toNat _ (qB g0 g1)
         have fI:cs.toList[j.toNat]? =some c:=by
          rw [List.getElem?_take] at hc
          split at hc
          · exact hc
          · cases hc
         refine wp_pure (V:= .d e (fG S e l j)) h (v:=c) ?_ hd ?_ (by simp [az,ax]) hK
         · unfold execOp
           simp only [ho,hcs,hin]
           simp [Q4 hP hu he h1 hst g0 (by omega:j<(n:Int)) fI]
         · have :=xB hr'
           have hm: ∀ ds,dU e ds=ds.headD Go.undef:=by intro ds; cases e <;> first | rfl | simp [bg] at hst
           rw [hm] at this
           exact this
       · exact hl.elim
     · exact hl.elim
   · exact hl.elim
 · exact hl.elim
theorem Da {w k:Nat} {j:Int} {vs:List (Sy.V S.C)} : ∀ {i m:Nat},(vS S w k j vs i m).leaf (V,us)→ ∃ q,i≤q∧q<i+m∧j=(q:Int)∧V= .agg w ((vs.drop (q*k)).take k)∧us= []
 | _,0,h=>h.elim
 | i,m+1,h=>by
  rcases h with ⟨hj,h⟩ | ⟨_,h⟩
  · obtain ⟨rfl,rfl⟩:=bl h
    exact ⟨i,Nat.le_refl _,by omega,hj,rfl,rfl⟩
  · obtain ⟨q,h1,h2,h3⟩:=Da h
    exact ⟨q,by omega,by omega,h3⟩
theorem Q5 (hP:aU P S ai) {t n te m:Nat} (hu:P.underlying t=some (.array n te)) (he:S.ty te=some (.st m)) {cs:Array Value} {k:IntKind} {q:Nat} (hi:q<n) (hle:q*(S.F m).length+(S.F m).length≤cs.size) (w:World):
 (Instr.index t (.agg cs) (.int k (q:Int))).run P w= .ok (dU (.st m) ((cs.toList.drop (q*(S.F m).length)).take (S.F m).length)) w:=by
 have :=l6 hP he (cs:=cs) (off:=q*(S.F m).length) hle w
 have h0:(0:Int)≤(q:Int):=by omega
 have hi':(q:Int)<(n:Int):=by omega
 have hsz:Ty.sz S (.st m)=(S.F m).length:=rfl
 rw [hsz] at this
 simp only [Instr.index,asIntOf,Sem.run_bind,Sem.run_pure,Result.andThen_ok,run_underlying hu]
 simp only [h0,hi',and_self,if_true,Sem.run_bind,hP.size he w,Result.andThen_ok,hsz,Int.toNat_natCast,this]
theorem JR (hP:aU P S ai) (h:Inv P S w0 M0 s0 dq env a w μ) (hd: ∀ d,o.dst=some d→d<a.tmps.size) {t:TypeId} {x i:Operand} {n m u:Nat} (ho:o.op= .index t x i) (hte:vT S t=some (n,m,u))
 (hl:(match aN S env.tm x,aN S env.tm i with
  | some v,some w=>match sL S u v,w.int? with
   | some vs,some (_,j)=>cond (Nat.beq vs.length (n*(S.F m).length)) (vS S m (S.F m).length j vs 0 n) .fail
   | _,_=> .fail
  | _,_=> .fail).leaf (V,us)) (hK:Goal P S w0 M0 s0 dq env a o.dst V us K):o.wp P a w K Q:=by
 obtain ⟨te,ht,hu,he⟩:=JU hP hte
 split at hl
 · rename_i v wv hx hi
   obtain ⟨hv,cO⟩:=bk h hx
   obtain ⟨lQ,_⟩:=bk h hi
   split at hl
   · rename_i vs k j hcells hn
     have hin:=gR lQ hn
     cases hb:Nat.beq vs.length (n*(S.F m).length) with
     | false=>rw [hb] at hl; exact hl.elim
     | true=>
      rw [hb,cond_true] at hl
      have hlen:=Nat.eq_of_beq_eq_true hb
      obtain ⟨q,_,hq,rfl,rfl,rfl⟩:=Da hl
      have Av: ∃ cs:Array Value,a.eval x= .agg cs∧vs.all (bE S)=true∧aF P S w (aE S w0 M0 s0 env.bx μ w) μ env.bx vs cs.toList∧ ∀ V ∈ vs, ∀ i ∈ ax S V,env.bx i≠none:=by
       unfold sL at hcells
       split at hcells
       · rename_i u' vs'
         cases hb:Nat.beq u u' with
         | false=>rw [hb] at hcells; cases hcells
         | true=>
          rw [hb] at hcells
          cases hcells
          obtain ⟨cs,g1,g2,g3,g4⟩:=hv
          exact ⟨cs,g1,g3,g4,fun V hV i hi=>cO i (by simp only [az,List.mem_flatMap]; exact ⟨V,hV,hi⟩)⟩
       · rename_i t' y
         obtain ⟨y',hc,hcells⟩:=Option.bind_eq_some_iff.1 hcells
         cases hcells
         obtain ⟨rfl,rfl⟩:=dB hc
         obtain ⟨ha,r,hr⟩:=hv
         have : ∃ cs,a.eval x= .agg cs:=by
          cases e':a.eval x <;> rw [e'] at ha <;> first | exact ⟨_,rfl⟩ | (simp [Go.Sy.isAgg,bg] at ha)
         obtain ⟨cs,hcs⟩:=this
         rw [hcs] at hr
         obtain ⟨x1,x2,x3⟩:=kz (P:=P) hP.tocz μ env.bx hr
         exact ⟨cs,hcs,x2,x1,fun V hV i hi=>by rw [x3 V hV] at hi; simp at hi⟩
       · cases hcells
      obtain ⟨cs,hcs,nq,cB,eK⟩:=Av
      have hcl:cs.size=n*(S.F m).length:=by
       have :=aF.length P S cB
       rw [hlen] at this
       simpa using this
      have hle:q*(S.F m).length+(S.F m).length≤n*(S.F m).length:=by
       have :(q+1)*(S.F m).length≤n*(S.F m).length:=Nat.mul_le_mul_right _ (by omega)
       rw [Nat.add_mul,Nat.one_mul] at this
       exact this
      have hvl:((vs.drop (q*(S.F m).length)).take (S.F m).length).length=(S.F m).length:=by
       rw [List.length_take,List.length_drop]; omega
      refine wp_pure (V:= .agg m ((vs.drop (q*(S.F m).length)).take (S.F m).length)) h (v:= .agg ((cs.toList.drop (q*(S.F m).length)).take (S.F m).length).toArray) ?_ hd
       ⟨_,rfl,hvl, ?_,by rw [List.toList_toArray]; exact aF.take P S _ (aF.drop P S _ cB)⟩ (fun i hi=> ?_) hK
      · unfold execOp
        simp only [ho,hcs,hin]
        simp [Q5 hP hu he (cs:=cs) (k:=k) (by omega:q<n) (by omega),dU]
      · rw [List.all_eq_true] at nq ⊢
        exact fun V hV=>nq V (List.mem_of_mem_drop (List.mem_of_mem_take hV))
      · simp only [az,List.mem_flatMap] at hi
        obtain ⟨V,hV,hi⟩:=hi
        exact eK V (List.mem_of_mem_drop (List.mem_of_mem_take hV)) i hi
   · exact hl.elim
 · exact hl.elim
end
end Go.Sy
namespace Go.Sy
section
variable {P:Program} {S:aP} {ai:Nat→Nat}
variable {w0:World} {M0 s0:St} {dq:List Deferred} {env:Env S.C} {a:Act} {w:World} {μ:Nat→Loc} {K:Act→World→Prop} {Q:Exit→Act→World→Prop} {o:Oper} {V:V S.C} {us:aH S.C}
theorem OL {x y:Operand} {n:Nat} (h:xy x y=some n):x= .const (.int .i64 (n:Int))∧y= .const (.int .i64 (n:Int))∧n≤8:=by
 unfold xy at h
 split at h
 · rename_i p q
   cases hc:Nat.beq p q&&Nat.ble p 8 with
   | false=>rw [hc] at h; cases h
   | true=>
    rw [hc,cond_true] at h
    cases h
    rw [Bool.and_eq_true] at hc
    have e1:=Nat.eq_of_beq_eq_true hc.1
    subst e1
    exact ⟨rfl,rfl,Nat.le_of_ble_eq_true hc.2⟩
 · cases h
theorem CQ {s:St} {bx:Bx S.C} : ∀ (n:Nat) (cs:List Value),cs=List.replicate n (Value.slice none 0 0)→aF P S w s μ bx (List.replicate n (.b8:Sy.V S.C)) cs
 | 0,_,h=>h
 | n+1,_,h=>⟨.slice none 0 0,List.replicate n (.slice none 0 0),h,rfl,CQ n _ rfl⟩
theorem OT (hP:aU P S ai) (h:Inv P S w0 M0 s0 dq env a w μ) (hd: ∀ d,o.dst=some d→d<a.tmps.size) {vw:Bool} {B:Nat} {t:TypeId} {x y:Operand} (ho:o.op= .makeSlice t x y)
 (hnew: ∀ u ∈ us,B≤u.1→u.1<B+16→env.bx u.1=none)
 (hl:(match dR S t,aN S env.tm x,aN S env.tm y with
  | some e,some v,some w=>match cond (vw&&AS e&&Nat.ble (ai t) 64) (xy x y) none with
   | some n=>aA S (.bX B n) [(B, .cells (List.replicate n .b8))]
   | none=>match v.int?,w.int? with
    | some (.i64,n),some (.i64,m)=>Tr.gd [gd (0≤n),gd (n≤m),gd (m*ai t≤limit)] (aA S (.aM (B)) [(B, .arr e (List.replicate n.toNat (Ty.zero S e)))])
    | _,_=>Tr.fail
  | _,_,_=>Tr.fail).leaf (V,us)) (hK:Goal P S w0 M0 s0 dq env a o.dst V us K):o.wp P a w K Q:=by
 split at hl
 · rename_i e v u ht hx hy
   split at hl
   · rename_i n hn
     cases hc:(vw&&AS e&&Nat.ble (ai t) 64) with
     | false=>rw [hc] at hn; cases hn
     | true=>
     rw [hc,cond_true] at hn
     simp only [Bool.and_eq_true] at hc
     obtain ⟨⟨_,eU⟩,cW⟩:=hc
     have cW:=Nat.le_of_ble_eq_true cW
     obtain ⟨hex,MP,Tc⟩:=OL hn
     obtain ⟨rfl,rfl⟩:=bl hl
     obtain ⟨e1,rfl⟩: ∃ e1,e= .sl e1:=by
      cases e with
      | sl e1=>exact ⟨e1,rfl⟩
      | _=>cases eU
     have ht':=lH ht
     obtain ⟨te,ie,z,hu,hte,hie,hby,eT,_⟩:=hP.sl ht'
     obtain ⟨⟨i,z,h1,h2,h3,h4,h5⟩,_⟩:=hP.ty te _ hte
     rw [hie] at h1
     cases h1
     have hz:z.cells.toList= [.slice none 0 0]:=h5
     have hsz:ie.size=1:=h2
     have hbig:(n:Int)*ai t≤512:=by
      have q1:(ai t:Int)≤64:=by omega
      have q2:(n:Int)≤8:=by omega
      exact Int.le_trans (Int.mul_le_mul q2 q1 (by omega) (by omega)) (by decide)
     have hrun:=run_make (P:=P) w t te ie z hu hie h3 .i64 .i64 n n (by omega) (Int.le_refl _) (by rw [hby,Int.mul_comm]; omega) (by omega)
     have hB:=hnew _ (List.mem_singleton.2 rfl) (Nat.le_refl _) (by show B<B+16; omega)
     have hcells:(madeCells z.cells (n*1)).toList=List.replicate n (Value.slice none 0 0):=by
      have hzs:z.cells= #[.slice none 0 0]:=by
       have :z.cells=z.cells.toList.toArray:=by simp
       rw [this,hz]
      rw [hzs,Nat.mul_one]
      unfold madeCells
      apply List.ext_getElem
      · simp
      · intro j Ta hj2
        simp [Nat.mod_one]
     have nt:=nD (w:=w) (cs:=madeCells z.cells (n*1)) (t:=te)
     rw [size_madeCells,Nat.mul_one] at nt
     refine n7 (i:=B) (B:= .cells (List.replicate n .b8)) (V:= .bX B n) (v:= .slice (some ⟨w.heap.size,0,none⟩) n n) (L:=⟨w.heap.size,0,n,0,false⟩) (w':=w.alloc (.cells (madeCells z.cells (n*1)) te)) h ?_ hd (aX.alloc w _ _) hB (fun b o' hf=>Nat.le_of_eq hf.1.symm)
      (fun hl _ h3=>⟨⟨?_, ?_, ?_,_, ?_,CQ n _ hcells⟩, ?_⟩) (fun vs hvs v hv j hj=> ?_) (fun j hj=> .inl (by simpa [az,ax] using hj)) hK
     · unfold execOp
       simp only [ho,hex,MP]
       have :(Instr.makeSlice t (.int .i64 (n:Int)) (.int .i64 (n:Int))).run P w= .ok (.slice (some ⟨w.heap.size,0,none⟩) n n) (w.alloc (.cells (madeCells z.cells (n*1)) te)):=by
        rw [hrun,hsz]; rfl
       simp [this,Act.eval]
     · rw [List.all_eq_true]
       intro v hv
       rw [List.eq_of_mem_replicate hv]; rfl
     · simp
     · simpa using nt.1
     · simpa using nt.2
     · show Value.slice _ n n= .slice (some ⟨(aq μ B _ B).b,(aq μ B _ B).o,none⟩) n n
       rw [aO]
     · have :v= .b8:=by
        rcases hvs with hvs | hvs
        · cases hvs; exact List.eq_of_mem_replicate hv
        · cases hvs
       rw [this] at hj
       simp [ax] at hj
   · exact OV hP h hd ho hnew (by rw [ht,hx,hy]; exact hl) hK
 · exact hl.elim
theorem HV {e:Ty} : ∀ {vs:List (Sy.V S.C)} {l:List (List (e.den S.C))},rW S e vs=some l→l.length=vs.length
 | [],l,h=>by cases h; rfl
 | v::vs,l,h=>by
  cases v with
  | aW b e' x=>
   simp only [rW] at h
   obtain ⟨y,hy,h⟩:=Option.bind_eq_some_iff.1 h
   obtain ⟨r,hr,h⟩:=Option.bind_eq_some_iff.1 h
   cases h
   show (y::r).length=_
   simp only [List.length_cons]
   exact congrArg (· +1) (HV hr)
  | _=>cases h
theorem HU {s:St} {bx:Bx S.C} {e:Ty} : ∀ {vs:List (Sy.V S.C)} {l:List (List (e.den S.C))} {cs:List Value},rW S e vs=some l→aF P S w s μ bx vs cs→ ∀ (i:Nat) (x:List (e.den S.C)),l[i]? =some x→ ∃ c,cs[i]? =some c∧bU S w s (.sl e) x c
 | [],l,cs,h,_,i,x,hx=>by cases h; simp at hx
 | v::vs,l,cs,h,⟨c,r,hc,h1,h2⟩,i,x,hx=>by
  cases v with
  | aW b e' y=>
   simp only [rW] at h
   obtain ⟨z,hz,h⟩:=Option.bind_eq_some_iff.1 h
   obtain ⟨q,hq,h⟩:=Option.bind_eq_some_iff.1 h
   cases h
   subst hc
   cases i with
   | zero=>
    have hx:some z=some x:=hx
    cases hx
    refine ⟨c,rfl, ?_⟩
    obtain ⟨he,hz⟩:=dB hz
    cases he
    cases hz
    exact h1.1
   | succ i=>
    have hx:q[i]? =some x:=hx
    exact HU hq h2 i x hx
  | _=>cases h
theorem JV {nl:Bool} (h:Inv P S w0 M0 s0 dq env a w μ) (hd: ∀ d,o.dst=some d→d<a.tmps.size) {x:Operand} {B:Nat} {ids:List Nat} (ho:execOp a.eval o=pure (.value (a.eval x)))
 (hnew: ∀ u ∈ us,B≤u.1→u.1<B+16→env.bx u.1=none)
 (hl:(match aN S env.tm x with
  | some .b8=>cond nl (aA S .b8 []) (match dR S o.type with
   | some e=>aA S (.aW B e []) [(B, .tail)]
   | none=> .fail)
  | some (.bX b n)=>settle S (dR S o.type) (restrict S env.bx ids) b n
  | some v=>aA S v []
  | none=> .fail).leaf (V,us)) (hK:Goal P S w0 M0 s0 dq env a o.dst V us K):o.wp P a w K Q:=by
 have hrun:(execOp a.eval o).run P w= .ok (.value (a.eval x)) w:=by rw [ho]; rfl
 split at hl
 · rename_i hx
   exact Bb (nl:=nl) h hd (x:=x) (B:=B) ho hnew (by rw [hx]; exact hl) hK
 · rename_i b n hx
   obtain ⟨hv,hr⟩:=bk h hx
   unfold settle at hl
   split at hl
   · rename_i vs hb
     have hb:=dQ hb
     split at hl
     · obtain ⟨rfl,rfl⟩:=bl hl
       exact wp_pure h hrun hd hv hr hK
     · split at hl
       · rename_i e he
         split at hl
         · rename_i l hlr
           cases hn:Nat.beq n vs.length with
           | false=>rw [hn] at hl; exact hl.elim
           | true=>
            rw [hn,cond_true] at hl
            have hn:=Nat.eq_of_beq_eq_true hn
            obtain ⟨rfl,rfl⟩:=bl hl
            have hall: ∀ i,av env.bx [(b,cZ.bG vs)] i=env.bx i∨ ∃ ws,env.bx i=some (.cells ws)∧av env.bx [(b,cZ.bG vs)] i=some (.bG ws):=fun i=>by
             by_cases e:i=b
             · subst e; exact .inr ⟨vs,hb,aO _ _ _⟩
             · exact .inl (aZ _ _ e)
            have hI:=h.wP hall
            obtain ⟨_,cs,cF,cB⟩:=hI.bL b (.bG vs) (aO _ _ _)
            have tT:=HV hlr
            have hv:a.eval x= .slice (some ⟨(μ b).b,(μ b).o,none⟩) n n:=hv
            unfold Oper.wp
            rw [hrun]
            refine hK _ w μ (hI.put hd (V:= .d (.sl (.sl e)) l) ?_ (by simp [az,ax])) ?_
            · rw [hv,hn, ← tT]
              refine Cp (Nat.le_refl _) fun i y hy=> ?_
              obtain ⟨c,hc,ha,m,hm⟩:=HU hlr cB i y hy
              refine ⟨[c],rfl,fun j u hj=> ?_,m, ?_⟩
              · cases j with
                | zero=>
                 simp at hj
                 subst hj
                 have :=cF i c hc
                 rw [show i*Ty.sz S (.sl e)=i from Nat.mul_one i]
                 exact this
                | succ j=>simp at hj
              · rwa [aB.jG ha rfl] at hm
            · cases o.dst <;> simp [Act.put]
         · exact hl.elim
       · exact hl.elim
   · exact hl.elim
 · rename_i v Np Td hx
   refine Bb (nl:=nl) h hd (x:=x) (B:=B) ho hnew ?_ hK
   rw [hx]
   cases v with
   | b8=>exact absurd rfl Np
   | _=>exact hl
 · exact hl.elim
theorem Lv (hP:aU P S ai) (h:Inv P S w0 M0 s0 dq env a w μ) (hd: ∀ d,o.dst=some d→d<a.tmps.size) {op:BinOp} {t t':TypeId} {x:Operand} (ho:o.op= .binOp op t x (.const .nilIface) t')
 (hl:(match aN S env.tm x with
  | some (.err b)=>cond (S.nu t) (match op with
   | .eql=>aA S (.d .bool b) []
   | .neq=>aA S (.d .bool (Bool.not b)) []
   | _=> .fail) .fail
  | _=> .fail).leaf (V,us)) (hK:Goal P S w0 M0 s0 dq env a o.dst V us K):o.wp P a w K Q:=by
 split at hl
 · rename_i b hx
   obtain ⟨hv,_⟩:=bk h hx
   have hv:sD b (a.eval x):=hv
   cases hi:S.nu t with
   | false=>rw [hi] at hl; exact hl.elim
   | true=>
    rw [hi,cond_true] at hl
    obtain ⟨ms,hu⟩:=hP.nu t hi
    have hif:P.isIface t=true:=by unfold Program.isIface; rw [hu]
    have hg:(eqGuard op t x (.const .nilIface) (a.eval x) .nilIface).run P w= .ok () w:=by
     cases b with
     | true=>
      have hv:a.eval x= .nilIface:=hv
      rw [hv,eqGuard_nil_constR]; rfl
     | false=>
      obtain ⟨u,p,hv⟩:=hv
      rw [hv]
      exact zH rfl w
    have fin: ∀ r:Bool,V= .d .bool r→us= []→(binOp op t (a.eval x) .nilIface).run P w= .ok (.bool r) w→o.wp P a w K Q:=by
     rintro r rfl rfl hr
     refine wp_pure h (V:= .d .bool r) (v:= .bool r) ?_ hd (lD ..) (by simp [az,ax]) hK
     unfold execOp
     simp only [ho]
     have e:a.eval (.const .nilIface)= .nilIface:=rfl
     rw [e]
     simp [hg,hr]
    split at hl
    · obtain ⟨h1,h2⟩:=bl hl
      refine fin b h1 h2 ?_
      cases b with
      | true=>
       have hv:a.eval x= .nilIface:=hv
       rw [hv]; exact run_eql_nil_nil_at w t hif
      | false=>
       obtain ⟨u,p,hv⟩:=hv
       rw [hv]; exact run_eql_iface_nil w t hif u p
    · obtain ⟨h1,h2⟩:=bl hl
      refine fin (Bool.not b) h1 h2 ?_
      cases b with
      | true=>
       have hv:a.eval x= .nilIface:=hv
       rw [hv]; exact run_neq_nil_nil_at w t hif
      | false=>
       obtain ⟨u,p,hv⟩:=hv
       rw [hv]; exact run_neq_iface_nil w t hif u p
    · exact hl.elim
 · exact hl.elim
theorem Bh {T:fD S} {B:Nat} {op:BinOp} {t t' ty:TypeId} {x y:Operand} {tm:Nat→Sy.V S.C} {bx:Bx S.C} (hy:y≠ .const .nilIface):
 cj S T ai B (.binOp op t x y t') ty tm bx=cond (S.eq t) (match aN S tm x,aN S tm y with
 | some a,some b=>structEq S op t a b
 | _,_=> .fail) (match aN S tm x,aN S tm y with
 | some a,some b=>match vU S op t a b with
  | some (gs,v)=> .gd gs (aA S v [])
  | none=> .fail
 | _,_=> .fail):=by
 cases y with
 | const v=>cases v <;> first | rfl | exact absurd rfl hy
 | _=>rfl
end
end Go.Sy
namespace Go.Sy
section
variable {P:Program} {S:aP} {ai:Nat→Nat}
variable {w0:World} {M0 s0:St} {dq:List Deferred} {env:Env S.C} {a:Act} {w:World} {μ:Nat→Loc} {K:Act→World→Prop} {Q:Exit→Act→World→Prop} {o:Oper} {V:V S.C} {us:aH S.C}
theorem Ou {B:Nat} {fp:List Nat} {bx:Bx S.C} (h:kF S bx B fp us=true): ∀ u ∈ us,B≤u.1→u.1<B+16→bx u.1=none:=by
 intro u hu h1 h2
 have :=List.all_eq_true.1 h u hu
 rw [Bool.and_eq_true,show Nat.ble B u.1=true from Nat.ble_eq_true_of_le h1,show Nat.blt u.1 (B+16)=true from Nat.ble_eq_true_of_le h2] at this
 exact Option.isNone_iff_eq_none.1 (by simpa using this.2)
theorem qA {o:Op} {tm:Nat→Sy.V S.C} {x:Operand} (hx:x ∈ o.operands.toList) {V:Sy.V S.C} (hV:aN S tm x=some V) {i:Nat} (hi:i ∈ az S V):
 i ∈ o.operands.toList.flatMap (qT S tm):=
 List.mem_flatMap.2 ⟨x,hx,by unfold qT; rw [hV]; exact hi⟩
theorem pS {bx:Bx S.C} {ids:List Nat} {i:Nat} (h:i ∈ ids):restrict S bx ids i=bx i:=by
 unfold restrict
 rw [List.contains_iff_mem.2 h]; rfl
theorem DW {bx:Bx S.C} {ids more:List Nat} {V:Sy.V S.C} (h: ∀ i ∈ az S V,i ∈ ids):gI S bx (restrict S bx (deep S bx ids++more)) V:=fun i hi=>
 ⟨pS (List.mem_append.2 (.inl (List.mem_append.2 (.inl (h i hi))))),fun vs hvs v hv j hj=>pS (List.mem_append.2 (.inl (List.mem_append.2 (.inr (List.mem_flatMap.2 ⟨i,h i hi,by
  rcases hvs with hvs | hvs <;> · rw [hvs]; exact List.mem_flatMap.2 ⟨v,hv,hj⟩⟩))))),
  fun j hj=>pS (List.mem_append.2 (.inl (List.mem_append.2 (.inr (List.mem_flatMap.2 ⟨i,h i hi,by rw [hj]; simp⟩)))))⟩
theorem Pe (hP:aU P S ai) {T:fD S} (hT: ∀ e ∈ T.es,mP P S w0 M0 e) (hF: ∀ e ∈ T.fs,fB P S e) (h:Inv P S w0 M0 s0 dq env a w μ) (hd: ∀ d,o.dst=some d→d<a.tmps.size) {B:Nat}
 (hl:(cj S T ai B o.op o.type env.tm (restrict S env.bx (aD S T.vw B o.op env.tm env.bx).1)).leaf (V,us)) (w_:kF S env.bx B (aD S T.vw B o.op env.tm env.bx).2 us=true)
 (hK:Goal P S w0 M0 s0 dq env a o.dst V us K):o.wp P a w K Q:=by
 have hnew:=Ou w_
 clear w_
 cases ho:o.op with
 | move x=>rw [ho] at hl; exact Bb h hd (x:=x) (by unfold execOp; simp only [ho]) hnew hl hK
 | assign x=>rw [ho] at hl; exact JV h hd (x:=x) (by unfold execOp; simp only [ho]) hnew hl hK
 | pick c x y=>rw [ho] at hl; exact Pv h hd ho hl hK
 | alloc t=>rw [ho] at hl; exact JJ hP h hd ho hnew hl hK
 | box t x=>rw [ho] at hl; exact Kd hP h hd ho hnew hl hK
 | build t ps=>rw [ho] at hl; exact Kg hP h hd ho hl hK
 | buildSlice t len ps=>
  rw [ho] at hl
  unfold cj at hl
  dsimp only at hl
  split at hl
  rotate_left
  · exact hl.elim
  rename_i e het
  cases hv:(T.vw&&Nat.beq len 0) with
  | true=>
   rw [hv,cond_true] at hl
   have h0:=Nat.eq_of_beq_eq_true (Bool.and_eq_true_iff.1 hv).2
   subst h0
   exact Lq hP h hd ho het hnew hl hK
  | false=>
  rw [hv,cond_false] at hl
  refine Kf hP h hd ho (fun i x hm V hV j hj=> ?_) hnew (by rw [het]; exact hl) hK
  exact pS (List.mem_append.2 (.inl (qA (x:=x) (by simp only [Op.operands]; exact List.mem_map.2 ⟨(i,x),hm,rfl⟩) hV hj)))
 | load t x=>rw [ho] at hl; exact OO hP h hd ho hl hK
 | store t x y=>
  rw [ho] at hl
  unfold cj at hl
  dsimp only at hl
  split at hl
  · rename_i n e u hte
    refine RI hP h hd ho hte (fun V hV j hj=> ?_) hl hK
    exact pS (List.mem_append.2 (.inl (qA (x:=y) (by simp [Op.operands]) hV hj)))
  · refine HF hP h hd ho (fun V hV j hj=> ?_) hl hK
    exact pS (List.mem_append.2 (.inl (qA (x:=y) (by simp [Op.operands]) hV hj)))
 | nilCheck x=>rw [ho] at hl; exact O5 h hd ho hl hK
 | binOp op t x y t'=>
  rw [ho] at hl
  by_cases hy:y= .const .nilIface
  · subst hy
    exact Lv hP h hd ho hl hK
  rw [Bh hy] at hl
  cases he:S.eq t with
  | true=>rw [he,cond_true] at hl; exact RL hP h hd ho he hl hK
  | false=>rw [he,cond_false] at hl; exact J0 hP h hd ho hl hK
 | unOp op t x=>rw [ho] at hl; exact SK h hd ho hl hK
 | convert s t x=>rw [ho] at hl; exact K5 hP h hd ho hl hK
 | makeFunc fn first cs=>
  rw [ho] at hl
  cases fn with
  | func f=>
   obtain ⟨l⟩:=first
   cases l with
   | nil=>exact OU h hd ho hl hK
   | cons x r=>exact hl.elim
  | _=>exact hl.elim
 | makeSlice t x y=>rw [ho] at hl; exact OT hP h hd ho hnew hl hK
 | slice t x lo hi m=>
  rw [ho] at hl
  cases m with
  | none=>exact RC hP h hd ho hl hK
  | some m=>
   cases lo with
   | none=>exact hl.elim
   | some lo=>
    cases hi with
    | none=>exact hl.elim
    | some hi=>exact RA hP h hd ho hl hK
 | fieldAddr t x f=>rw [ho] at hl; exact LU hP h hd ho hl hK
 | field t x f=>rw [ho] at hl; exact LV hP h hd ho hl hK
 | indexAddr t x i=>
  rw [ho] at hl
  unfold cj at hl
  dsimp only at hl
  split at hl
  · rename_i n e u hte; exact JQ hP h hd ho hte hl hK
  · exact NQ hP h hd ho hl hK
 | index t x i=>
  rw [ho] at hl
  unfold cj at hl
  dsimp only at hl
  split at hl
  · rename_i n e u hte; exact JS hP h hd ho hte hl hK
  · split at hl
    · rename_i n m u hte; exact JR hP h hd ho hte hl hK
    · exact NS hP h hd ho hl hK
 | extract x i=>rw [ho] at hl; exact LR h hd ho hl hK
 | call c=>
  rw [ho] at hl
  unfold cj at hl
  dsimp only at hl
  split at hl
  · exact hl.elim
  · rename_i args hargs
    obtain ⟨callee,sQ,DQ⟩:=c
    have hmem: ∀ V ∈ args, ∃ x ∈ sQ.toList,aN S env.tm x=some V:=(vR h hargs).2
    cases callee with
    | builtin b=>
     cases b with
     | len=>exact Oq hP h hd ho rfl hargs hl hK
     | append=>
      refine JN hP h hd ho rfl hargs (fun V hV j hj=> ?_) hnew hl hK
      obtain ⟨x,hx,he⟩:=hmem V hV
      exact pS (List.mem_append.2 (.inl (qA (x:=x) (by simp only [Op.operands,Call.operands]; simpa using hx) he hj)))
     | clear=>exact KW hP h hd ho rfl hargs hl hK
     | _=>exact OX h hd ho rfl hargs hl hK
    | value f=>
     dsimp only at hl
     split at hl
     · rename_i Vf hf
       refine Kn hP hT hF h hd ho rfl hargs hf (fun V hV=> ?_) ?_ hnew hl hK
       · obtain ⟨x,hx,he⟩:=hmem V hV
         exact DW fun i hi=>qA (x:=x) (by simp only [Op.operands,Call.operands]; simp; right; simpa using hx) he hi
       · exact DW fun i hi=>qA (x:=f) (by simp only [Op.operands,Call.operands]; simp) hf hi
     · exact hl.elim
    | invoke r n=>exact hl.elim
 | _=>rw [ho] at hl; exact hl.elim
end
end Go.Sy
namespace Go.Sy
section
variable {P:Program} {S:aP} {ai:Nat→Nat} {T:fD S}
variable {w0:World} {M0 s0:St} {dq:List Deferred} {env:Env S.C} {a:Act} {w:World} {μ:Nat→Loc}
theorem HE {R:Type} {B:Nat} {dst:Option Nat} {o:Op} {ty:Nat} {k:Env S.C→Option R} {r:R} (h:Cr S T ai B dst o ty env k=some r):
 ∃ V us,(cj S T ai B o ty env.tm (restrict S env.bx (aD S T.vw B o env.tm env.bx).1)).leaf (V,us)∧kF S env.bx B (aD S T.vw B o env.tm env.bx).2 us=true∧k (env.apply dst V us)=some r:=by
 unfold Cr at h
 obtain ⟨⟨V,us⟩,h1,h2⟩:=Tr.pV _ h
 dsimp only at h2
 cases hl:kF S env.bx B (aD S T.vw B o env.tm env.bx).2 us with
 | false=>rw [hl] at h2; cases h2
 | true=>rw [hl] at h2; exact ⟨V,us,h1,hl,h2⟩
def oa (V:Sy.V S.C) (x:Bool):Prop:=(V= .d .bool x)∨ ∃ p i,V= .pr p i∧ @decide p i=x
theorem oa.val {s:St} {bx:Bx S.C} {V:Sy.V S.C} {x:Bool} (h:oa V x) {v:Value} (hv:RV P S w s μ bx V v):v= .bool x:=by
 rcases h with rfl | ⟨p,i,rfl,rfl⟩
 · exact oe hv
 · exact hv
theorem Cq {R:Type} {g:Bool} {dst:Option Nat} {k:Env S.C→Option R} {r:R} (h:splitK S g dst env k=some r):
 (g=false∧k env=some r)∨ ∃ t x,g=true∧dst=some t∧oa (env.tm t) x∧k { env with tm:=aq env.tm t (.d .bool x) } =some r:=by
 cases g with
 | false=>exact .inl ⟨rfl,h⟩
 | true=>
  right
  cases dst with
  | none=>cases h
  | some t=>
   simp only [splitK] at h
   split at h
   · rename_i x ht
     cases x with
     | true=>exact ⟨t,true,rfl,rfl, .inl ht,h⟩
     | false=>exact ⟨t,false,rfl,rfl, .inl ht,h⟩
   · rename_i p i ht
     by_cases hp:p
     · rw [if_pos hp] at h
       exact ⟨t,true,rfl,rfl, .inr ⟨p,i,ht,decide_eq_true hp⟩,h⟩
     · rw [if_neg hp] at h
       exact ⟨t,false,rfl,rfl, .inr ⟨p,i,ht,decide_eq_false hp⟩,h⟩
   · cases h
theorem Inv.BY (h:Inv P S w0 M0 s0 dq env a w μ) {t:Nat} {x:Bool} (hk:oa (env.tm t) x):Inv P S w0 M0 s0 dq { env with tm:=aq env.tm t (.d .bool x) } a w μ:=by
 have hv:=hk.val (h.gX t)
 refine ⟨fun u=> ?_,h.bL,h.cM,h.own,fun u i hi=> ?_,h.jh,h.fW,h.qu,h.oJ⟩
 · by_cases e:u=t
   · subst e
     show RV P S w _ μ env.bx (aq env.tm u (.d .bool x) u) _
     rw [aO,hv]
     exact lD ..
   · show RV P S w _ μ env.bx (aq env.tm t (.d .bool x) u) _
     rw [aZ _ _ e]
     exact h.gX u
 · have hi':i ∈ az S (aq env.tm t (.d .bool x) u):=hi
   by_cases e:u=t
   · subst e
     rw [aO] at hi'
     simp [az,ax] at hi'
   · rw [aZ _ _ e] at hi'
     exact h.ref u i hi'
theorem L6 {a:Act} {t:Nat} {x:Bool} (h:a.tmps.getD t Go.undef= .bool x):a.tmps[t]? =some (.bool x):=by
 rw [Array.getD_eq_getD_getElem?] at h
 cases e:a.tmps[t]? with
 | none=>rw [e] at h; cases h
 | some v=>rw [e] at h; exact congrArg some h
theorem CC {ops:Array Oper} {o:Oper} {b:Bool} (h:Inv P S w0 M0 s0 dq env a w μ) (hw:k_ S ops o env.tm=some b):Region.wanted o (yielded ops a.tmps)=b:=by
 unfold k_ at hw
 unfold Region.wanted
 split at hw
 · rename_i hg
   rw [hg]
   exact Option.some.inj hw
 · rename_i j want hg
   rw [hg]
   dsimp only
   split at hw
   · cases hw
   · rename_i t ht
     unfold yielded
     rw [ht]
     simp only [Option.bind_some]
     split at hw
     · rename_i x hx
       have hv:=h.gX t
       rw [hx] at hv
       rw [L6 (oe hv)]
       cases hw
       cases x <;> cases want <;> rfl
     · rename_i hx
       have hv:=h.gX t
       rw [hx] at hv
       have hv:a.tmps.getD t Go.undef=Go.undef:=hv
       cases hw
       rw [Array.getD_eq_getD_getElem?] at hv
       cases e:a.tmps[t]? with
       | none=>rfl
       | some v=>
        rw [e] at hv
        have hv:v=Go.undef:=hv
        rw [hv]
        rfl
     · cases hw
theorem PB (a:Act) (dst:Option Nat) (v:Value):(a.put dst v).tmps.size=a.tmps.size:=by cases dst <;> simp [Act.put]
theorem Inv.skip (h:Inv P S w0 M0 s0 dq env a w μ) {dst:Option Nat} (hd: ∀ d,dst=some d→d<a.tmps.size):Inv P S w0 M0 s0 dq (env.apply dst .skip []) (a.put dst undef) w μ:=
 h.put hd (V:= .skip) (v:=undef) rfl (by simp [az,ax])
theorem It {o:Oper} {K:Act→World→Prop} {Q:Exit→Act→World→Prop} (h:o.wp P a w K Q):o.wp P a w (fun a' w'=>K a' w'∧ ∃ v d,a'=({ a with defers:=d } :Act).put o.dst v) Q:=by
 unfold Oper.wp at *
 generalize (execOp a.eval o).run P w=r at *
 cases r with
 | ok n w'=>
  cases n <;> simp only [Oper.upon] at h ⊢ <;>
   first
    | exact ⟨h,_,_,rfl⟩
    | exact Calls.mono h (fun e w'' he=>by cases e <;> first | exact ⟨he,_,a.defers,rfl⟩ | exact he)
    | exact Rows.mono h (fun _ _ he=>⟨he,_,a.defers,rfl⟩)
 | halt x w'=>cases x <;> simp only [Oper.upon] at h ⊢ <;> exact h
theorem Gk (hP:aU P S ai) (hT: ∀ e ∈ T.es,mP P S w0 M0 e) (hF: ∀ e ∈ T.fs,fB P S e) (h:Inv P S w0 M0 s0 dq env a w μ) {o:Oper} (hd: ∀ d,o.dst=some d→d<a.tmps.size) {B:Nat} {V:Sy.V S.C} {us:aH S.C} {K:Act→World→Prop} {Q:Exit→Act→World→Prop}
 (hl:(cj S T ai B o.op o.type env.tm (restrict S env.bx (aD S T.vw B o.op env.tm env.bx).1)).leaf (V,us)) (w_:kF S env.bx B (aD S T.vw B o.op env.tm env.bx).2 us=true)
 (hK: ∀ a' w' μ',Inv P S w0 M0 s0 dq (env.apply o.dst V us) a' w' μ'→(∃ v d,a'=({ a with defers:=d } :Act).put o.dst v)→K a' w'):o.wp P a w K Q:=
 Oper.wp_mono (fun a' w' ⟨⟨μ',hI⟩,hv⟩=>hK a' w' μ' hI hv) (It (Pe hP hT hF h hd hl w_ (K:=fun a' w'=> ∃ μ',Inv P S w0 M0 s0 dq (env.apply o.dst V us) a' w' μ') fun a' w' μ' hI _=>⟨μ',hI⟩))
structure vJ (ops:Array Oper) (Z:Act→Prop):Prop where
 dst: ∀ a,Z a→ ∀ o ∈ ops.toList, ∀ d,o.dst=some d→d<a.tmps.size
 put: ∀ a,Z a→ ∀ o ∈ ops.toList, ∀ v d,Z (({ a with defers:=d } :Act).put o.dst v)
theorem JH {R:Type} {a b:Option R} {r:R} (h:agree a b=some r):a=some r∧b=some r:=by
 unfold agree at h
 split at h
 · rename_i e; exact ⟨h,e▸h⟩
 · cases h
theorem Q0 (d:Nat) {t te:TypeId} (hu:P.underlying t=some (.slice te)) (a:Option Addr) (n c:Nat) (w:World):(Op.equalIn (d+1) t (.slice a n c) (.slice none 0 0)).run P w= .ok a.isNone w:=by
 unfold Op.equalIn
 cases a <;> simp [run_underlying hu]
theorem G9 {t te:TypeId} (hu:P.underlying t=some (.slice te)) (a:Option Addr) (n c:Nat) (w:World):(Op.equal t (.slice a n c) (.slice none 0 0)).run P w= .ok a.isNone w:=Q0 9999 hu a n c w
theorem O6 (hP:aU P S ai) (h:Inv P S w0 M0 s0 dq env a w μ) {o:Oper} (hd: ∀ d,o.dst=some d→d<a.tmps.size) {m:Nat} {v:Bool} (hn:uH S o.op env.tm=some (m,v)) {Q:Exit→Act→World→Prop} :
 ∃ x:Bool,(x=v∨m=0)∧ ∀ K:Act→World→Prop,(∀ a' w' μ',Inv P S w0 M0 s0 dq (env.apply o.dst (.d .bool x) []) a' w' μ'→(∃ v d,a'=({ a with defers:=d } :Act).put o.dst v)→K a' w')→o.wp P a w K Q:=by
 unfold uH at hn
 split at hn
 · rename_i op t x ty ho
   split at hn
   · rename_i e het
     obtain ⟨te,_,_,hu,_⟩:=hP.sl (lH het)
     split at hn
     · rename_i e' l hx
       obtain ⟨hv,_⟩:=bk h hx
       obtain ⟨ad,cap,e1,e2,e3⟩:=jA hv
       have go: ∀ (y:Bool),(binOp op t (.slice ad l.length cap) (.slice none 0 0)).run P w= .ok (.bool y) w→ ∀ K:Act→World→Prop,(∀ a' w' μ',Inv P S w0 M0 s0 dq (env.apply o.dst (.d .bool y) []) a' w' μ'→(∃ v d,a'=({ a with defers:=d } :Act).put o.dst v)→K a' w')→o.wp P a w K Q:=by
        intro y hrun K hK
        refine Oper.wp_mono (fun a' w' ⟨⟨μ',hI⟩,hv⟩=>hK a' w' μ' hI hv) (It (wp_pure (K:=fun a' w'=> ∃ μ',Inv P S w0 M0 s0 dq (env.apply o.dst (.d .bool y) []) a' w' μ') (V:= .d .bool y) (v:= .bool y) h ?_ hd (lD ..) (by simp [az,ax]) fun a' w' μ' hI _=>⟨μ',hI⟩))
        unfold execOp
        simp only [ho,e1]
        have hg:(eqGuard op t x (.const (.slice none 0 0)) (.slice ad l.length cap) (.slice none 0 0)).run P w= .ok () w:=zH rfl w
        have hev:a.eval (.const (.slice none 0 0))= .slice none 0 0:=rfl
        simp [hg,hrun,hev]
       have hlen:ad=none→List.length l=0:=by
        intro h0
        rcases e3 with e3 | ⟨b,o',n',e3,_⟩
        · exact e3
        · rw [h0] at e3; cases e3
       split at hn <;> cases hn
       · refine ⟨ad.isNone, ?_,go _ (by simp [binOp,G9 hu])⟩
         cases ad with
         | none=>exact .inr (hlen rfl)
         | some _=>exact .inl rfl
       · refine ⟨!ad.isNone, ?_,go _ (by simp [binOp,G9 hu])⟩
         cases ad with
         | none=>exact .inr (hlen rfl)
         | some _=>exact .inl rfl
     · cases hn
   · cases hn
 · cases hn
def vI (T:fD S) (dq:List Deferred) (Z:Act→Prop):Prop:=
 ∀ f ops,T.dc=some (f,ops)→ ∀ a,Z a→dq= [⟨.fn (.func f) #[],(ops.map a.eval).toArray⟩]
theorem Rj (h:Inv P S w0 M0 s0 dq env a w μ) {x y:Operand} (hs:Cj S env.tm x y=true):a.eval x=a.eval y:=by
 unfold Cj at hs
 split at hs
 · rw [Bool.and_eq_true,decide_eq_true_eq,decide_eq_true_eq] at hs
   rw [hs.1,hs.2]
 · rename_i t u
   split at hs
   · rename_i b o b' o' h1 h2
     rw [Bool.and_eq_true] at hs
     have e1:=Nat.eq_of_beq_eq_true hs.1
     have e2:=Nat.eq_of_beq_eq_true hs.2
     have r1:=h.gX t
     have r2:=h.gX u
     rw [h1] at r1
     rw [h2] at r2
     have r1:a.tmps.getD t undef=_:=r1
     have r2:a.tmps.getD u undef=_:=r2
     show a.tmps.getD t undef=a.tmps.getD u undef
     rw [r1,r2,e1,e2]
   · cases hs
 · cases hs
theorem Ho (h:Inv P S w0 M0 s0 dq env a w μ): ∀ {xs ys:List Operand},yA S env.tm xs ys=true→xs.map a.eval=ys.map a.eval
 | [],[],_=>rfl
 | x::xs,y::ys,hs=>by
  simp only [yA,Bool.and_eq_true] at hs
  rw [List.map_cons,List.map_cons,Rj h hs.1,Ho h hs.2]
 | [],_::_,h=>by cases h
 | _::_,[],h=>by cases h
theorem Lh (h:Inv P S w0 M0 s0 dq env a w μ) {Z:Act→Prop} (hD:vI T dq Z) (hN:Z a) {o:Oper} (hd: ∀ d,o.dst=some d→d<a.tmps.size) (hi:xd o.op=true) (hdf:env.df=false) (hk:wG S env.tm T.dc o.op=true)
 {K:Act→World→Prop} {Q:Exit→Act→World→Prop} (hK: ∀ ds,Inv P S w0 M0 s0 dq { env.apply o.dst .skip [] with df:=true } (({ a with defers:=ds } :Act).put o.dst undef) w μ→K (({ a with defers:=ds } :Act).put o.dst undef) w):o.wp P a w K Q:=by
 cases ho:o.op <;> rw [ho] at hi <;> try (cases hi; done)
 rename_i c
 rw [ho] at hk
 obtain ⟨callee,args,tys⟩:=c
 cases callee with
 | builtin b=>cases hk
 | invoke r n=>cases hk
 | value fo=>
  cases fo with
  | func f=>
   unfold wG at hk
   cases hdc:T.dc with
   | none=>rw [hdc] at hk; cases hk
   | some p=>
    obtain ⟨g,ops⟩:=p
    rw [hdc] at hk
    dsimp only at hk
    rw [Bool.and_eq_true] at hk
    have hfg:=Nat.eq_of_beq_eq_true hk.1
    subst hfg
    have hq:=hD f ops hdc a hN
    have hargs:(ops.map a.eval).toArray=args.map a.eval:=by
     rw [← Ho h hk.2]
     apply Array.ext'
     simp
    have h0:a.defers= []:=by rw [h.qu,hdf]; rfl
    unfold Oper.wp
    have hrun:(execOp a.eval o).run P w= .ok (.defer ⟨.fn (.func f) #[],args.map a.eval⟩) w:=by
     unfold execOp
     simp only [ho]
     simp [resolve,Deferred.ofValue,Act.eval]
    rw [hrun]
    show K _ _
    refine hK _ ?_
    have hs:=h.skip hd
    refine ⟨?_,hs.bL,hs.cM,hs.own,hs.ref,hs.jh,hs.fW, ?_,hs.oJ⟩
    · intro t
      have :=hs.gX t
      cases E8:o.dst <;> rw [E8] at this <;> exact this
    · rw [hargs] at hq
      cases E8:o.dst <;> (show (_::a.defers)=dq; rw [h0,hq])
  | _=>cases hk
theorem pR (hP:aU P S ai) (hT: ∀ e ∈ T.es,mP P S w0 M0 e) (hF: ∀ e ∈ T.fs,fB P S e) {R:Type} {cv:Nat} {ops:Array Oper} {dz:Array Nat} {draw:Bool} {k:Env S.C→Option R} {r:R} {Z:Act→Prop} {Q:Exit→Act→World→Prop}
 (hZ:vJ ops Z) (hD:vI T dq Z) (hQ: ∀ env' a' w' μ',k env'=some r→Inv P S w0 M0 s0 dq env' a' w' μ'→Z a'→Q .normal a' w'):
 ∀ (l:List Oper) (n:Nat) (cG:List (Nat×Option (List Nat×List Nat))) (env:Env S.C) (a:Act) (w:World) (μ:Nat→Loc),l=ops.toList.drop n→gV S T ai cv ops draw dz k l n cG env=some r→
 Inv P S w0 M0 s0 dq env a w μ→Z a→wpOps P ops Q (List.range' n l.length) a w
 | [],n,cG,env,a,w,μ,hl,hr,h,hN=>by
  simp only [gV] at hr
  cases hc:(!draw||(lB ops dz cG&&vt ops)) with
  | false=>rw [hc] at hr; cases hr
  | true=>rw [hc] at hr; exact hQ env a w μ hr h hN
 | o::l,n,cG,env,a,w,μ,hl,hr,h,hN=>by
  have gv:ops[n]? =some o:=by
   have :=congrArg (·[0]?) hl
   simp at this
   simpa using this.symm
  have hmem:o ∈ ops.toList:=by
   have :o ∈ ops.toList.drop n:=by rw [← hl]; simp
   exact List.mem_of_mem_drop this
  have hd: ∀ d,o.dst=some d→d<a.tmps.size:=hZ.dst a hN o hmem
  have hl':l=ops.toList.drop (n+1):=by
   rw [← List.drop_drop, ← hl]; rfl
  rw [List.length_cons,List.range'_succ,wpOps_cons]
  unfold wpOp
  rw [gv]
  dsimp only
  simp only [gV] at hr
  cases hw:k_ S ops o env.tm with
  | none=>rw [hw] at hr; cases hr
  | some b=>
   rw [hw] at hr
   rw [CC h hw]
   cases b with
   | false=>
    rw [if_neg (by simp)]
    exact pR hP hT hF hZ hD hQ l (n+1) _ _ _ w μ hl' hr (h.skip hd) (hZ.put a hN o hmem undef a.defers)
   | true=>
    rw [if_pos rfl]
    left
    dsimp only at hr
    cases hdf:xd o.op with
    | true=>
     rw [hdf] at hr
     dsimp only at hr
     cases hc:(draw||env.df|| !wG S env.tm T.dc o.op) with
     | true=>rw [hc] at hr; cases hr
     | false=>
      rw [hc,cond_false] at hr
      simp only [Bool.or_eq_false_iff,Bool.not_eq_false'] at hc
      exact Lh h hD hN hd hdf hc.1.2 hc.2 fun ds hI=>pR hP hT hF hZ hD hQ l (n+1) _ _ _ w μ hl' hr hI (hZ.put a hN o hmem undef ds)
    | false=>
    rw [hdf] at hr
    dsimp only at hr
    cases hn:uH S o.op env.tm with
    | some p=>
     obtain ⟨m,v⟩:=p
     rw [hn] at hr
     cases lN:draw with
     | true=>rw [lN] at hr; cases hr
     | false=>
     rw [lN] at hr
     simp only [cond_false] at hr
     obtain ⟨x,NH,MU⟩:=O6 (Q:=Q) hP h hd hn
     have MG:splitK S (ur ops n) o.dst (env.apply o.dst (.d .bool x) []) (fun e=>gV S T ai cv ops false dz k l (n+1) ((n,some ([],[]))::cG) e)=some r:=by
      by_cases hm:m=0
      · rw [if_pos hm] at hr
        obtain ⟨r1,r2⟩:=JH hr
        cases x <;> cases v <;> first | exact r1 | exact r2
      · rw [if_neg hm] at hr
        rcases NH with rfl | h0
        · exact hr
        · exact absurd h0 hm
     refine MU _ fun a' w' μ' hI ⟨v,d,hs⟩=> ?_
     rcases Cq MG with ⟨_,h4⟩ | ⟨t,y,_,_,hk,h4⟩
     · exact pR hP hT hF hZ hD hQ l (n+1) _ _ a' w' μ' hl' h4 hI (hs▸hZ.put a hN o hmem v d)
     · exact pR hP hT hF hZ hD hQ l (n+1) _ _ a' w' μ' hl' h4 (hI.BY hk) (hs▸hZ.put a hN o hmem v d)
    | none=>
    rw [hn] at hr
    obtain ⟨V,us,h1,h2,h3⟩:=HE hr
    refine Gk hP hT hF h hd h1 h2 fun a' w' μ' hI ⟨v,d,hs⟩=> ?_
    rcases Cq h3 with ⟨_,h4⟩ | ⟨t,x,_,_,hk,h4⟩
    · exact pR hP hT hF hZ hD hQ l (n+1) _ _ a' w' μ' hl' h4 hI (hs▸hZ.put a hN o hmem v d)
    · exact pR hP hT hF hZ hD hQ l (n+1) _ _ a' w' μ' hl' h4 (hI.BY hk) (hs▸hZ.put a hN o hmem v d)
end
end Go.Sy
namespace Go.Sy
theorem JY (ops:List Oper): ∀ (acc:Array Nat), ∃ b:Array Nat,(ops.foldl (init:=acc) fun acc o=>acc.push (o.after.foldl (fun s e=>if Region.binds .any e then s ||| 2 ^ e.on ||| acc.getD e.on 0 else s) 0))=b∧
 (∀ j,j<acc.size→b.getD j 0=acc.getD j 0)∧b.size=acc.size+ops.length∧
 ∀ j o,ops[j]? =some o→ ∀ i,(b.getD (acc.size+j) 0).testBit i=true→ ∃ e ∈ o.after.toList,Region.binds .any e=true∧(e.on=i∨(e.on<acc.size+j∧(b.getD e.on 0).testBit i=true)):=by
 induction ops with
 | nil=>intro acc; exact ⟨acc,rfl,fun _ _=>rfl,rfl,fun j o h=>by simp at h⟩
 | cons o ops ih=>
  intro acc
  obtain ⟨b,h1,h2,h3,h4⟩:=ih (acc.push (o.after.foldl (fun s e=>if Region.binds .any e then s ||| 2 ^ e.on ||| acc.getD e.on 0 else s) 0))
  refine ⟨b,h1,fun j hj=> ?_,by rw [h3]; simp; omega,fun j o' hj i hi=> ?_⟩
  · rw [h2 j (by simp; omega)]
    simp only [Array.getD_eq_getD_getElem?]
    rw [Array.getElem?_push_lt hj]
    simp [hj]
  · cases j with
    | zero=>
     simp at hj
     subst hj
     rw [Nat.add_zero] at hi ⊢
     rw [h2 acc.size (by simp)] at hi
     simp only [Array.getD_eq_getD_getElem?,Array.getElem?_push_size,Option.getD_some] at hi
     rw [← Array.foldl_toList] at hi
     have : ∀ (l:List Edge) (s:Nat),(l.foldl (fun s e=>if Region.binds .any e then s ||| 2 ^ e.on ||| (acc[e.on]?.getD 0) else s) s).testBit i=true→s.testBit i=true∨ ∃ e ∈ l,Region.binds .any e=true∧(e.on=i∨(acc[e.on]?.getD 0).testBit i=true):=by
      intro l
      induction l with
      | nil=>intro s h; exact .inl h
      | cons e l ih2=>
       intro s h
       rcases ih2 _ h with h | ⟨e',he',h⟩
       · dsimp only at h
         by_cases hb:Region.binds .any e=true
         · rw [if_pos hb,Nat.testBit_or,Nat.testBit_or,Bool.or_eq_true,Bool.or_eq_true,Nat.testBit_two_pow] at h
           rcases h with (h | h) | h
           · exact .inl h
           · exact .inr ⟨e,by simp,hb, .inl (by simpa using h)⟩
           · exact .inr ⟨e,by simp,hb, .inr h⟩
         · rw [if_neg hb] at h; exact .inl h
       · exact .inr ⟨e',by simp [he'],h⟩
     rcases this _ _ hi with h | ⟨e,he,hb,h⟩
     · simp at h
     · refine ⟨e,he,hb,h.imp id fun h=> ?_⟩
       have hlt:e.on<acc.size:=by
        rcases Nat.lt_or_ge e.on acc.size with hlt | hge
        · exact hlt
        · rw [Array.getElem?_eq_none hge] at h; simp at h
       refine ⟨hlt, ?_⟩
       rw [h2 e.on (by simp; omega)]
       simp only [Array.getD_eq_getD_getElem?]
       rw [Array.getElem?_push_lt hlt]
       simpa [hlt] using h
    | succ j=>
     have hs:(acc.push (o.after.foldl (fun s e=>if Region.binds .any e then s ||| 2 ^ e.on ||| acc.getD e.on 0 else s) 0)).size+j=acc.size+(j+1):=by simp; omega
     have :=h4 j o' (by simpa using hj) i (by rw [hs]; exact hi)
     rw [hs] at this
     exact this
theorem Dh {ops:Array Oper} {j:Nat} {o:Oper} (hj:ops[j]? =some o) {i:Nat} (hi:((Region.before ops).getD j 0).testBit i=true):
 ∃ e ∈ o.after.toList,Region.binds .any e=true∧(e.on=i∨(e.on<j∧((Region.before ops).getD e.on 0).testBit i=true)):=by
 obtain ⟨b,h1,h2,h3,h4⟩:=JY ops.toList #[]
 have hb:Region.before ops=b:=by
  rw [← h1]
  unfold Region.before
  rw [← Array.foldl_toList]
 rw [hb] at hi ⊢
 have :=h4 j o (by simpa using hj) i (by simpa using hi)
 simpa using this
def sy (ops:Array Oper) (D:Nat→Bool):Prop:= ∀ j o,D j=true→ops[j]? =some o→ ∀ e ∈ o.after.toList,Region.binds .any e=true→D e.on=true
theorem sy.before {ops:Array Oper} {D:Nat→Bool} (h:sy ops D) (hn: ∀ j,D j=true→j<ops.size): ∀ (j i:Nat),D j=true→((Region.before ops).getD j 0).testBit i=true→D i=true:=by
 intro j
 induction j using Nat.strongRecOn with
 | _ j ih=>
  intro i hj hi
  have hlt:=hn j hj
  obtain ⟨e,he,hb,h1⟩:=Dh (ops:=ops) (j:=j) (o:=ops[j]) (by simp [hlt]) hi
  have :=h j ops[j] hj (by simp [hlt]) e he hb
  rcases h1 with rfl | ⟨h1,h2⟩
  · exact this
  · exact ih e.on h1 i this h2
theorem Qy {ops:Array Oper} {D:Nat→Bool} (h:sy ops D) (hn: ∀ j,D j=true→j<ops.size) {j:Nat} {o:Oper} (hj:ops[j]? =some o) (hr: ∀ e ∈ o.after.toList,Region.binds .any e=true→D e.on=true) {i:Nat}
 (hi:((Region.before ops).getD j 0).testBit i=true):D i=true:=by
 obtain ⟨e,he,hb,h1⟩:=Dh hj hi
 rcases h1 with rfl | ⟨h1,h2⟩
 · exact hr e he hb
 · exact h.before hn e.on i (hr e he hb) h2
def cnt (D:Nat→Bool):Nat→Nat
 | 0=>0
 | n+1=>cnt D n+cond (D n) 0 1
theorem DL {D:Nat→Bool} {i:Nat} : ∀ {n:Nat},n≤i→cnt (aq D i true) n=cnt D n
 | 0,_=>rfl
 | n+1,h=>by
  simp only [cnt]
  rw [DL (by omega),aZ _ _ (by omega)]
theorem DM {D:Nat→Bool} {i:Nat} (hi:D i=false): ∀ {n:Nat},i<n→cnt (aq D i true) n+1=cnt D n
 | 0,h=>by omega
 | n+1,h=>by
  simp only [cnt]
  by_cases e:i=n
  · subst e
    rw [DL (Nat.le_refl _),aO,hi]
    rfl
  · rw [aZ _ _ (Ne.symm e)]
    have :=DM hi (n:=n) (by omega)
    omega
theorem DN {D:Nat→Bool} : ∀ {n:Nat},cnt D n=0→ ∀ i,i<n→D i=true
 | 0,_,i,h=>by omega
 | n+1,hc,i,h=>by
  simp only [cnt] at hc
  by_cases e:i=n
  · subst e
    cases hd:D i with
    | true=>rfl
    | false=>rw [hd] at hc; simp at hc
  · exact DN (D:=D) (n:=n) (by omega) i (by omega)
end Go.Sy
namespace Go.Sy
section
variable {P:Program} {S:aP} {ai:Nat→Nat} {T:fD S}
theorem mapM_congr {α β:Type} {f g:α→Option β} : ∀ {l:List α},(∀ x ∈ l,f x=g x)→l.mapM f=l.mapM g
 | [],_=>rfl
 | x::l,h=>by
  rw [List.mapM_cons,List.mapM_cons,h x (by simp),mapM_congr fun y hy=>h y (by simp [hy])]
theorem Pd {B:Nat} {o:Op} {ty:Nat} {tm j9:Nat→V S.C} {bx:Bx S.C} (h: ∀ x ∈ o.operands.toList,aN S tm x=aN S j9 x):cj S T ai B o ty tm bx=cj S T ai B o ty j9 bx:=by
 have h1: ∀ x,o.operands.toList= [x]→aN S tm x=aN S j9 x:=fun x e=>h x (by rw [e]; simp)
 cases o with
 | move x=>simp only [cj,h1 x (by simp [Op.operands])]
 | assign x=>simp only [cj,h1 x (by simp [Op.operands])]
 | pick c x y=>simp only [cj,h c (by simp [Op.operands]),h x (by simp [Op.operands]),h y (by simp [Op.operands])]
 | alloc t=>rfl
 | box t x=>simp only [cj,h1 x (by simp [Op.operands])]
 | build t ps=>
  simp only [cj]
  rw [mapM_congr (l:=ps.toList) fun p hp=>by rw [h p.2 (by simp only [Op.operands]; exact List.mem_map.2 ⟨p,hp,rfl⟩)]]
 | buildSlice t len ps=>
  simp only [cj]
  rw [mapM_congr (l:=ps.toList) fun p hp=>by rw [h p.2 (by simp only [Op.operands]; exact List.mem_map.2 ⟨p,hp,rfl⟩)]]
 | load t x=>simp only [cj,h1 x (by simp [Op.operands])]
 | store t x y=>simp only [cj,h x (by simp [Op.operands]),h y (by simp [Op.operands])]
 | nilCheck x=>simp only [cj,h1 x (by simp [Op.operands])]
 | binOp op t x y t'=>
  have hx:=h x (by simp [Op.operands])
  have hy:=h y (by simp [Op.operands])
  by_cases e:y= .const .nilIface
  · subst e
    simp only [cj,hx]
  · rw [Bh e,Bh e,hx,hy]
 | unOp op t x=>simp only [cj,h1 x (by simp [Op.operands])]
 | convert s t x=>simp only [cj,h1 x (by simp [Op.operands])]
 | makeFunc fn first cs=>
  cases fn with
  | func f=>
   obtain ⟨l⟩:=first
   cases l with
   | nil=>
    simp only [cj]
    rw [mapM_congr (l:=cs.toList) fun x hx=>h x (by simpa [Op.operands] using hx)]
   | cons x r=>rfl
  | _=>rfl
 | makeSlice t x y=>simp only [cj,h x (by simp [Op.operands]),h y (by simp [Op.operands])]
 | slice t x lo hi m=>
  cases m with
  | some m=>
   cases lo with
   | none=>rfl
   | some lo=>
    cases hi with
    | none=>rfl
    | some hi=>simp only [cj,h x (by simp [Op.operands]),h lo (by simp [Op.operands]),h hi (by simp [Op.operands]),h m (by simp [Op.operands])]
  | none=>
   have e1:gS S tm lo=gS S j9 lo:=by
    cases lo with
    | none=>rfl
    | some y=>simp only [gS]; rw [h y (by simp [Op.operands])]
   have e2:gS S tm hi=gS S j9 hi:=by
    cases hi with
    | none=>rfl
    | some y=>simp only [gS]; rw [h y (by simp [Op.operands])]
   simp only [cj,h x (by simp [Op.operands]),e1,e2]
 | fieldAddr t x f=>simp only [cj,h1 x (by simp [Op.operands])]
 | field t x f=>simp only [cj,h1 x (by simp [Op.operands])]
 | indexAddr t x i=>simp only [cj,h x (by simp [Op.operands]),h i (by simp [Op.operands])]
 | index t x i=>simp only [cj,h x (by simp [Op.operands]),h i (by simp [Op.operands])]
 | extract x i=>simp only [cj,h1 x (by simp [Op.operands])]
 | call c=>
  obtain ⟨callee,sQ,DQ⟩:=c
  have ha:sQ.toList.mapM (aN S tm)=sQ.toList.mapM (aN S j9):=mapM_congr fun x hx=>h x (by simp only [Op.operands,Call.operands]; simp; right; simpa using hx)
  unfold cj
  dsimp only
  rw [ha]
  cases callee with
  | builtin b=>cases b <;> rfl
  | value f=>
   dsimp only
   rw [h f (by simp [Op.operands,Call.operands])]
  | invoke r n=>rfl
 | _=>rfl
theorem zW {α β:Type} {f g:α→List β} : ∀ {l:List α},(∀ x ∈ l,f x=g x)→l.flatMap f=l.flatMap g
 | [],_=>rfl
 | x::l,h=>by rw [List.flatMap_cons,List.flatMap_cons,h x (by simp),zW fun y hy=>h y (by simp [hy])]
theorem Ld {bx ag:Bx S.C} {ids:List Nat} (h: ∀ i ∈ ids,ag i=bx i):deep S ag ids=deep S bx ids:=by
 unfold deep
 congr 1
 exact zW fun i hi=>by rw [h i hi]
theorem LZ {B:Nat} {o:Op} {tm j9:Nat→V S.C} {bx ag:Bx S.C} (h: ∀ x ∈ o.operands.toList,aN S j9 x=aN S tm x) (hb: ∀ i ∈ (aD S T.vw B o tm bx).1,ag i=bx i):aD S T.vw B o j9 ag=aD S T.vw B o tm bx:=by
 have hi:o.operands.toList.flatMap (qT S j9)=o.operands.toList.flatMap (qT S tm):=
  zW fun x hx=>by unfold qT; rw [h x hx]
 have h1: ∀ x,o.operands.toList= [x]→aN S j9 x=aN S tm x:=fun x e=>h x (by rw [e]; simp)
 cases o with
 | move x=>simp only [aD,h1 x (by simp [Op.operands])]
 | assign x=>simp only [aD,h1 x (by simp [Op.operands])]
 | call c=>
  obtain ⟨callee,sQ,DQ⟩:=c
  cases callee with
  | builtin b=>
   cases b with
   | len=>simp only [aD]; rw [hi]
   | _=>simp only [aD]; rw [hi]
  | value f=>
   simp only [aD]
   rw [hi,Ld fun i hm=>hb i (by simp only [aD]; exact List.mem_append.2 (.inl (List.mem_append.2 (.inl hm))))]
  | invoke r n=>simp only [aD]; rw [hi]
 | _=>simp only [aD] <;> rw [hi]
structure cS (S:aP) where
 dst:Option Nat
 W:V S.C
 us:aH S.C
 fp:Option (List Nat×List Nat)
def cS.put (e:cS S) (env:Env S.C):Env S.C:=env.apply e.dst e.W e.us
def bH (D:Nat→Bool):List (cS S)→Nat→Env S.C→Env S.C
 | [],_,env=>env
 | e::es,n,env=>bH D es (n+1) (cond (D n) (e.put env) env)
def Spec (T:fD S) (ai:Nat→Nat) (cv:Nat) (ops:Array Oper) (env:Env S.C) (n:Nat) (o:Oper) (e:cS S):Prop:=
 e.dst=o.dst∧((k_ S ops o env.tm=some false∧e.W= .skip∧e.us= []∧e.fp=none)∨
  (k_ S ops o env.tm=some true∧e.fp=some (aD S T.vw (jB cv n o.dst) o.op env.tm env.bx)∧kF S env.bx (jB cv n o.dst) (aD S T.vw (jB cv n o.dst) o.op env.tm env.bx).2 e.us=true∧
   ∃ V,(cj S T ai (jB cv n o.dst) o.op o.type env.tm (restrict S env.bx (aD S T.vw (jB cv n o.dst) o.op env.tm env.bx).1)).leaf (V,e.us)∧
    (e.W=V∨ ∃ t x,o.dst=some t∧oa V x∧e.W= .d .bool x)))
def qd (T:fD S) (ai:Nat→Nat) (cv:Nat) (ops:Array Oper):List Oper→Nat→Env S.C→List (cS S)→Prop
 | [],_,_,es=>es= []
 | o::l,n,env,es=> ∃ e r,es=e::r∧Spec T ai cv ops env n o e∧qd T ai cv ops l (n+1) (e.put env) r
def tF:List (cS S)→Nat→List (Nat×Option (List Nat×List Nat))→List (Nat×Option (List Nat×List Nat))
 | [],_,cG=>cG
 | e::es,n,cG=>tF es (n+1) ((n,e.fp)::cG)
theorem Lt (es:List (cS S)) (n:Nat) (env:Env S.C): ∀ {D:Nat→Bool},(∀ i,n≤i→i<n+es.length→D i=true)→bH D es n env=es.foldl (fun env e=>e.put env) env:=by
 induction es generalizing n env with
 | nil=>intro D _; rfl
 | cons e es ih=>
  intro D h
  simp only [bH,List.foldl_cons]
  rw [h n (Nat.le_refl _) (by simp),cond_true]
  exact ih (n+1) _ fun i h1 h2=>h i (by omega) (by simp; omega)
theorem D_ (es:List (cS S)) (n:Nat) (env:Env S.C) {D:Nat→Bool} (h: ∀ i,n≤i→D i=false):bH D es n env=env:=by
 induction es generalizing n env with
 | nil=>rfl
 | cons e es ih=>
  simp only [bH]
  rw [h n (Nat.le_refl _),cond_false]
  exact ih (n+1) _ fun i hi=>h i (by omega)
theorem Ik {α:Type} (f:Nat→α) (k:Nat) (v u:α):aq (aq f k v) k u=aq f k u:=by
 funext i
 by_cases e:i=k
 · subst e; rw [aO,aO]
 · rw [aZ _ _ e,aZ _ _ e,aZ _ _ e]
theorem x4 {R:Type} {cv:Nat} {ops:Array Oper} {dz:Array Nat} {draw:Bool} {k:Env S.C→Option R} {r:R} :
 ∀ (l:List Oper) (n:Nat) (cG:List (Nat×Option (List Nat×List Nat))) (env:Env S.C),gV S T ai cv ops draw dz k l n cG env=some r→
 draw=true→ ∃ es,qd T ai cv ops l n env es∧k (es.foldl (fun env e=>e.put env) env)=some r∧(draw=true→lB ops dz (tF es n cG)=true∧vt ops=true)
 | [],n,cG,env,hr,lN=>by
  simp only [gV] at hr
  cases hc:(!draw||(lB ops dz cG&&vt ops)) with
  | false=>rw [hc] at hr; cases hr
  | true=>
   rw [hc] at hr
   refine ⟨[],rfl,hr,fun hd=> ?_⟩
   rw [hd] at hc
   simpa [tF] using hc
 | o::l,n,cG,env,hr,lN=>by
  simp only [gV] at hr
  cases hw:k_ S ops o env.tm with
  | none=>rw [hw] at hr; cases hr
  | some b=>
   rw [hw] at hr
   cases b with
   | false=>
    obtain ⟨es,h1,h2,h3⟩:=x4 l (n+1) _ _ hr lN
    exact ⟨⟨o.dst, .skip,[],none⟩::es,⟨_,_,rfl,⟨rfl, .inl ⟨hw,rfl,rfl,rfl⟩⟩,h1⟩,h2,h3⟩
   | true=>
    dsimp only at hr
    cases hdf:xd o.op with
    | true=>rw [hdf,lN] at hr; cases hr
    | false=>
    rw [hdf] at hr
    dsimp only at hr
    cases hn:uH S o.op env.tm with
    | some p=>rw [hn,lN] at hr; cases hr
    | none=>
    rw [hn] at hr
    obtain ⟨V,us,h1,h2,h3⟩:=HE hr
    rcases Cq h3 with ⟨_,h4⟩ | ⟨t,x,_,ht,hk,h4⟩
    · obtain ⟨es,g1,g2,g3⟩:=x4 l (n+1) _ _ h4 lN
      exact ⟨⟨o.dst,V,us,_⟩::es,⟨_,_,rfl,⟨rfl, .inr ⟨hw,rfl,h2,V,h1, .inl rfl⟩⟩,g1⟩,g2,g3⟩
    · have M7:oa V x:=by
       have e:(env.apply o.dst V us).tm t=V:=by
        rw [ht]
        exact aO _ _ _
       rw [e] at hk
       exact hk
      have he:({ env.apply o.dst V us with tm:=aq (env.apply o.dst V us).tm t (.d .bool x) } :Env S.C)=cS.put ⟨o.dst, .d .bool x,us,some (aD S T.vw (jB cv n o.dst) o.op env.tm env.bx)⟩ env:=by
       simp only [cS.put,Env.apply,ht,rQ]
       rw [Ik]
      rw [he] at h4
      obtain ⟨es,g1,g2,g3⟩:=x4 l (n+1) _ _ h4 lN
      exact ⟨_::es,⟨_,_,rfl,⟨rfl, .inr ⟨hw,rfl,h2,V,h1, .inr ⟨t,x,ht,M7,rfl⟩⟩⟩,g1⟩,g2,g3⟩
theorem qd.at {cv:Nat} {ops:Array Oper} : ∀ {l:List Oper} {n:Nat} {env:Env S.C} {es:List (cS S)},qd T ai cv ops l n env es→es.length=l.length∧ ∀ j o,l[j]? =some o→
 ∃ e,es[j]? =some e∧Spec T ai cv ops (bH (fun i=>Nat.blt i (n+j)) es n env) (n+j) o e
 | [],n,env,es,h=>by cases h; exact ⟨rfl,fun j o hj=>by simp at hj⟩
 | o::l,n,env,es,⟨e,r,he,h1,h2⟩=>by
  subst he
  obtain ⟨h3,h4⟩:=qd.at h2
  refine ⟨by simp [h3],fun j o' hj=> ?_⟩
  cases j with
  | zero=>
   simp at hj
   subst hj
   refine ⟨e,rfl, ?_⟩
   rw [D_ _ _ _ fun i hi=> ?_]
   · exact h1
   · cases hb:Nat.blt i (n+0) with
     | false=>rfl
     | true=>have :=Nat.le_of_ble_eq_true hb; omega
  | succ j=>
   obtain ⟨e',h5,h6⟩:=h4 j o' (by simpa using hj)
   refine ⟨e',by simpa using h5, ?_⟩
   simp only [bH]
   rw [show Nat.blt n (n+(j+1))=true from Nat.ble_eq_true_of_le (by omega),cond_true,show n+(j+1)=n+1+j from by omega]
   exact h6
def yO (ops:Array Oper) (dz:Array Nat) (i j:Nat) (fi fj:Option (List Nat×List Nat)):Prop:=
 (dz.getD j 0).testBit i=true∨(Oper.apart ops (ops.getD i default) (ops.getD j default)=true∧ ∀ a b,fi=some a→fj=some b→meets a b=false)
theorem C8 {ops:Array Oper} {dz:Array Nat} : ∀ (es:List (cS S)) (n:Nat) (cG:List (Nat×Option (List Nat×List Nat))),lB ops dz (tF es n cG)=true→
 (∀ i j ei ej,i<j→es[i]? =some ei→es[j]? =some ej→yO ops dz (n+i) (n+j) ei.fp ej.fp)∧(∀ p ∈ cG, ∀ j ej,es[j]? =some ej→yO ops dz p.1 (n+j) p.2 ej.fp)∧lB ops dz cG=true
 | [],n,cG,h=>⟨fun i j ei ej _ h1=>by simp at h1,fun p _ j ej h1=>by simp at h1,h⟩
 | e::es,n,cG,h=>by
  obtain ⟨h1,h2,h3⟩:=C8 es (n+1) ((n,e.fp)::cG) h
  simp only [lB,Bool.and_eq_true] at h3
  have h4: ∀ p ∈ cG,yO ops dz p.1 n p.2 e.fp:=fun p hp=>by
   have :=List.all_eq_true.1 h3.2 p hp
   rw [Bool.or_eq_true,Bool.and_eq_true] at this
   refine this.imp id fun h=>⟨h.1,fun a b ha hb=> ?_⟩
   have h2:=h.2
   rw [ha,hb] at h2
   simpa using h2
  refine ⟨fun i j ei ej hij hi hj=> ?_,fun p hp j ej hj=> ?_,h3.1⟩
  · cases j with
    | zero=>omega
    | succ j=>
     rw [show n+(j+1)=n+1+j from by omega]
     cases i with
     | zero=>
      simp at hi
      subst hi
      exact h2 (n,e.fp) (by simp) j ej (by simpa using hj)
     | succ i=>
      rw [show n+(i+1)=n+1+i from by omega]
      exact h1 i j ei ej (by omega) (by simpa using hi) (by simpa using hj)
  · cases j with
    | zero=>
     simp at hj
     subst hj
     exact h4 p hp
    | succ j=>
     rw [show n+(j+1)=n+1+j from by omega]
     exact h2 p (by simp [hp]) j ej (by simpa using hj)
theorem qW {e:cS S} {env:Env S.C} {t:Nat} (h:e.dst≠some t):(e.put env).tm t=env.tm t:=by
 unfold cS.put Env.apply rQ
 cases hd:e.dst with
 | none=>rfl
 | some d=>exact aZ _ _ fun he=>h (by rw [hd,he])
theorem qX {e:cS S} {env:Env S.C} {t:Nat} (h:e.dst=some t):(e.put env).tm t=e.W:=by
 unfold cS.put Env.apply rQ
 rw [h]
 exact aO _ _ _
theorem uK {e:cS S} {env:Env S.C} {b:Nat} (h: ∀ u ∈ e.us,u.1≠b):(e.put env).bx b=env.bx b:=rZ _ _ h
theorem Ea {D D':Nat→Bool} {t:Nat} : ∀ {es:List (cS S)} {n:Nat} {env env':Env S.C},env.tm t=env'.tm t→(∀ i e,es[i]? =some e→e.dst=some t→D (n+i)=D' (n+i))→(bH D es n env).tm t=(bH D' es n env').tm t
 | [],_,_,_,h,_=>h
 | e::es,n,env,env',h,hd=>by
  refine Ea (es:=es) (n:=n+1) ?_ fun i e' hi he=>by
   have :=hd (i+1) e' (by simpa using hi) he
   rw [show n+1+i=n+(i+1) from by omega]; exact this
  by_cases he:e.dst=some t
  · have :=hd 0 e rfl he
    rw [Nat.add_zero] at this
    rw [this]
    cases D' n with
    | true=>rw [cond_true,cond_true,qX he,qX he]
    | false=>exact h
  · cases D n <;> cases D' n <;> simp only [cond_true,cond_false,qW he] <;> exact h
theorem D9 {D D':Nat→Bool} {b:Nat} : ∀ {es:List (cS S)} {n:Nat} {env env':Env S.C},env.bx b=env'.bx b→(∀ i e,es[i]? =some e→(∃ u ∈ e.us,u.1=b)→D (n+i)=D' (n+i))→(bH D es n env).bx b=(bH D' es n env').bx b
 | [],_,_,_,h,_=>h
 | e::es,n,env,env',h,hd=>by
  refine D9 (es:=es) (n:=n+1) ?_ fun i e' hi he=>by
   have :=hd (i+1) e' (by simpa using hi) he
   rw [show n+1+i=n+(i+1) from by omega]; exact this
  by_cases he: ∃ u ∈ e.us,u.1=b
  · have :=hd 0 e rfl he
    rw [Nat.add_zero] at this
    rw [this]
    cases D' n with
    | true=>exact (n6 e.us h.symm).symm
    | false=>exact h
  · have he: ∀ u ∈ e.us,u.1≠b:=fun u hu e'=>he ⟨u,hu,e'⟩
    cases D n <;> cases D' n <;> simp only [cond_true,cond_false,uK he] <;> exact h
theorem Env.ext' {e e':Env S.C} (h1: ∀ t,e.tm t=e'.tm t) (h2: ∀ b,e.bx b=e'.bx b) (h3:e.df=e'.df):e=e':=by
 cases e; cases e'
 congr
 · funext t; exact h1 t
 · funext b; exact h2 b
theorem Lu {D:Nat→Bool} {es:List (cS S)} {j:Nat} {ej:cS S} {env:Env S.C} (hj:es[j]? =some ej) (hD:D j=false)
 (tS: ∀ i e,j<i→es[i]? =some e→D i=true→(∀ t,ej.dst=some t→e.dst≠some t)∧ ∀ u ∈ ej.us, ∀ u' ∈ e.us,u'.1≠u.1):
 bH (aq D j true) es 0 env=ej.put (bH D es 0 env):=by
 have M_: ∀ (es:List (cS S)) (n:Nat) (env:Env S.C),(∀ i e,es[i]? =some e→D (n+i)=true→(∀ t,ej.dst=some t→e.dst≠some t)∧ ∀ u ∈ ej.us, ∀ u' ∈ e.us,u'.1≠u.1)→bH D es n (ej.put env)=ej.put (bH D es n env):=by
  intro es
  induction es with
  | nil=>intro n env _; rfl
  | cons e es ih=>
   intro n env h
   simp only [bH]
   rw [← ih (n+1) _ fun i e' hi hd=>by
    have :=h (i+1) e' (by simpa using hi)
    rw [show n+(i+1)=n+1+i from by omega] at this
    exact this hd]
   congr 1
   cases hn:D n with
   | false=>rfl
   | true=>
    simp only [cond_true]
    obtain ⟨c1,c2⟩:=h 0 e rfl (by rw [Nat.add_zero]; exact hn)
    refine Env.ext' (fun t=> ?_) (fun b=> ?_) rfl
    · by_cases h1:ej.dst=some t
      · rw [qW (c1 t h1),qX h1,qX h1]
      · rw [qW h1]
        by_cases h2:e.dst=some t
        · rw [qX h2,qX h2]
        · rw [qW h2,qW h2,qW h1]
    · by_cases h1: ∃ u ∈ ej.us,u.1=b
      · obtain ⟨u,hu,rfl⟩:=h1
        have h2: ∀ u' ∈ e.us,u'.1≠u.1:=c2 u hu
        rw [uK h2]
        exact n6 ej.us (uK h2).symm
      · have h1: ∀ u ∈ ej.us,u.1≠b:=fun u hu e'=>h1 ⟨u,hu,e'⟩
        rw [uK h1]
        exact n6 e.us (uK h1)
 have key: ∀ (es:List (cS S)) (n:Nat) (env:Env S.C),n≤j→es[j - n]? =some ej→(∀ i e,j<n+i→es[i]? =some e→D (n+i)=true→(∀ t,ej.dst=some t→e.dst≠some t)∧ ∀ u ∈ ej.us, ∀ u' ∈ e.us,u'.1≠u.1)→
  bH (aq D j true) es n env=ej.put (bH D es n env):=by
  intro es
  induction es with
  | nil=>intro n env _ h; simp at h
  | cons e es ih=>
   intro n env hn h hl
   simp only [bH]
   by_cases e':n=j
   · subst e'
     rw [Nat.sub_self] at h
     simp at h
     subst h
     rw [aO,hD,cond_true,cond_false]
     rw [← M_ es (n+1) env fun i e hi hd=>hl (i+1) e (by omega) (by simpa using hi) (by rw [show n+(i+1)=n+1+i from by omega]; exact hd)]
     have : ∀ (es:List (cS S)) (m:Nat) (env:Env S.C),n<m→bH (aq D n true) es m env=bH D es m env:=by
      intro es
      induction es with
      | nil=>intro m env _; rfl
      | cons e es ih=>
       intro m env hm
       simp only [bH]
       rw [aZ _ _ (by omega)]
       exact ih (m+1) _ (by omega)
     exact this es (n+1) _ (by omega)
   · rw [aZ _ _ e']
     refine ih (n+1) _ (by omega) ?_ fun i e hi he hd=>hl (i+1) e (by omega) (by simpa using he) (by rw [show n+(i+1)=n+1+i from by omega]; exact hd)
     rw [show j - n=(j - (n+1))+1 from by omega] at h
     simpa using h
 exact key es 0 env (Nat.zero_le _) (by simpa using hj) fun i e hi he hd=>tS i e (by omega) he (by simpa using hd)
end
end Go.Sy
