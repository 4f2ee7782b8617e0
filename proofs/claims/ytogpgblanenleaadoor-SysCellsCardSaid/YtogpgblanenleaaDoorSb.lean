import Derived.Laws.MakeOwn
import Derived.Great.BuildSlice
import Derived.Deep.Upon
import Derived.Laws.StructEq
import Derived.Stop.IfaceNil
import Derived.Laws.Entries
import Derived.Orders
import Derived.Test.YtogpgblanenleaaDoorSa
set_option linter.unusedVariables false
set_option linter.unusedSimpArgs false
namespace Go.Sy
theorem nV {w:World} {b o b' o':Nat} {cs vals:List Value} (h:w.rangeAt b' o' cs) (hd:b'≠b∨o'+cs.length≤o∨o+vals.length≤o'):(w.setCells b o vals).rangeAt b' o' cs:=fun j v hj=>by
 have hjl:=(List.getElem?_eq_some_iff.1 hj).1
 rw [World.cell?_setCells_out b vals o w ⟨b',o'+j,none⟩ fun hb _=>by
  have hb:b'=b:=hb
  show o'+j<o∨o+vals.length≤o'+j
  rcases hd with hd | hd | hd
  · exact absurd hb hd
  · omega
  · omega]
 exact h j v hj
theorem Dw {w:World} {b o:Nat} {cs vals:List Value} (h:w.rangeAt b o cs) (k:Nat) (hk:k+vals.length≤cs.length):(w.setCells b (o+k) vals).rangeAt b o (cs.take k++vals++cs.drop (k+vals.length)):=fun j v hj=>by
 have hin:=World.cell?_setCells_in b vals (o+k) w (fun i hi=>by
  have :(cs[k+i]?).isSome=true:=by rw [List.getElem?_eq_getElem (by omega)]; rfl
  obtain ⟨u,hu⟩:=Option.isSome_iff_exists.1 this
  rw [Nat.add_assoc,h _ _ hu]; rfl)
 by_cases h1:j<k
 · rw [List.append_assoc,List.getElem?_append_left (by simp; omega),List.getElem?_take,if_pos h1] at hj
   rw [World.cell?_setCells_out b vals (o+k) w ⟨b,o+j,none⟩ fun _ _=> .inl (by show o+j<o+k; omega)]
   exact h j v hj
 · by_cases h2:j<k+vals.length
   · rw [List.append_assoc,List.getElem?_append_right (by simp; omega),List.getElem?_append_left (by simp; omega)] at hj
     have hlen:(List.take k cs).length=k:=by simp; omega
     rw [hlen] at hj
     have :=hin (j - k) (by omega)
     rw [show o+k+(j - k)=o+j from by omega] at this
     rw [this, ← hj,List.getElem?_eq_getElem]
   · rw [List.append_assoc,List.getElem?_append_right (by simp; omega),List.getElem?_append_right (by simp; omega),List.getElem?_drop] at hj
     have hlen:(List.take k cs).length=k:=by simp; omega
     rw [hlen] at hj
     rw [World.cell?_setCells_out b vals (o+k) w ⟨b,o+j,none⟩ fun _ _=> .inr (by show o+k+vals.length≤o+j; omega)]
     rw [show k+vals.length+(j - k - vals.length)=j from by omega] at hj
     exact h j v hj
theorem tQ {w:World} {b o:Nat} {vals:List Value} (ht:w.there b o vals.length):(w.setCells b o vals).rangeAt b o vals:=fun j v hj=>by
 have hjl:=(List.getElem?_eq_some_iff.1 hj).1
 rw [World.cell?_setCells_in b vals o w (fun i hi=>(ht i hi).1) j hjl, ← hj,List.getElem?_eq_getElem]
theorem oz {w:World} {b o n b' o':Nat} {vals:List Value} (h:w.there b o n) (hs:w.there b' o' vals.length):(w.setCells b' o' vals).there b o n:=fun j hj=>by
 have hc:=aW.setCells w b' o' vals hs
 have hlt:b<w.heap.size:=by
  obtain ⟨v,hv⟩:=Option.isSome_iff_exists.1 (h j hj).1
  exact World.block_lt_of_cell? w _ hv
 exact ⟨hc.some _ _ hlt (h j hj).1,(World.frozen?_setCells ..).trans (h j hj).2⟩
section
variable {P:Program} {S:aN} {af:Nat→Nat}
variable {w0:World} {M0 s0:St} {dq:List Deferred} {env:Env S.C} {a:Act} {w:World} {μ:Nat→Loc} {K:Act→World→Prop} {Q:Exit→Act→World→Prop} {o:Oper} {V:V S.C} {us:aG S.C}
theorem J4 {s:St} {bx:Bx S.C} {i:Nat} {L:Loc} {B:cR S.C} (hb:bx i=some B) (hl:live S bx i) (hB: ∀ l,B≠ .buf l) (h:RB P S w s μ bx L B):w.there L.b L.o L.n:=by
 unfold live at hl
 rw [hb] at hl
 cases B with
 | cells vs=>exact h.2.2.1
 | arr e l=>exact h.2.2.2.1
 | tail=>exact h
 | bw vs=>exact hl.elim
 | bp e l=>exact hl.elim
 | dead=>exact hl.elim
 | aV j=>
  obtain ⟨h1,h2,_,v,⟨T,e,p,_,h3,_⟩,_⟩:=h
  intro k hk
  rw [h1,h2] at *
  rw [Lib.cell_of_heap h3,Lib.frozen_of_heap h3]
  refine ⟨by simp; omega,rfl⟩
 | buf l=>exact absurd rfl (hB l)
theorem Inv.write (h:Inv P S w0 M0 s0 dq env a w μ) {i:Nat} {B0 B':cR S.C} (hi:env.bx i=some B0) (hl0:live S env.bx i) (HS: ∀ l,B0≠ .buf l) {o':Nat} {vals:List Value}
 (h1:(μ i).o≤o') (h2:o'+vals.length≤(μ i).o+(μ i).n) (hc:cc S (μ i) (μ i) B0 B')
 (hb:bC w (aC S w0 M0 s0 env.bx μ w) (w.setCells (μ i).b o' vals) (aC S w0 M0 s0 (ah env.bx i (some B')) μ (w.setCells (μ i).b o' vals))→
  (∀ V v,bn P S w (aC S w0 M0 s0 env.bx μ w) μ env.bx V v→(∀ j ∈ aj S V,env.bx j≠none)→
   bn P S (w.setCells (μ i).b o' vals) (aC S w0 M0 s0 (ah env.bx i (some B')) μ (w.setCells (μ i).b o' vals)) μ (ah env.bx i (some B')) V v)→
  RB P S (w.setCells (μ i).b o' vals) (aC S w0 M0 s0 (ah env.bx i (some B')) μ (w.setCells (μ i).b o' vals)) μ (ah env.bx i (some B')) (μ i) B')
 (hr: ∀ vs,(B'= .cells vs∨B'= .bw vs)→ ∀ v ∈ vs, ∀ j ∈ aj S v,env.bx j≠none):
 Inv P S w0 M0 s0 dq { env with bx:=ah env.bx i (some B') } a (w.setCells (μ i).b o' vals) μ:=by
 have qb:=jv (J4 hi hl0 HS (h.bE i B0 hi)) h1 h2
 have hU: ∀ j, ¬ j=i→ah env.bx i (some B') j=env.bx j∧μ j=μ j:=fun j hj=>⟨aY _ _ hj,rfl⟩
 have hT: ∀ b o,(b=(μ i).b∧o'≤o∧o<o'+vals.length)→b<w.heap.size→ ∃ j,j=i∧live S env.bx j∧(μ j).aB b o:=fun b o pU _=>
  ⟨i,rfl,hl0,pU.1,by omega,by omega⟩
 have hf: ∀ j,j=i→live S (ah env.bx i (some B')) j→ ∀ b o,(μ j).aB b o→w.heap.size≤b∨ ∃ k,k=i∧live S env.bx k∧(μ k).aB b o:=by
  rintro j rfl _ b o hfo
  exact .inr ⟨j,rfl,hl0,hfo⟩
 have lX: ∀ j B0,env.bx j=some B0→ ∃ B1,ah env.bx i (some B') j=some B1∧cc S (μ j) (μ j) B0 B1:=by
  intro j B1 hj
  by_cases e:j=i
  · subst e
    rw [hi] at hj
    cases hj
    exact ⟨B',aL _ _ _,hc⟩
  · exact ⟨B1,by rw [aY _ _ e]; exact hj,cc.refl S _ _⟩
 have hw:=aW.setCells w (μ i).b o' vals qb
 have hl:=h.later (U:=fun j=>j=i) hw hT hU hf
 refine h.step (U:=fun j=>j=i) hw hT hU hf lX ?_ ?_ ?_
 · rintro j k rfl rfl hne; exact absurd rfl hne
 · rintro j B1 rfl gI
   rw [aL] at gI
   cases gI
   exact hb hl fun V v hv hr=>bn.step P S hl lX hr hv
 · rintro j vs rfl hvs v hv k hk
   rw [aL] at hvs
   have h0:=hr vs (by rcases hvs with hvs | hvs <;> · cases hvs; simp) v hv k hk
   obtain ⟨B1,gI⟩:=Option.ne_none_iff_exists'.1 h0
   obtain ⟨B2,HR,_⟩:=lX k B1 gI
   rw [HR]; simp
theorem run_store (hP:aO P S af) {t:Nat} {T:Ty} (ht:S.ty t=some T) {b o':Nat} {v:Value} (hs:v.cells.size=Ty.sz S T) (b6:w.there b o' v.cells.toList.length) (h1: ∀ c ∈ v.cells.toList,c.oneCell'=true):
 (Instr.storeAt t (.pointer (some ⟨b,o',none⟩)) v).run P w= .ok () (w.setCells b o' v.cells.toList):=by
 obtain ⟨⟨i,z,hi,hsz,_⟩,_⟩:=hP.ty t T ht
 have h2:=run_storeAt_mid (P:=P) w b o' t v.cells (by simpa using b6) (by rw [hi]; simp [hsz,hs]) (Array.all_eq_true_iff_forall_mem.2 fun c hc=>h1 c (by simpa using hc))
 exact h2
theorem E2 (h:Inv P S w0 M0 s0 dq env a w μ) (hd: ∀ d,o.dst=some d→d<a.tmps.size) {w':World} {us:aG S.C}
 (hrun:(execOp a.eval o).run P w= .ok .skip w') (hI:Inv P S w0 M0 s0 dq { env with bx:=ai env.bx us } a w' μ)
 (hK:Goal P S w0 M0 s0 dq env a o.dst .skip us K):o.wp P a w K Q:=by
 unfold Oper.wp
 rw [hrun]
 refine hK _ w' μ (hI.put hd (V:= .skip) (v:=undef) rfl (by simp [av,aj])) ?_
 cases o.dst <;> simp [Act.put]
theorem D6 {vs ws:List (Sy.V S.C)} {off:Nat} {p:Sy.V S.C→Bool} (h1:vs.all p=true) (h2:ws.all p=true):(setCells S vs off ws).all p=true:=by
 unfold Sy.setCells
 rw [List.all_eq_true] at *
 intro x hx
 simp only [List.mem_append] at hx
 rcases hx with (hx | hx) | hx
 · exact h1 x (List.mem_of_mem_take hx)
 · exact h2 x hx
 · exact h1 x (List.mem_of_mem_drop hx)
theorem D8 {vs ws:List (Sy.V S.C)} {off:Nat} {x:Sy.V S.C} (hx:x ∈ setCells S vs off ws):x ∈ vs∨x ∈ ws:=by
 unfold Sy.setCells at hx
 simp only [List.mem_append] at hx
 rcases hx with (hx | hx) | hx
 · exact .inl (List.mem_of_mem_take hx)
 · exact .inr hx
 · exact .inl (List.mem_of_mem_drop hx)
theorem D7 {vs ws:List (Sy.V S.C)} {off:Nat} (h:off+ws.length≤vs.length):(setCells S vs off ws).length=vs.length:=by
 unfold Sy.setCells; simp; omega
theorem zB {s:St} {bx:Bx S.C} {vs ws:List (Sy.V S.C)} {cs ds:List Value} {off:Nat} (h1:aF P S w s μ bx vs cs) (h2:aF P S w s μ bx ws ds):
 aF P S w s μ bx (setCells S vs off ws) (cs.take off++ds++cs.drop (off+ds.length)):=by
 unfold Sy.setCells
 rw [aF.length P S h2]
 exact aF.append P S (aF.append P S (h1.take P S off) h2) (h1.drop P S _)
theorem pg {bx aa:Bx S.C} {t:Ty} {V:Sy.V S.C} (h: ∀ i ∈ av S V,aa i=bx i):datum S aa t V=datum S bx t V∧cB S aa V=cB S bx V:=by
 have mV: ∀ (W:Sy.V S.C) (t:Ty),(∀ i ∈ aj S W,aa i=bx i)→cu S aa t W=cu S bx t W:=by
  intro W t hW
  cases W with
  | aH b=>simp only [cu]; rw [hW b (by simp [aj])]
  | _=>rfl
 have BN: ∀ (W:Sy.V S.C),(∀ i ∈ aj S W,aa i=bx i)→cg S aa W=cg S bx W:=by
  intro W hW
  cases W with
  | aH b=>simp only [cg]; rw [hW b (by simp [aj])]
  | _=>rfl
 have NA: ∀ (ts:List Ty) (vs:List (Sy.V S.C)),(∀ v ∈ vs, ∀ i ∈ aj S v,aa i=bx i)→eZ S aa ts vs=eZ S bx ts vs:=by
  intro ts
  induction ts with
  | nil=>intro vs _; rfl
  | cons t ts ih=>
   intro vs hvs
   cases vs with
   | nil=>rfl
   | cons v vs=>
    simp only [eZ]
    rw [mV v t (hvs v (by simp)),ih vs fun v hv=>hvs v (by simp [hv])]
 have imp_eq: ∀ (t:Ty) (vs:List (Sy.V S.C)),(∀ v ∈ vs, ∀ i ∈ aj S v,aa i=bx i)→fh S aa t vs=fh S bx t vs:=by
  intro t vs hvs
  cases t with
  | st u=>simp only [fh]; rw [NA _ vs hvs]
  | _=>
   cases vs with
   | nil=>rfl
   | cons v vs=>exact mV v _ (hvs v (by simp))
 cases V with
 | agg u vs=>
  have hvs: ∀ v ∈ vs, ∀ i ∈ aj S v,aa i=bx i:=fun v hv i hi=>h i (by simp only [av,List.mem_flatMap]; exact ⟨v,hv,hi⟩)
  refine ⟨?_, ?_⟩
  · cases t <;> simp only [datum]
    rw [imp_eq _ vs hvs]
  · simp only [cB]
    clear h
    induction vs with
    | nil=>rfl
    | cons v vs ih=>
     simp only [List.flatMap_cons]
     rw [BN v (hvs v (by simp)),ih fun v hv=>hvs v (by simp [hv])]
 | aH b=>exact ⟨by cases t <;> first | rfl | exact mV (.aH b) _ h,BN (.aH b) h⟩
 | _=>exact ⟨by cases t <;> rfl,rfl⟩
theorem Ef (hP:aO P S af) (h:Inv P S w0 M0 s0 dq env a w μ) (hd: ∀ d,o.dst=some d→d<a.tmps.size) {t:TypeId} {x y:Operand} {ids:List Nat} (ho:o.op= .store t x y)
 (eo: ∀ V,aK S env.tm y=some V→ ∀ i ∈ av S V,restrict S env.bx ids i=env.bx i)
 (hl:(match S.ty t,aK S env.tm x,aK S env.tm y with
  | some u,some p,some v=>rF S u (restrict S env.bx ids) v p
  | _,_,_=> .fail).leaf (V,us)) (hK:Goal P S w0 M0 s0 dq env a o.dst V us K):o.wp P a w K Q:=by
 split at hl
 · rename_i T p v ht hx hy
   obtain ⟨hp,_⟩:=bg h hx
   obtain ⟨hv,cI⟩:=bg h hy
   cases p with
   | ptr b off=>
    simp only [rF] at hl
    split at hl
    · rename_i vs hb
      have hb:=dF hb
      cases hf:fits S (cellsOf S v) (Ty.sz S T)&&Nat.ble (off+Ty.sz S T) vs.length with
      | false=>rw [hf] at hl; exact hl.elim
      | true=>
       rw [hf] at hl
       obtain ⟨rfl,rfl⟩:=bh hl
       rw [Bool.and_eq_true] at hf
       obtain ⟨f1,f2⟩:=wW hf.1
       have f3:=Nat.le_of_ble_eq_true hf.2
       obtain ⟨c1,c2⟩:=wg hP.toct f2 hv
       have GM:=aF.length P S c1
       obtain ⟨b1,b2,b3,cs,b4,b5⟩:=h.bE b _ hb
       have OY:=aF.length P S b5
       have bG:live S env.bx b:=by unfold live; rw [hb]; trivial
       have hle:off+(a.eval y).cells.toList.length≤cs.length:=by omega
       have b6:w.there (μ b).b ((μ b).o+off) (a.eval y).cells.toList.length:=jv b3 (by omega) (by omega)
       have hp:a.eval x= .pointer (some ⟨(μ b).b,(μ b).o+off,none⟩):=hp
       have hrun:(execOp a.eval o).run P w= .ok .skip (w.setCells (μ b).b ((μ b).o+off) (a.eval y).cells.toList):=by
        unfold execOp
        simp only [ho,hp]
        have :=run_store hP ht (b:=(μ b).b) (o':=(μ b).o+off) (v:=a.eval y) (w:=w) (by rw [← f1, ← GM]; simp) b6 (rE f2 c1)
        simp [this]
       refine E2 h hd hrun ?_ hK
       show Inv P S w0 M0 s0 dq { env with bx:=ah env.bx b (some (.cells (setCells S vs off (cellsOf S v)))) } a _ μ
       refine h.write hb bG (fun _ e=>nomatch e) (by omega) (by omega) rfl (fun hl jL=>⟨D6 b1 f2,by rw [D7 (by omega)]; exact b2,oz b3 b6,_,Dw b4 off hle, ?_⟩) fun ws fF u hu j hj=> ?_
       · refine zB (aF.map jL (fun v hv=>h.gR b vs (.inl hb) v hv) b5) (aF.map jL (fun u hu j hj=>cI j (c2 u hu j hj)) c1)
       · rcases fF with fF | fF
         · cases fF
           rcases D8 hu with hu | hu
           · exact h.gR b vs (.inl hb) u hu j hj
           · exact cI j (c2 u hu j hj)
         · cases fF
    · exact hl.elim
   | dL b i off=>
    simp only [rF] at hl
    split at hl
    · rename_i e l hb
      have hb:=dF hb
      split at hl
      · rename_i z hz
        obtain ⟨d1,d2⟩:=pg (t:=T) (eo v hy)
        rw [d1] at hz
        rw [d2] at hl
        cases hf:Nat.ble (off+Ty.sz S T) (Ty.sz S e)&&(cB S env.bx v).all (fun u=> !Nat.beq u.1 b) with
        | false=>rw [hf] at hl; exact hl.elim
        | true=>
         rw [hf,cond_true] at hl
         rw [Bool.and_eq_true] at hf
         split at hl
         · rename_i e' he'
           obtain ⟨rfl,rfl⟩:=bh hl
           have f3:=Nat.le_of_ble_eq_true hf.1
           obtain ⟨k1,r1⟩:=sH hP.toct h (Tk.refl S env.bx) hv hz
           have h1:=h.tk k1
           have eu:ai env.bx (cB S env.bx v) b=some (.arr e l):=by
            rw [oC _ _ fun u hu=> ?_]
            · exact hb
            · have :=List.all_eq_true.1 hf.2 u hu
              intro e
              rw [e,Nat.beq_refl] at this
              cases this
           obtain ⟨_,qa⟩:=h1.gi 0 |> fun _=>(show RV P S w (aC S w0 M0 s0 env.bx μ w) μ env.bx (.dL b i off) (a.eval x) from hp)
           obtain ⟨i0,i1,CA⟩:=qa e l (.inl hb)
           obtain ⟨g1,g2,g3,g4,g5⟩:=h1.bE b _ eu
           have xK:l[i.toNat]? =some (eN S e l i):=nu i0 (by omega)
           obtain ⟨ds,GY,GZ,n,G0⟩:=g5 _ _ xK
           have r2:bS S w (aC S w0 M0 s0 (ai env.bx (cB S env.bx v)) μ w) T z (a.eval y):=by
            refine r1.mono S fun b' o' ⟨q1,q2,q3⟩=>⟨⟨q1,q2,fun j hj=> ?_⟩,rfl⟩
            rcases q3 j ((dr S (k1.cS hj)).1 hj) with ⟨_,_,hq⟩ | hq
            · unfold live at hj; rw [hq] at hj; exact hj.elim
            · exact hq
           obtain ⟨m,r3⟩:=r2.2
           have hvl:=r3.length S
           have hrow:(i.toNat+1)*Ty.sz S e≤(μ b).cap*Ty.sz S e:=Nat.mul_le_mul_right _ (by omega)
           rw [Nat.add_mul,Nat.one_mul] at hrow
           have bG:live S (ai env.bx (cB S env.bx v)) b:=by unfold live; rw [eu]; trivial
           have b6:w.there (μ b).b ((μ b).o+(i.toNat*Ty.sz S e+off)) (a.eval y).cells.toList.length:=jv g4 (by omega) (by omega)
           obtain ⟨x1,x2,x3⟩:=iX (P:=P) hP.toct μ (ai env.bx (cB S env.bx v)) r3
           obtain ⟨y1,y2,y3⟩:=iX (P:=P) hP.toct μ (ai env.bx (cB S env.bx v)) G0
           have Pf:=aF.length P S x1
           have Pg:=aF.length P S y1
           have hrun:(execOp a.eval o).run P w= .ok .skip (w.setCells (μ b).b ((μ b).o+(i.toNat*Ty.sz S e+off)) (a.eval y).cells.toList):=by
            unfold execOp
            rw [show (μ b).o+i.toNat*Ty.sz S e+off=(μ b).o+(i.toNat*Ty.sz S e+off) from by omega] at CA
            simp only [ho,CA]
            have :=run_store hP ht (b:=(μ b).b) (o':=(μ b).o+(i.toNat*Ty.sz S e+off)) (v:=a.eval y) (w:=w) (by rw [← hvl]; simp) b6 (rE x2 x1)
            simp [this]
           refine E2 h hd hrun ?_ hK
           rw [fN]
           show Inv P S w0 M0 s0 dq { env with bx:=ah (ai env.bx (cB S env.bx v)) b (some (.arr e (l.set i.toNat e'))) } a _ μ
           refine h1.write (B':= .arr e (l.set i.toNat e')) eu bG (fun _ e=>nomatch e) (by omega) (by omega) ⟨rfl,rfl,by simp⟩ (fun hl jL=>⟨g1,g2,by simpa using g3,oz g4 b6,fun k q hk=> ?_⟩) fun ws fF=>by rcases fF with fF | fF <;> cases fF
           by_cases ek:i.toNat=k
           · subst ek
             rw [List.getElem?_set_self (by omega)] at hk
             cases hk
             rw [show (μ b).o+(i.toNat*Ty.sz S e+off)=(μ b).o+i.toNat*Ty.sz S e+off from by omega] at hl ⊢
             refine ⟨_, ?_,Dw (cs:=ds) (vals:=(a.eval y).cells.toList) GZ off (by omega), ?_⟩
             · rw [List.length_append,List.length_append,List.length_take,List.length_drop]; omega
             · obtain ⟨q,hq⟩:=CJ (P:=P) hP.toct (zB (off:=off) y1 x1) he'
               refine ⟨q, ?_⟩
               have :=hq.mono S hl (Nat.le_refl _)
               rw [List.take_of_length_le (by rw [List.length_append,List.length_append,List.length_take,List.length_drop]; omega)] at this
               exact this
           · rw [List.getElem?_set_ne ek] at hk
             obtain ⟨ds',p1,p2,p3,p4⟩:=g5 k q hk
             refine ⟨ds',p1,nV p2 (.inr ?_),p3,p4.mono S hl (Nat.le_refl _)⟩
             rcases Nat.lt_or_gt_of_ne ek with hlt | hlt
             · right
               have :(i.toNat+1)*Ty.sz S e≤k*Ty.sz S e:=Nat.mul_le_mul_right _ (by omega)
               rw [Nat.add_mul,Nat.one_mul] at this
               omega
             · left
               have :(k+1)*Ty.sz S e≤i.toNat*Ty.sz S e:=Nat.mul_le_mul_right _ (by omega)
               rw [Nat.add_mul,Nat.one_mul] at this
               omega
         · exact hl.elim
      · exact hl.elim
    · exact hl.elim
   | _=>exact hl.elim
 · exact hl.elim
end
end Go.Sy
namespace Go.Sy
section
variable {P:Program} {S:aN} {af:Nat→Nat}
variable {w0:World} {M0 s0:St} {dq:List Deferred} {env:Env S.C} {a:Act} {w:World} {μ:Nat→Loc} {K:Act→World→Prop} {Q:Exit→Act→World→Prop} {o:Oper} {V:V S.C} {us:aG S.C}
theorem je {α β:Type} {f:α→Option β} {x:α} {r:List α} {ys:List β} (h:(x::r).mapM f=some ys): ∃ y zs,f x=some y∧r.mapM f=some zs∧ys=y::zs:=by
 rw [List.mapM_cons] at h
 cases hx:f x with
 | none=>rw [hx] at h; cases h
 | some y=>
  rw [hx] at h
  cases hr:r.mapM f with
  | none=>rw [hr] at h; cases h
  | some zs=>rw [hr] at h; cases h; exact ⟨y,zs,rfl,rfl,rfl⟩
def rZ (P:Program) (S:aN) (w:World) (s:St) (μ:Nat→Loc) (bx:Bx S.C):List (Nat×Sy.V S.C)→List (Nat×Value)→Prop
 | [],qs=>qs= []
 | p::ps,qs=> ∃ v r,qs=(p.1,v)::r∧RV P S w s μ bx p.2 v∧rZ P S w s μ bx ps r
theorem yN (h:Inv P S w0 M0 s0 dq env a w μ): ∀ {parts:List (Nat×Operand)} {ps:List (Nat×Sy.V S.C)},parts.mapM (fun (p:Nat×Operand)=>(aK S env.tm p.2).map fun v=>(p.1,v))=some ps→
 rZ P S w (aC S w0 M0 s0 env.bx μ w) μ env.bx ps (parts.map fun (i,x)=>(i,a.eval x))∧ ∀ p ∈ ps, ∃ x i,(i,x) ∈ parts∧aK S env.tm x=some p.2
 | [],ps,hp=>by cases hp; exact ⟨rfl,by simp⟩
 | (i,x)::r,ps,hp=>by
  obtain ⟨y,zs,h1,h2,rfl⟩:=je hp
  obtain ⟨h3,h4⟩:=yN h h2
  cases hx:aK S env.tm x with
  | none=>rw [hx] at h1; cases h1
  | some v=>
   rw [hx] at h1
   cases h1
   refine ⟨⟨a.eval x,_,rfl,(bg h hx).1,h3⟩,fun p hp=> ?_⟩
   rcases List.mem_cons.1 hp with rfl | hp
   · exact ⟨x,i,by simp,hx⟩
   · obtain ⟨x',i',h5,h6⟩:=h4 p hp
     exact ⟨x',i',by simp [h5],h6⟩
theorem sw (h:Inv P S w0 M0 s0 dq env a w μ): ∀ {xs:List Operand} {vs:List (Sy.V S.C)},xs.mapM (aK S env.tm)=some vs→
 dQ P S w (aC S w0 M0 s0 env.bx μ w) μ env.bx vs (xs.map a.eval)∧ ∀ v ∈ vs, ∃ x ∈ xs,aK S env.tm x=some v
 | [],vs,hp=>by cases hp; exact ⟨rfl,by simp⟩
 | x::r,ps,hp=>by
  obtain ⟨y,zs,h1,h2,rfl⟩:=je hp
  obtain ⟨h3,h4⟩:=sw h h2
  refine ⟨⟨a.eval x,_,rfl,(bg h h1).1,h3⟩,fun p hp=> ?_⟩
  rcases List.mem_cons.1 hp with rfl | hp
  · exact ⟨x,by simp,h1⟩
  · obtain ⟨x',h5,h6⟩:=h4 p hp
    exact ⟨x',by simp [h5],h6⟩
theorem BM (off:Nat): ∀ (l:List Value) (k:Nat) (cells:Array Value),off+k+l.length≤cells.size→
 ((l.zipIdx k).foldl (fun cs p=>cs.setIfInBounds (off+p.2) p.1) cells).toList=cells.toList.take (off+k)++l++cells.toList.drop (off+k+l.length)
 | [],k,cells,h=>by simp
 | v::l,k,cells,h=>by
  simp only [List.zipIdx_cons,List.foldl_cons]
  simp only [List.length_cons] at h
  rw [BM off l (k+1) _ (by simp; omega)]
  have hc:(cells.setIfInBounds (off+k) v).toList=cells.toList.set (off+k) v:=by simp
  have hlen:cells.toList.length=cells.size:=by simp
  rw [hc,show off+(k+1)=off+k+1 from rfl,List.drop_set_of_lt (by omega)]
  have ht:(cells.toList.set (off+k) v).take (off+k+1)=cells.toList.take (off+k)++ [v]:=by
   rw [List.take_add_one,List.take_set_of_le (Nat.le_refl _),List.getElem?_set_self (by omega)]
   rfl
  rw [ht,List.length_cons]
  simp [show off+k+1+l.length=off+k+(l.length+1) from by omega]
theorem BI (place:Nat→Option (Nat×Nat)) {i off size:Nat} (hp:place i=some (off,size)) {v:Value} (hv:v.cells.size=size) {cells:Array Value} (hle:off+size≤cells.size) (rest:List (Nat×Value)):
 ∃ cells',cells'.toList=cells.toList.take off++v.cells.toList++cells.toList.drop (off+v.cells.toList.length)∧Instr.fill place cells ((i,v)::rest)=Instr.fill place cells' rest:=by
 refine ⟨v.cells.zipIdx.foldl (fun cs (c,j)=>cs.setIfInBounds (off+j) c) cells, ?_, ?_⟩
 · have :=BM off v.cells.toList 0 cells (by simp; omega)
   simp only [Nat.add_zero] at this
   rw [← this]
   congr 1
   rw [← Array.foldl_toList]
   simp
 · simp only [Instr.fill,hp]
   rw [if_neg]
   simp only [hv]
   simp
   omega
theorem BE (hS:ct S) {s:St} {bx:Bx S.C} {u:Nat} {place:Nat→Option (Nat×Nat)} (hp: ∀ f o T,S.dB u f=some (o,T)→place f=some (o,Ty.sz S T)):
 ∀ {ps:List (Nat×Sy.V S.C)} {qs:List (Nat×Value)} {vs vs':List (Sy.V S.C)} {cells:Array Value},rZ P S w s μ bx ps qs→aF P S w s μ bx vs cells.toList→vs.all (br S)=true→pK S u vs ps=some vs'→
 ∃ cells',Instr.fill place cells qs=some cells'∧aF P S w s μ bx vs' cells'.toList∧vs'.all (br S)=true∧vs'.length=vs.length∧ ∀ v ∈ vs',v ∈ vs∨ ∃ p ∈ ps, ∀ j ∈ aj S v,j ∈ av S p.2
 | [],qs,vs,vs',cells,h1,h2,h3,h4=>by
  cases h1; cases h4
  exact ⟨cells,rfl,h2,h3,rfl,fun v hv=> .inl hv⟩
 | (i,W)::ps,qs,vs,vs',cells,⟨v,r,hq,hv,hr⟩,h2,h3,h4=>by
  subst hq
  simp only [pK] at h4
  split at h4
  · rename_i off T hf
    cases hc:fits S (cellsOf S W) (Ty.sz S T)&&Nat.ble (off+Ty.sz S T) vs.length with
    | false=>rw [hc] at h4; cases h4
    | true=>
     rw [hc,cond_true] at h4
     rw [Bool.and_eq_true] at hc
     obtain ⟨f1,f2⟩:=wW hc.1
     have f3:=Nat.le_of_ble_eq_true hc.2
     obtain ⟨c1,c2⟩:=wg hS f2 hv
     have l1:=aF.length P S c1
     have l2:=aF.length P S h2
     obtain ⟨cells',e1,e2⟩:=BI place (hp _ _ _ hf) (v:=v) (cells:=cells) (by rw [← f1, ← l1]; simp) (by rw [← l2] at f3; simpa using f3) r
     obtain ⟨we,g1,g2,g3,g4,g5⟩:=BE hS hp (cells:=cells') hr (by rw [e1]; exact zB h2 c1) (D6 h3 f2) h4
     refine ⟨we,by rw [e2]; exact g1,g2,g3,by rw [g4,D7 (by omega)],fun v hv=> ?_⟩
     rcases g5 v hv with hv | ⟨p,hp,hv⟩
     · rcases D8 hv with hv | hv
       · exact .inl hv
       · exact .inr ⟨(i,W),by simp,c2 v hv⟩
     · exact .inr ⟨p,by simp [hp],hv⟩
  · cases h4
theorem F9 (hP:aO P S af) (h:Inv P S w0 M0 s0 dq env a w μ) (hd: ∀ d,o.dst=some d→d<a.tmps.size) {t:TypeId} {parts:Array (Nat×Operand)} (ho:o.op= .build t parts)
 (hl:(match S.ty t with
  | some (.st u)=>match parts.toList.mapM (fun (p:Nat×Operand)=>(aK S env.tm p.2).map fun v=>(p.1,v)) with
   | some ps=>match pK S u (zeroCells S (.st u)) ps with
    | some vs=>ax S (.agg u vs) []
    | none=> .fail
   | none=> .fail
  | _=> .fail).leaf (V,us)) (hK:Goal P S w0 M0 s0 dq env a o.dst V us K):o.wp P a w K Q:=by
 split at hl
 · rename_i u ht
   split at hl
   · rename_i ps hps
     split at hl
     · rename_i vs hvs
       obtain ⟨rfl,rfl⟩:=bh hl
       obtain ⟨p1,p2⟩:=yN h hps
       obtain ⟨⟨i,z,h1,h2,h3,h4,h5⟩,⟨Pb,H_⟩,tj⟩:=hP.ty t _ ht
       obtain ⟨b0,hb0⟩:=Option.isSome_iff_exists.1 H_
       obtain ⟨z1,z2,z3⟩:=E_ (P:=P) (w:=w) (μ:=μ) hP.toct (s:=aC S w0 M0 s0 env.bx μ w) (bx:=env.bx) (.st u)
       have Ia: ∃ place:Nat→Option (Nat×Nat),(∀ qs,P.built t qs=Instr.fill place z.cells qs)∧ ∀ f o T,S.dB u f=some (o,T)→place f=some (o,Ty.sz S T):=by
        cases har:S.ar t with
        | some p=>
         rw [har] at tj
         obtain ⟨te,hu,hte,_,hfl⟩:=tj
         obtain ⟨⟨ie,ze,e1,e2,_⟩,_⟩:=hP.ty te _ hte
         refine ⟨fun i=>some (i*ie.size,ie.size),fun qs=> ?_,fun f o' T hf=> ?_⟩
         · unfold Program.built
           simp only [h1,hu,h3,e1]
         · obtain ⟨rfl,rfl,_⟩:=hfl f o' T hf
           simp [e2]
        | none=>
        rw [har] at tj
        obtain ⟨fs,hu,jO⟩:=tj
        unfold Program.built at hb0
        simp only [h1,hu,h3] at hb0
        cases hpl:fs.toList.mapM (fun f=>(P.info? f.type).map fun i=>(f.offset,i.size)) with
        | none=>rw [hpl] at hb0; cases hb0
        | some places=>
         refine ⟨(places.toArray[·]?),fun qs=> ?_,fun f o' T hf=> ?_⟩
         · unfold Program.built
           simp only [h1,hu,h3,hpl]
         · obtain ⟨fd,d1,d2,d3,d4,d5⟩:=jO f o' T hf
           obtain ⟨⟨i',z',e1,e2,_⟩,_⟩:=hP.ty _ _ d3
           have fD: ∀ (l:List Field) (ys:List (Nat×Nat)) (k:Nat) (fd:Field),l.mapM (fun f=>(P.info? f.type).map fun i=>(f.offset,i.size))=some ys→l[k]? =some fd→ ∃ y,ys[k]? =some y∧(P.info? fd.type).map (fun i=>(fd.offset,i.size))=some y:=by
            intro l
            induction l with
            | nil=>intro ys k fd _ hk; simp at hk
            | cons x l ih=>
             intro ys k fd hys hk
             obtain ⟨y,zs,q1,q2,rfl⟩:=je hys
             cases k with
             | zero=>simp at hk; subst hk; exact ⟨y,by simp,q1⟩
             | succ k=>
              obtain ⟨y',q3,q4⟩:=ih zs k fd q2 (by simpa using hk)
              exact ⟨y',by simpa using q3,q4⟩
           obtain ⟨y,q1,q2⟩:=fD fs.toList places f fd hpl (by simpa using d1)
           rw [e1] at q2
           simp at q2
           simp [q1, ← q2,d2,e2]
       obtain ⟨place,g1,g2⟩:=Ia
       obtain ⟨cells',k1,k2,k3,k4,k5⟩:=BE hP.toct g2 (cells:=z.cells) p1 (by rw [h5]; exact z1) z2 hvs
       refine wp_pure (V:= .agg u vs) h (v:= .agg cells') ?_ hd ⟨cells',rfl, ?_,k3,k2⟩ (fun j hj=> ?_) hK
       · unfold execOp
         simp only [ho]
         have :=run_build (P:=P) w t (parts.map fun (i,x)=>(i,a.eval x)) cells' (by rw [g1,Array.toList_map]; exact k1)
         simp [this]
       · rw [k4]; simp [zeroCells]
       · simp only [av,List.mem_flatMap] at hj
         obtain ⟨v,hv,hj⟩:=hj
         rcases k5 v hv with hv | ⟨p,hp,hv⟩
         · rw [z3 v hv] at hj; simp at hj
         · obtain ⟨x,i',_,hx⟩:=p2 p hp
           exact (bg h hx).2 j (hv j hj)
     · exact hl.elim
   · exact hl.elim
 · exact hl.elim
end
end Go.Sy
namespace Go.Sy
section
variable {P:Program} {S:aN} {af:Nat→Nat}
variable {w0:World} {M0 s0:St} {dq:List Deferred} {env:Env S.C} {a:Act} {w:World} {μ:Nat→Loc} {K:Act→World→Prop} {Q:Exit→Act→World→Prop} {o:Oper} {V:V S.C} {us:aG S.C}
def cq (bx:Bx S.C) (us:aG S.C):Prop:= ∀ u ∈ us, ∃ e l,u.2= .bp e l∧bx u.1=some (.arr e l)
theorem cq.append {bx:Bx S.C} {us vs:aG S.C} (h1:cq bx us) (h2:cq bx vs):cq bx (us++vs):=fun u hu=>(List.mem_append.1 hu).elim (h1 u) (h2 u)
theorem cq.at {bx:Bx S.C} : ∀ {us:aG S.C} (aa:Bx S.C),cq bx us→ ∀ i,(ai aa us i=aa i∧ ∀ u ∈ us,u.1≠i)∨((∃ u ∈ us,u.1=i)∧ ∃ e l,bx i=some (.arr e l)∧ai aa us i=some (.bp e l))
 | [],aa,_,i=> .inl ⟨rfl,by simp⟩
 | u::us,aa,h,i=>by
  rcases cq.at (us:=us) (ah aa u.1 (some u.2)) (fun v hv=>h v (by simp [hv])) i with ⟨h1,h2⟩ | ⟨⟨v,hv,h1⟩,h2⟩
  · by_cases e:u.1=i
    · right
      refine ⟨⟨u,by simp,e⟩, ?_⟩
      obtain ⟨e',l,h3,h4⟩:=h u (by simp)
      refine ⟨e',l,e▸h4, ?_⟩
      show ai (ah aa u.1 (some u.2)) us i=_
      rw [h1, ← e,aL,h3]
    · left
      refine ⟨?_,fun v hv=> ?_⟩
      · show ai (ah aa u.1 (some u.2)) us i=_
        rw [h1,aY _ _ (Ne.symm e)]
      · rcases List.mem_cons.1 hv with rfl | hv
        · exact e
        · exact h2 v hv
  · exact .inr ⟨⟨v,by simp [hv],h1⟩,h2⟩
theorem cq.tk {bx:Bx S.C} {us US:aG S.C} (h:cq bx US) (hs: ∀ u ∈ us,u ∈ US):Tk S (ai bx us) (ai bx US):=by
 intro i
 have h0:cq bx us:=fun u hu=>h u (hs u hu)
 rcases cq.at bx h i with ⟨h1,h2⟩ | ⟨_,e,l,h1,h2⟩
 · rcases cq.at bx h0 i with ⟨h3,_⟩ | ⟨⟨u,hu,h3⟩,_⟩
   · exact .inl (h1.trans h3.symm)
   · exact absurd h3 (h2 u (hs u hu))
 · rcases cq.at bx h0 i with ⟨h3,_⟩ | ⟨_,e',l',h3,h4⟩
   · exact .inr (.inr ⟨e,l,h3.trans h1,h2⟩)
   · rw [h1] at h3; cases h3
     exact .inl (h2.trans h4.symm)
theorem cq.kf {bx:Bx S.C} {US:aG S.C} (h:cq bx US):Tk S bx (ai bx US):=cq.tk (us:= []) h (by simp)
theorem cq.cg (bx:Bx S.C) (V:Sy.V S.C):cq bx (cg S bx V):=by
 cases V with
 | aH b=>
  unfold Sy.cg
  dsimp only
  split
  · rename_i e l hb
    intro u hu
    simp at hu
    subst hu
    exact ⟨e,l,rfl,hb⟩
  · intro u hu; simp at hu
 | _=>intro u hu; simp [Sy.cg] at hu
theorem cq.cB (bx:Bx S.C) (V:Sy.V S.C):cq bx (cB S bx V):=by
 cases V with
 | agg u vs=>
  intro x hx
  simp only [Sy.cB,List.mem_flatMap] at hx
  obtain ⟨v,_,hx⟩:=hx
  exact cq.cg bx v x hx
 | aH b=>exact cq.cg bx (.aH b)
 | _=>intro u hu; simp [Sy.cB,Sy.cg] at hu
theorem vj {aa:Bx S.C} (hk:Tk S env.bx aa):bC w (bV S w0 M0 s0 env.bx aa μ w) w (aC S w0 M0 s0 aa μ w):=fun b o ⟨q1,q2,q3⟩=>
 ⟨⟨q1,q2,fun j hj=>by
  rcases q3 j ((dr S (hk.cS hj)).1 hj) with ⟨_,_,hq⟩ | hq
  · unfold live at hj; rw [hq] at hj; exact hj.elim
  · exact hq⟩,rfl⟩
def cw (w:World) (s:St) (e:Ty) (l:List (e.den S.C)) (cs:List Value):Prop:=
 cs.length=l.length*Ty.sz S e∧ ∀ i x,l[i]? =some x→ ∃ n,ay S w s n e x ((cs.drop (i*Ty.sz S e)).take (Ty.sz S e))
theorem cw.nil {s:St} {e:Ty} :cw w s e ([]:List (e.den S.C)) []:=⟨by simp,fun i x h=>by simp at h⟩
theorem cw.later {w':World} {s s':St} (hl:bC w s w' s') {e:Ty} {l:List (e.den S.C)} {cs:List Value} (h:cw w s e l cs):cw w' s' e l cs:=
 ⟨h.1,fun i x hi=>(h.2 i x hi).imp fun _ hr=>hr.mono S hl (Nat.le_refl _)⟩
theorem cw.append {s:St} {e:Ty} {l l':List (e.den S.C)} {cs cs':List Value} (h:cw w s e l cs) (h':cw w s e l' cs'):cw w s e (l++l') (cs++cs'):=by
 refine ⟨by simp [h.1,h'.1,Nat.add_mul],fun i x hi=> ?_⟩
 by_cases hlt:i<l.length
 · rw [List.getElem?_append_left hlt] at hi
   obtain ⟨n,hn⟩:=h.2 i x hi
   refine ⟨n, ?_⟩
   have :(i+1)*Ty.sz S e≤l.length*Ty.sz S e:=Nat.mul_le_mul_right _ (by omega)
   rw [Nat.add_mul,Nat.one_mul, ← h.1] at this
   rw [List.drop_append_of_le_length (by omega),List.take_append_of_le_length (by simp; omega)]
   exact hn
 · rw [List.getElem?_append_right (by omega)] at hi
   obtain ⟨n,hn⟩:=h'.2 _ x hi
   refine ⟨n, ?_⟩
   have h1:i*Ty.sz S e=cs.length+(i - l.length)*Ty.sz S e:=by
    rw [h.1, ← Nat.add_mul]; congr 1; omega
   rw [h1,List.drop_append]
   simp only [List.drop_of_length_le (Nat.le_add_right cs.length _),List.nil_append,Nat.add_sub_cancel_left]
   exact hn
theorem cw.set {s:St} {e:Ty} {l:List (e.den S.C)} {cs:List Value} (h:cw w s e l cs) {i:Nat} (hi:i<l.length) {x:e.den S.C} {n:Nat} {ds:List Value} (hx:ay S w s n e x ds):
 cw w s e (l.set i x) (cs.take (i*Ty.sz S e)++ds++cs.drop (i*Ty.sz S e+ds.length)):=by
 have hd:=hx.length S
 have hle:(i+1)*Ty.sz S e≤l.length*Ty.sz S e:=Nat.mul_le_mul_right _ (by omega)
 rw [Nat.add_mul,Nat.one_mul, ← h.1] at hle
 refine ⟨?_,fun k y hk=> ?_⟩
 · rw [List.length_append,List.length_append,List.length_take,List.length_drop,List.length_set, ← h.1]; omega
 · by_cases ek:i=k
   · subst ek
     rw [List.getElem?_set_self hi] at hk
     cases hk
     refine ⟨n, ?_⟩
     rw [List.append_assoc,List.drop_append_of_le_length (by simp; omega),List.drop_of_length_le (by simp; omega),List.nil_append, ← hd,List.take_left]
     exact hx
   · rw [List.getElem?_set_ne ek] at hk
     have hkl:=(List.getElem?_eq_some_iff.1 hk).1
     obtain ⟨m,hm⟩:=h.2 k y hk
     refine ⟨m, ?_⟩
     rcases Nat.lt_or_gt_of_ne ek with hlt | hlt
     · have hki:(i+1)*Ty.sz S e≤k*Ty.sz S e:=Nat.mul_le_mul_right _ (by omega)
       rw [Nat.add_mul,Nat.one_mul] at hki
       have hpre:(cs.take (i*Ty.sz S e)++ds).length=i*Ty.sz S e+ds.length:=by rw [List.length_append,List.length_take]; omega
       rw [show k*Ty.sz S e=(cs.take (i*Ty.sz S e)++ds).length+(k*Ty.sz S e - (i*Ty.sz S e+ds.length)) from by rw [hpre]; omega,List.drop_append]
       simp only [List.drop_of_length_le (Nat.le_add_right _ _),List.nil_append,Nat.add_sub_cancel_left,List.drop_drop]
       rw [show i*Ty.sz S e+ds.length+(k*Ty.sz S e - (i*Ty.sz S e+ds.length))=k*Ty.sz S e from by omega]
       exact hm
     · have hki:(k+1)*Ty.sz S e≤i*Ty.sz S e:=Nat.mul_le_mul_right _ (by omega)
       rw [Nat.add_mul,Nat.one_mul] at hki
       rw [List.append_assoc,List.drop_append_of_le_length (by simp; omega),List.take_append_of_le_length (by simp; omega),List.drop_take,List.take_take]
       rw [show min (Ty.sz S e) (i*Ty.sz S e - k*Ty.sz S e)=Ty.sz S e from by omega]
       exact hm
theorem cw.replicate {s:St} {e:Ty} {x:e.den S.C} {n:Nat} {z:Array Value} (hx:ay S w s n e x z.toList) (k:Nat):cw w s e (List.replicate k x) (madeCells z (k*Ty.sz S e)).toList:=by
 have hz:=hx.length S
 have hzs:z.size=Ty.sz S e:=by rw [← hz]; simp
 refine ⟨by simp [size_madeCells],fun i y hi=>⟨n, ?_⟩⟩
 have nG:=(List.getElem?_eq_some_iff.1 hi).1
 rw [List.length_replicate] at nG
 rw [List.getElem?_replicate,if_pos nG] at hi
 cases hi
 have :((madeCells z (k*Ty.sz S e)).toList.drop (i*Ty.sz S e)).take (Ty.sz S e)=z.toList:=by
  apply List.ext_getElem?
  intro j
  rw [List.getElem?_take]
  have hrow:(i+1)*Ty.sz S e≤k*Ty.sz S e:=Nat.mul_le_mul_right _ (by omega)
  rw [Nat.add_mul,Nat.one_mul] at hrow
  by_cases hj:j<Ty.sz S e
  · rw [if_pos hj,List.getElem?_drop]
    have hmod:(i*Ty.sz S e+j) % z.size=j:=by
     rw [hzs,Nat.mul_comm,Nat.mul_add_mod,Nat.mod_eq_of_lt hj]
    simp [madeCells]
    rw [List.getElem?_range (by omega)]
    rw [Option.map_some,hmod]
    simp [hzs,hj]
  · rw [if_neg hj,List.getElem?_eq_none (by omega)]
 rw [this]
 exact hx
theorem DQ {s:St} {e:Ty} {b:Nat} : ∀ {l:List (e.den S.C)} {o':Nat},(∀ i x,l[i]? =some x→ ∃ ds,ds.length=Ty.sz S e∧w.rangeAt b (o'+i*Ty.sz S e) ds∧ ∃ n,ay S w s n e x ds)→
 ∃ cs,w.rangeAt b o' cs∧cw w s e l cs
 | [],_,_=>⟨[],fun j v h=>by simp at h,cw.nil⟩
 | x::l,o',h=>by
  obtain ⟨ds,d1,d2,n,d3⟩:=h 0 x rfl
  obtain ⟨cs,c1,c2⟩:=DQ (s:=s) (l:=l) (o':=o'+Ty.sz S e) fun i y hi=>by
   obtain ⟨ds,d1,d2,d3⟩:=h (i+1) y (by simpa using hi)
   refine ⟨ds,d1, ?_,d3⟩
   rw [Nat.add_mul,Nat.one_mul] at d2
   rw [show o'+Ty.sz S e+i*Ty.sz S e=o'+(i*Ty.sz S e+Ty.sz S e) from by omega]
   exact d2
  simp only [Nat.zero_mul,Nat.add_zero] at d2
  refine ⟨ds++cs,fun j v hj=> ?_,cw.append (l:= [x]) (l':=l) ⟨by simp [d1],fun i y hi=> ?_⟩ c2⟩
  · by_cases hlt:j<ds.length
    · rw [List.getElem?_append_left hlt] at hj; exact d2 j v hj
    · rw [List.getElem?_append_right (by omega)] at hj
      have :=c1 _ v hj
      rw [show o'+Ty.sz S e+(j - ds.length)=o'+j from by omega] at this
      exact this
  · cases i with
    | zero=>simp at hi; subst hi; exact ⟨n,by simpa [← d1] using d3⟩
    | succ i=>simp at hi
theorem cw.row {s:St} {e:Ty} {l:List (e.den S.C)} {cs:List Value} (h:cw w s e l cs) {w':World} {b o':Nat} (hr:w'.rangeAt b o' cs):
 ∀ i x,l[i]? =some x→ ∃ ds,ds.length=Ty.sz S e∧w'.rangeAt b (o'+i*Ty.sz S e) ds∧ ∃ n,ay S w s n e x ds:=fun i x hi=>by
 obtain ⟨n,hn⟩:=h.2 i x hi
 exact ⟨_,hn.length S,y4 hr _ _,n,hn⟩
theorem Ab (hP:aO P S af) {t:Nat} {T:Ty} (ht:S.ty t=some T) (s:St): ∃ n,ay S w s n T (Ty.zero S T) (mQ S T):=by
 have z1: ∀ (T:Ty),a_ T=false→ay S w s 1 T (Ty.zero S T) [oI T]:=by
  intro T hT
  cases T with
  | int k=>rfl
  | bool=>rfl
  | str=>rfl
  | pt=>rfl
  | sl e=>exact ⟨none,0,rfl,Nat.le_refl _, .inl rfl⟩
  | st u=>simp [a_] at hT
 cases T with
 | st u=>
  obtain ⟨_,⟨hz,_⟩,_⟩:=hP.ty t _ ht
  refine ⟨2, ?_⟩
  show bk S _ (S.F u) (S.ex u (S.z u)) ((S.F u).map oI)
  rw [hz]
  have : ∀ (ts:List Ty),ts.all (fun t=> !a_ t)=true→bk S (fun t x cs=>ay S w s 1 t x cs) ts (lF S ts) (ts.map oI):=by
   intro ts
   induction ts with
   | nil=>intro _; rfl
   | cons t ts ih=>
    intro h
    simp only [List.all_cons,Bool.and_eq_true,Bool.not_eq_true'] at h
    refine ⟨_,_,rfl, ?_, ?_⟩
    · rw [show ag.head (lF S (t::ts))=Ty.zero S t from by cases ts <;> rfl]
      exact z1 t h.1
    · rw [show ag.tail (lF S (t::ts))=lF S ts from by cases ts <;> rfl]
      exact ih h.2
  exact this _ (hP.flat u)
 | int k=>exact ⟨1,z1 _ rfl⟩
 | bool=>exact ⟨1,z1 _ rfl⟩
 | str=>exact ⟨1,z1 _ rfl⟩
 | pt=>exact ⟨1,z1 _ rfl⟩
 | sl e=>exact ⟨1,z1 _ rfl⟩
theorem z6 (h:Inv P S w0 M0 s0 dq env a w μ) (hd: ∀ d,o.dst=some d→d<a.tmps.size) {us:aG S.C} {B:Nat} {e:Ty} {l:List (e.den S.C)} {t:TypeId} {cap:Nat} {cells:Array Value} {cs:List Value}
 (hk:Tk S env.bx (ai env.bx us)) (hB:ai env.bx us B=none) {w1:World} (hw1:w1.heap=w.heap) (xU:w1.os=w.os∧w1.tape=w.tape∧w1.output=w.output)
 (hrun:(execOp a.eval o).run P w= .ok (.value (.slice (some ⟨w.heap.size,0,none⟩) l.length cap)) (w1.alloc (.cells cells t)))
 (hle:l.length≤cap) (hcap:cells.size=cap*Ty.sz S e) (hcs:cw w (aC S w0 M0 s0 (ai env.bx us) μ w) e l cs) (hpre:cs <+: cells.toList)
 (hK:Goal P S w0 M0 s0 dq env a o.dst (.aH B) (us++ [(B, .arr e l)]) K):o.wp P a w K Q:=by
 have h1:=h.tk hk
 have Ig:aW w (w1.alloc (.cells cells t)) (fun _ _=>False):=by
  have c1:aW w w1 (fun _ _=>False):=⟨xU.1,xU.2.1,xU.2.2,by rw [hw1]; exact Nat.le_refl _,fun b _ _=>by rw [hw1],fun b o _ _=>cell_of_heap (by rw [hw1]),fun b o _ h=>by rw [cell_of_heap (by rw [hw1]:w1.heap[b]? =w.heap[b]?)]; exact h,fun b o _ _=>w6 (by rw [hw1])⟩
  exact c1.trans (aW.alloc w1 _ (fun _ _=>False)) (fun _ _ h=>h) (fun _ _ _ h=>h)
 have nt:=kN (w:=w1) (cs:=cells) (t:=t)
 rw [hw1] at nt
 have I4:(w1.alloc (.cells cells t)).rangeAt w.heap.size 0 cs:=fun j v hj=>nt.2 j v (by
  obtain ⟨r,hr⟩:=hpre
  rw [← hr,List.getElem?_append_left (List.getElem?_eq_some_iff.1 hj).1]
  exact hj)
 refine lA (env:= { env with bx:=ai env.bx us }) (i:=B) (B:= .arr e l) (V:= .aH B) (L:=⟨w.heap.size,0,cap*Ty.sz S e,cap,false⟩) h1 hrun hd Ig hB (fun b o' hf=>Nat.le_of_eq hf.1.symm)
  (fun hl _ h3=>⟨⟨rfl,(fun h=>by cases h),hle,(by show World.there _ w.heap.size 0 (cap*Ty.sz S e); rw [← hcap]; exact nt.1),fun i x hi=> ?_⟩,⟨⟨_,_,_,rfl⟩,fun e' l' hb=> ?_⟩⟩) (fun vs hvs=>by rcases hvs with hvs | hvs <;> cases hvs) (fun j hj=> .inl (by simpa [av,aj] using hj)) ?_
 · obtain ⟨ds,d1,d2,n,d3⟩:=hcs.row I4 i x hi
   exact ⟨ds,d1,d2,n,d3.mono S hl (Nat.le_refl _)⟩
 · dsimp only at hb
   rw [aL] at hb
   rcases hb with hb | hb
   · cases hb
     rw [aL]
     exact ⟨_,cap,rfl,rfl,rfl,rfl,(fun h=>by cases h),hle⟩
   · cases hb
 · intro a' w' μ' hI hs
   refine hK a' w' μ' ?_ hs
   have :(env.apply o.dst (.aH B) (us++ [(B, .arr e l)]))=(Env.apply { env with bx:=ai env.bx us } o.dst (.aH B) [(B, .arr e l)]):=by
    simp only [Env.apply,fN]
   rw [this]
   exact hI
theorem Kg (hP:aO P S af) (h:Inv P S w0 M0 s0 dq env a w μ) (hd: ∀ d,o.dst=some d→d<a.tmps.size) {B:Nat} {t:TypeId} {x y:Operand} (ho:o.op= .makeSlice t x y)
 (hnew: ∀ u ∈ us,B≤u.1→u.1<B+16→env.bx u.1=none)
 (hl:(match dG S t,aK S env.tm x,aK S env.tm y with
  | some e,some v,some w=>match v.int?,w.int? with
   | some (.i64,n),some (.i64,m)=>Tr.gd [gd (0≤n),gd (n≤m),gd (m*af t≤limit)] (ax S (.aH (B)) [(B, .arr e (List.replicate n.toNat (Ty.zero S e)))])
   | _,_=>Tr.fail
  | _,_,_=>Tr.fail).leaf (V,us)) (hK:Goal P S w0 M0 s0 dq env a o.dst V us K):o.wp P a w K Q:=by
 split at hl
 · rename_i e v u ht hx hy
   split at hl
   · rename_i n m hn hm
     obtain ⟨hg,rfl,rfl⟩:=eg hl
     have g1:0≤n:=hg (gd (0≤n)) (by simp)
     have g2:n≤m:=hg (gd (n≤m)) (by simp)
     have g3:m*af t≤limit:=hg (gd (m*af t≤limit)) (by simp)
     have ht':=jI ht
     obtain ⟨te,ie,z,hu,hte,hie,hby,eu,_⟩:=hP.sl ht'
     obtain ⟨⟨i,z,h1,h2,h3,h4,h5⟩,_⟩:=hP.ty te _ hte
     rw [hie] at h1
     cases h1
     have e1:=fW (bg h hx).1 hn
     have e2:=fW (bg h hy).1 hm
     have hmn:(m.toNat:Int)=m:=by omega
     have hpos:(af t:Int)≥1:=by omega
     have hml:m≤140737488355328:=by
      have :m*1≤m*(af t:Int):=Int.mul_le_mul_of_nonneg_left hpos (by omega)
      have :limit=140737488355328:=rfl
      omega
     have hrun:=run_make (P:=P) w t te ie z hu hie h3 .i64 .i64 n m g1 g2 (by rw [hby,Int.mul_comm]; have :limit=140737488355328:=rfl; omega) (by omega)
     obtain ⟨q,hq⟩:=Ab (w:=w) hP hte (aC S w0 M0 s0 (ai env.bx []) μ w)
     rw [← h5] at hq
     have hB:=hnew _ (List.mem_singleton.2 rfl) (Nat.le_refl _) (by show B<B+16; omega)
     refine z6 (t:=te) (us:= []) (e:=e) (l:=List.replicate n.toNat (Ty.zero S e)) (cap:=m.toNat) (cells:=madeCells z.cells (m.toNat*ie.size)) (cs:=(madeCells z.cells (n.toNat*Ty.sz S e)).toList) (w1:=w) h hd (Tk.refl S _) hB rfl ⟨rfl,rfl,rfl⟩ ?_ (by simp; omega)
      (by rw [size_madeCells,h2]) (cw.replicate hq _) ?_ hK
     · unfold execOp
       simp only [ho,e1,e2,List.length_replicate]
       simp [hrun]
     · rw [h2]
       simp only [madeCells,Array.toList_map,Array.toList_range]
       have :n.toNat*Ty.sz S e≤m.toNat*Ty.sz S e:=Nat.mul_le_mul_right _ (by omega)
       refine List.IsPrefix.map _ ?_
       exact ⟨(List.range (m.toNat*Ty.sz S e)).drop (n.toNat*Ty.sz S e),by
        conv=>rhs; rw [← List.take_append_drop (n.toNat*Ty.sz S e) (List.range (m.toNat*Ty.sz S e))]
        congr 1
        rw [List.take_range,Nat.min_eq_left this]⟩
   · exact hl.elim
 · exact hl.elim
end
end Go.Sy
namespace Go.Sy
section
variable {P:Program} {S:aN} {af:Nat→Nat}
variable {w0:World} {M0 s0:St} {dq:List Deferred} {env:Env S.C} {a:Act} {w:World} {μ:Nat→Loc} {K:Act→World→Prop} {Q:Exit→Act→World→Prop} {o:Oper} {V:V S.C} {us:aG S.C}
theorem BH {bx aa:Bx S.C} {e:Ty} : ∀ {ps:List (Nat×Sy.V S.C)} {l:List (e.den S.C)},(∀ p ∈ ps, ∀ i ∈ av S p.2,aa i=bx i)→iY S aa e l ps=iY S bx e l ps
 | [],_,_=>rfl
 | (i,v)::ps,l,h=>by
  obtain ⟨h1,h2⟩:=pg (t:=e) (h (i,v) (by simp))
  simp only [iY,h1,h2]
  congr 1
  cases datum S bx e v with
  | none=>rfl
  | some x=>simp only [Option.bind_some]; rw [BH fun p hp=>h p (by simp [hp])]
theorem BF {bx:Bx S.C} {e:Ty} : ∀ {ps:List (Nat×Sy.V S.C)} {l l':List (e.den S.C)} {us:aG S.C},iY S bx e l ps=some (l',us)→cq bx us∧l'.length=l.length
 | [],_,_,_,h=>by cases h; exact ⟨fun u hu=>by simp at hu,rfl⟩
 | (i,v)::ps,l,l',us,h=>by
  simp only [iY] at h
  cases hi:Nat.blt i (List.length l) with
  | false=>rw [hi] at h; cases h
  | true=>
   rw [hi,cond_true] at h
   obtain ⟨x,hx,h⟩:=Option.bind_eq_some_iff.1 h
   obtain ⟨⟨l2,u2⟩,h2,h⟩:=Option.bind_eq_some_iff.1 h
   cases h
   obtain ⟨g1,g2⟩:=BF h2
   exact ⟨(cq.cB bx v).append g1,by rw [g2,List.length_set]⟩
theorem BG (hS:ct S) (h:Inv P S w0 M0 s0 dq env a w μ) {e:Ty} {US:aG S.C} (hU:cq env.bx US): ∀ {ps:List (Nat×Sy.V S.C)} {qs:List (Nat×Value)} {l l':List (e.den S.C)} {us:aG S.C} {cells:Array Value},
 rZ P S w (aC S w0 M0 s0 env.bx μ w) μ env.bx ps qs→cw w (bV S w0 M0 s0 env.bx (ai env.bx US) μ w) e l cells.toList→iY S env.bx e l ps=some (l',us)→(∀ u ∈ us,u ∈ US)→
 ∃ cells',Instr.fill (fun i=>some (i*Ty.sz S e,Ty.sz S e)) cells qs=some cells'∧cw w (bV S w0 M0 s0 env.bx (ai env.bx US) μ w) e l' cells'.toList
 | [],qs,l,l',us,cells,h1,h2,h3,_=>by
  cases h1; cases h3
  exact ⟨cells,rfl,h2⟩
 | (i,V)::ps,qs,l,l',us,cells,⟨v,r,hq,hv,hr⟩,h2,h3,hs=>by
  subst hq
  simp only [iY] at h3
  cases hi:Nat.blt i (List.length l) with
  | false=>rw [hi] at h3; cases h3
  | true=>
   rw [hi,cond_true] at h3
   have hlt:i<l.length:=by
    have :Nat.ble (i+1) l.length=true:=hi
    exact Nat.le_of_ble_eq_true this
   obtain ⟨x,hx,h3⟩:=Option.bind_eq_some_iff.1 h3
   obtain ⟨⟨l2,u2⟩,h4,h3⟩:=Option.bind_eq_some_iff.1 h3
   cases h3
   obtain ⟨_,d2⟩:=sH hS h (Tk.refl S env.bx) hv hx
   have d3:=d2.mono S (ox S (hU.tk (us:=cB S env.bx V) fun u hu=>hs u (by simp [hu])))
   obtain ⟨n,d4⟩:=d3.2
   have d5:=d4.length S
   have hc:=h2.1
   have hle:(i+1)*Ty.sz S e≤l.length*Ty.sz S e:=Nat.mul_le_mul_right _ (by omega)
   rw [Nat.add_mul,Nat.one_mul, ← hc] at hle
   obtain ⟨cells',e1,e2⟩:=BI (fun i=>some (i*Ty.sz S e,Ty.sz S e)) (i:=i) rfl (v:=v) (cells:=cells) (by rw [← d5]; simp) (by simpa using hle) r
   obtain ⟨we,g1,g2⟩:=BG hS h hU (cells:=cells') hr (by rw [e1]; exact h2.set hlt d4) h4 fun u hu=>hs u (by simp [hu])
   exact ⟨we,by rw [e2]; exact g1,g2⟩
theorem G3 (hP:aO P S af) (h:Inv P S w0 M0 s0 dq env a w μ) (hd: ∀ d,o.dst=some d→d<a.tmps.size) {B:Nat} {t:TypeId} {parts:Array (Nat×Operand)} {e:Ty} (ho:o.op= .buildSlice t 0 parts) (ht:dG S t=some e)
 (hnew: ∀ u ∈ us,B≤u.1→u.1<B+16→env.bx u.1=none)
 (hl:(match parts.toList with
  | []=>ax S (.aT B e []) [(B, .tail)]
  | _=> .fail:Rt S).leaf (V,us)) (hK:Goal P S w0 M0 s0 dq env a o.dst V us K):o.wp P a w K Q:=by
 split at hl
 · rename_i hps
   obtain ⟨rfl,rfl⟩:=bh hl
   have hp:parts= #[]:=by
    have :parts=parts.toList.toArray:=by simp
    rw [this,hps]
   subst hp
   have hB:=hnew (B, .tail) (by simp) (Nat.le_refl _) (by show B<B+16; omega)
   have ht':=jI ht
   obtain ⟨te,ie,z,hu,hte,hie,hby,eu,_⟩:=hP.sl ht'
   have hrun:(execOp a.eval o).run P w= .ok (.value (.slice (some ⟨w.heap.size,0,none⟩) 0 0)) (w.alloc (.cells #[] te)):=by
    unfold execOp
    simp only [ho]
    simp [Instr.buildSlice,run_underlying hu,sizeOf,typeInfo,hie,Array.range_zero',Instr.fill,newRow]
   refine lA (i:=B) (B:= .tail) (V:= .aT B e []) (L:=⟨0,0,0,0,true⟩) h hrun hd (aW.alloc w _ _) hB (fun b o hf=> ?_) (fun _ _ _=>⟨fun j hj=>absurd hj (Nat.not_lt_zero j), ?_⟩) (by simp) (fun j hj=> .inl (by simpa [av,aj] using hj)) hK
   · have h1:=hf.2.1; have h2:=hf.2.2; simp at h2
   · refine ⟨⟨rfl,1,_,0,rfl,Nat.le_refl _, .inl rfl⟩,fun _=>⟨_,0,rfl, ?_⟩⟩
     rw [aL]
     exact .inr ⟨_,_,rfl,by simp,fun h=>absurd h (Nat.lt_irrefl 0)⟩
 · exact hl.elim
theorem F8 (hP:aO P S af) (h:Inv P S w0 M0 s0 dq env a w μ) (hd: ∀ d,o.dst=some d→d<a.tmps.size) {B:Nat} {t:TypeId} {len:Nat} {parts:Array (Nat×Operand)} {ids:List Nat} (ho:o.op= .buildSlice t len parts)
 (eo: ∀ i x,(i,x) ∈ parts.toList→ ∀ V,aK S env.tm x=some V→ ∀ i ∈ av S V,restrict S env.bx ids i=env.bx i)
 (hnew: ∀ u ∈ us,B≤u.1→u.1<B+16→env.bx u.1=none)
 (hl:(match dG S t with
  | some e=>match parts.toList.mapM (fun (p:Nat×Operand)=>(aK S env.tm p.2).map fun v=>(p.1,v)) with
   | some ps=>cond (Nat.ble (len*Ty.sz S e) 16777216) (match iY S (restrict S env.bx ids) e (List.replicate len (Ty.zero S e)) ps with
    | some (l,us)=>ax S (.aH (B)) (us++ [(B,cR.arr e l)])
    | none=>Tr.fail) Tr.fail
   | none=>Tr.fail
  | none=>Tr.fail).leaf (V,us)) (hK:Goal P S w0 M0 s0 dq env a o.dst V us K):o.wp P a w K Q:=by
 split at hl
 · rename_i e ht
   split at hl
   · rename_i ps hps
     cases hlim:Nat.ble (len*Ty.sz S e) 16777216 with
     | false=>rw [hlim] at hl; exact hl.elim
     | true=>
      rw [hlim,cond_true] at hl
      obtain ⟨p1,p2⟩:=yN h hps
      rw [BH (bx:=env.bx) fun p hp i hi=>by
       obtain ⟨x,k,hm,hx⟩:=p2 p hp
       exact eo k x hm p.2 hx i hi] at hl
      split at hl
      · rename_i l fz Cl
        obtain ⟨rfl,rfl⟩:=bh hl
        obtain ⟨f1,f2⟩:=BF Cl
        rw [List.length_replicate] at f2
        have ht':=jI ht
        obtain ⟨te,ie,z,hu,hte,hie,hby,eu,_⟩:=hP.sl ht'
        obtain ⟨⟨i,z,h1,h2,h3,h4,h5⟩,_⟩:=hP.ty te _ hte
        rw [hie] at h1
        cases h1
        obtain ⟨q,hq⟩:=Ab (w:=w) hP hte (bV S w0 M0 s0 env.bx (ai env.bx fz) μ w)
        rw [← h5] at hq
        obtain ⟨cells,c1,c2⟩:=BG hP.toct h f1 (cells:=madeCells z.cells (len*Ty.sz S e)) p1 (cw.replicate hq len) Cl fun u hu=>hu
        have bq:=hnew (B,cR.arr e l) (by simp) (Nat.le_refl _) (by show B<B+16; omega)
        have hB:ai env.bx fz B=none:=by
         rcases cq.at env.bx f1 B with ⟨e1,_⟩ | ⟨_,e',l',e2,_⟩
         · rw [e1]; exact bq
         · rw [show env.bx B=none from bq] at e2; cases e2
        refine z6 (t:=te) (us:=fz) (e:=e) (l:=l) (cap:=len) (cells:=cells) (cs:=cells.toList) (w1:=w) h hd f1.kf hB rfl ⟨rfl,rfl,rfl⟩ ?_ (by omega) (by have :=c2.1; rw [f2] at this; simpa using this)
         (c2.later (vj f1.kf)) (List.prefix_refl _) hK
        unfold execOp
        simp only [ho,f2]
        have hrun:(Instr.buildSlice t len (parts.map fun (i,x)=>(i,a.eval x))).run P w= .ok (.slice (some ⟨w.heap.size,0,none⟩) len len) (w.alloc (.cells cells te)):=by
         have hlim:=Nat.le_of_ble_eq_true hlim
         rw [← h2] at hlim c1
         by_cases h0:len*ie.size=0
         · rw [h0] at c1
           have hm:madeCells z.cells 0= #[]:=by simp [madeCells]
           rw [hm] at c1
           have Ga:Instr.fill (fun i=>some (i*ie.size,ie.size)) #[] (parts.toList.map fun x=>(x.1,a.eval x.2))=some cells:=c1
           simp [Instr.buildSlice,run_underlying hu,sizeOf,typeInfo,hie,h0,Array.range_zero',Ga,newRow]
         · refine run_buildSlice w t te len _ cells ie z hu hie h3 (by omega) h0 ?_
           rw [Array.toList_map,h2]
           rw [h2] at c1
           exact c1
        simp [hrun]
      · exact hl.elim
   · exact hl.elim
 · exact hl.elim
end
end Go.Sy
namespace Go.Sy
section
variable {P:Program} {S:aN} {af:Nat→Nat}
variable {w0:World} {M0 s0:St} {dq:List Deferred} {env:Env S.C} {a:Act} {w:World} {μ:Nat→Loc} {K:Act→World→Prop} {Q:Exit→Act→World→Prop} {o:Oper} {V:V S.C} {us:aG S.C}
theorem L_ (P:Program) (hS:ct S) {s:St} {n:Nat} {e:Ty} {x:e.den S.C} {cs:List Value} (h:ay S w s n e x cs): ∀ u ∈ cs,u.oneCell'=true:=by
 obtain ⟨h1,h2,_⟩:=iX (P:=P) hS (fun _=>⟨0,0,0,0,true⟩) (fun _=>none) h
 exact rE h2 h1
theorem GJ (P:Program) (hS:ct S) {s:St} {e:Ty} {l:List (e.den S.C)} {cs:List Value} (h:cw w s e l cs): ∀ u ∈ cs,u.oneCell'=true:=by
 intro u hu
 obtain ⟨k,hk,IJ⟩:=List.getElem_of_mem hu
 have h0:0<Ty.sz S e:=by
  rcases Nat.eq_zero_or_pos (Ty.sz S e) with h0 | h0
  · have :=h.1; rw [h0,Nat.mul_zero] at this; omega
  · exact h0
 have hkl:k<l.length*Ty.sz S e:=by rw [← h.1]; exact hk
 have hi:k / Ty.sz S e<l.length:=Nat.div_lt_of_lt_mul (by rw [Nat.mul_comm]; exact hkl)
 obtain ⟨n,hn⟩:=h.2 (k / Ty.sz S e) _ (List.getElem?_eq_getElem hi)
 refine L_ P hS hn u ?_
 have hd:k / Ty.sz S e*Ty.sz S e+k % Ty.sz S e=k:=by rw [Nat.mul_comm]; exact Nat.div_add_mod k _
 refine List.mem_iff_getElem?.2 ⟨k % Ty.sz S e, ?_⟩
 rw [List.getElem?_take,if_pos (Nat.mod_lt _ h0),List.getElem?_drop,hd,List.getElem?_eq_getElem hk,IJ]
def Read (S:aN) (w:World) (s:St) (e:Ty) (l:List (e.den S.C)) (v:Value):Prop:=
 ∃ ad cap,v= .slice ad l.length cap∧l.length≤cap∧(l.length=0∨ ∃ b o,ad=some ⟨b,o,none⟩∧ ∀ i x,l[i]? =some x→ ∃ ds,ds.length=Ty.sz S e∧w.rangeAt b (o+i*Ty.sz S e) ds∧ ∃ n,ay S w s n e x ds)
theorem bS.read {s:St} {e:Ty} {l:List (e.den S.C)} {v:Value} (h:bS S w s (.sl e) l v):Read S w s e l v:=by
 obtain ⟨ad,cap,h1,h2,h3⟩:=h_ h
 refine ⟨ad,cap,h1,h2,h3.imp id fun ⟨b,o,n,h4,h5⟩=>⟨b,o,h4,fun i x hi=> ?_⟩⟩
 obtain ⟨ds,d1,d2,d3⟩:=h5 i x hi
 exact ⟨ds,d1,d2.range,n,d3⟩
theorem kq.read {s:St} {e:Ty} {l:List (e.den S.C)} {v:Value} {L:Loc} {ad:Option Addr} {cap:Nat} (hv:v= .slice ad l.length cap) (h:kq L ad l.length cap (Ty.sz S e))
 (hr: ∀ i x,l[i]? =some x→ ∃ ds,ds.length=Ty.sz S e∧w.rangeAt L.b (L.o+i*Ty.sz S e) ds∧ ∃ n,ay S w s n e x ds):Read S w s e l v:=by
 refine ⟨ad,cap,hv,h.fits, ?_⟩
 cases hn:L.nil with
 | true=>
  left
  have h1:=h.isNil hn
  have h2:=h.fits
  have h3:=h.gG
  omega
 | false=>
  right
  have h1:=h.addr
  rw [hn] at h1
  exact ⟨L.b,L.o,h1,hr⟩
theorem yw (h:Inv P S w0 M0 s0 dq env a w μ) {b:Nat} {e:Ty} {l:List (e.den S.C)} {v:Value} (hb:env.bx b=some (.arr e l)∨env.bx b=some (.bp e l)) (hv:RV P S w (aC S w0 M0 s0 env.bx μ w) μ env.bx (.aH b) v):
 Read S w (aC S w0 M0 s0 env.bx μ w) e l v:=by
 obtain ⟨_,hv⟩:=hv
 obtain ⟨ad,cap,h1,h2⟩:=hv e l hb
 refine h2.read h1 ?_
 rcases hb with hb | hb
 · exact (h.bE b _ hb).2.2.2.2
 · intro i x hi
   obtain ⟨ds,d1,d2,d3⟩:=(h.bE b _ hb).2.2 i x hi
   exact ⟨ds,d1,d2.range,d3⟩
theorem wL (h:Inv P S w0 M0 s0 dq env a w μ) {e:Ty} {X:Sy.V S.C} {x:Value} {y:List (e.den S.C)} (hx:RV P S w (aC S w0 M0 s0 env.bx μ w) μ env.bx X x) (hy:datum S env.bx (.sl e) X=some y):
 Read S w (aC S w0 M0 s0 env.bx μ w) e y x:=by
 cases X with
 | d u z=>
  obtain ⟨rfl,rfl⟩:=di hy
  exact bS.read hx
 | aT b e' l=>
  obtain ⟨e1,rfl⟩:=di hy
  cases e1
  exact bS.read hx.1
 | b7=>
  cases hy
  exact ⟨none,0,hx,Nat.le_refl _, .inl rfl⟩
 | aH b=>
  have hy:cu S env.bx (.sl e) (.aH b)=some y:=hy
  simp only [cu] at hy
  split at hy
  · rename_i e' l hb
    obtain ⟨e1,rfl⟩:=di hy
    cases e1
    exact yw h (.inl hb) hx
  · rename_i e' l hb
    obtain ⟨e1,rfl⟩:=di hy
    cases e1
    exact yw h (.inr hb) hx
  · cases hy
 | _=>cases hy
theorem Read.cells {s:St} {e:Ty} {l:List (e.den S.C)} {v:Value} (h:Read S w s e l v): ∃ ad cap cs,v= .slice ad l.length cap∧l.length≤cap∧cw w s e l cs∧
 (l.length=0∧cs= []∨ ∃ b o,ad=some ⟨b,o,none⟩∧w.rangeAt b o cs):=by
 obtain ⟨ad,cap,h1,h2,h3⟩:=h
 rcases h3 with h3 | ⟨b,o,h3,h4⟩
 · have :l= []:=List.length_eq_zero_iff.1 h3
   subst this
   exact ⟨ad,cap,[],h1,h2,cw.nil, .inl ⟨rfl,rfl⟩⟩
 · obtain ⟨cs,c1,c2⟩:=DQ h4
   exact ⟨ad,cap,cs,h1,h2,c2, .inr ⟨b,o,h3,c1⟩⟩
theorem Read.src (hP:aO P S af) {s:St} {e:Ty} {l:List (e.den S.C)} {v:Value} (h:Read S w s e l v) {tx:Nat} (ht:S.ty tx=some (.sl e)): ∃ news,Src P (Ty.sz S e) tx v l.length news w∧cw w s e l news:=by
 obtain ⟨te,ie,z,hu,_⟩:=hP.sl ht
 obtain ⟨ad,cap,cs,h1,h2,h3,h4⟩:=h.cells
 refine ⟨cs, ?_,h3⟩
 subst h1
 rcases h4 with ⟨h4,rfl⟩ | ⟨b,o,rfl,h4⟩
 · cases ad with
   | none=>rw [h4]; exact Src.ofNil w hu cap
   | some ad=>exact Src.ofSlice w hu ad _ cap [] h3.1 (fun j u hj=>by simp at hj) (fun u hu=>by simp at hu)
 · exact Src.ofSlice w hu _ _ cap cs h3.1 (fun j u hj=>by rw [Addr.add_mid]; exact h4 j u hj) (GJ P hP.toct h3)
theorem Read.old {s:St} {e:Ty} {l:List (e.den S.C)} {ad:Option Addr} {cap:Nat} (P:Program) (h:Read S w s e l (.slice ad l.length cap)): ∃ olds,(Builtin.firstCells (Ty.sz S e) l.length (.slice ad l.length cap)).run P w.drew= .ok olds.toArray w.drew∧cw w s e l olds∧
 (l.length=0∨ ∃ b o,ad=some ⟨b,o,none⟩∧w.rangeAt b o olds):=by
 obtain ⟨lO,cap',cs,h1,h2,h3,h4⟩:=h.cells
 cases h1
 refine ⟨cs, ?_,h3,h4.imp (·.1) id⟩
 rcases h4 with ⟨h4,rfl⟩ | ⟨b,o,rfl,h4⟩
 · cases ad with
   | none=>exact run_firstCells_none _ _ _ _ _
   | some ad=>exact run_firstCells_some _ _ _ ad _ cap [] h3.1 (fun j u hj=>by simp at hj)
 · exact run_firstCells_some _ _ _ _ _ cap cs h3.1 (fun j u hj=>by rw [Addr.add_mid]; simpa using h4 j u hj)
theorem uu (hP:aO P S af) {t tx ty:Nat} {e:Ty} (ht:S.ty t=some (.sl e)) {n m cap:Nat} {base:Option Addr} {x:Value} {news olds:List Value} (hs:Src P (Ty.sz S e) tx x m news w)
 (hold:(Builtin.firstCells (Ty.sz S e) n (.slice base n cap)).run P w.drew= .ok olds.toArray w.drew) (Cw:olds.length=n*Ty.sz S e) (hle:n≤cap) (hlim:(n+m)*af t≤limit):
 (m=0∧(Builtin.append_ #[t,tx] ty #[.slice base n cap,x]).run P w= .ok (.slice base n cap) w)∨
 (0<m∧n+m≤cap∧ ∀ b off,base=some ⟨b,off,none⟩→w.there b (off+n*Ty.sz S e) news.length→(Builtin.append_ #[t,tx] ty #[.slice base n cap,x]).run P w= .ok (.slice base (n+m) cap) (w.setCells b (off+n*Ty.sz S e) news))∨
 (∃ c' te cells,cap<n+m∧n+m≤c'∧Array.size cells=c'*Ty.sz S e∧(olds++news) <+: cells.toList∧
  (Builtin.append_ #[t,tx] ty #[.slice base n cap,x]).run P w= .ok (.slice (some ⟨w.heap.size,0,none⟩) (n+m) c') (w.drew.alloc (.cells cells te))):=by
 obtain ⟨te,ie,_,hu,hte,hie,hby,eu,_⟩:=hP.sl ht
 obtain ⟨⟨i,z,h1,h2,h3,h4,h5⟩,_⟩:=hP.ty te _ hte
 rw [hie] at h1
 cases h1
 rw [← h2] at hs hold Cw ⊢
 rcases Nat.eq_zero_or_pos m with h0 | h0
 · left
   subst h0
   have hn:news= []:=by have :=hs.newsLen; rw [Nat.zero_mul] at this; exact List.length_eq_zero_iff.1 this
   subst hn
   exact ⟨rfl,run_append_nothing w t tx ty te ie hu hie base n cap hle x hs⟩
 · right
   by_cases hroom:n+m≤cap
   · left
     refine ⟨h0,hroom, ?_⟩
     rintro b off rfl b6
     exact run_append_room_src w t tx ty te ie hu hie b off n cap x m news hs hroom (fun j hj=>(b6 j hj).1) (fun j hj=>(b6 j hj).2)
   · right
     have O7:limit=140737488355328:=rfl
     have h63:((n+m:Nat):Int)≤9223372036854775807:=by
      have :(n+m)*1≤(n+m)*af t:=Nat.mul_le_mul_left _ eu
      omega
     refine ⟨_,te,_,by omega,grownCap_ge w (n+m) cap te, ?_, ?_,run_append_grow_src w t tx ty te ie z hu hie h3 base n cap olds hold x m news hs (by omega) h63 (growslice_fits (by omega) (by rw [hby]; omega))⟩
     · have hg:=grownCap_ge w (n+m) cap te
       have hzs:z.cells.size=ie.size:=by
        have :=congrArg List.length h5
        rw [Array.length_toList] at this
        rw [this,h2]
        cases e <;> simp [mQ,Ty.sz]
       rw [Array.size_append,size_zeroCells,hzs,List.size_toArray,List.length_append,Cw,hs.newsLen, ← Nat.add_mul, ← Nat.add_mul]
       congr 1
       omega
     · rw [Array.toList_append,List.toList_toArray]
       exact List.prefix_append _ _
theorem Inv.swap (h:Inv P S w0 M0 s0 dq env a w μ) {b B:Nat} {B0 BX:cR S.C} {L:Loc} {w':World} {T:St} (hb:env.bx b=some B0) (bG:live S env.bx b) (hB:env.bx B=none)
 (hw:aW w w' T) (hT: ∀ k o,T k o→(μ b).aB k o) (hL: ∀ k o,L.aB k o→w.heap.size≤k∨(μ b).aB k o) (hnc: ∀ vs,BX≠ .cells vs∧BX≠ .bw vs)
 (w9:bC w (aC S w0 M0 s0 env.bx μ w) w' (aC S w0 M0 s0 (ah (ah env.bx b (some .dead)) B (some BX)) (ah μ B L) w')→
  RB P S w' (aC S w0 M0 s0 (ah (ah env.bx b (some .dead)) B (some BX)) (ah μ B L) w') (ah μ B L) (ah (ah env.bx b (some .dead)) B (some BX)) L BX):
 Inv P S w0 M0 s0 dq { env with bx:=ah (ah env.bx b (some .dead)) B (some BX) } a w' (ah μ B L)∧
 bC w (aC S w0 M0 s0 env.bx μ w) w' (aC S w0 M0 s0 (ah (ah env.bx b (some .dead)) B (some BX)) (ah μ B L) w')∧
 (∀ k o,((μ b).aB k o∨k=w.heap.size)→k<w'.heap.size→ ¬ L.aB k o→aC S w0 M0 s0 (ah (ah env.bx b (some .dead)) B (some BX)) (ah μ B L) w' k o):=by
 have hne:b≠B:=fun e=>by rw [e,hB] at hb; cases hb
 have hbd:ah (ah env.bx b (some .dead)) B (some BX) b=some .dead:=by rw [aY _ _ hne,aL]
 have BY:ah (ah env.bx b (some .dead)) B (some BX) B=some BX:=aL _ _ _
 have hU: ∀ i, ¬ (i=b∨i=B)→ah (ah env.bx b (some .dead)) B (some BX) i=env.bx i∧ah μ B L i=μ i:=fun i hi=>by
  rw [aY _ _ fun e=>hi (.inr e),aY _ _ fun e=>hi (.inl e),aY _ _ fun e=>hi (.inr e)]
  exact ⟨rfl,rfl⟩
 have gL: ¬ live S (ah (ah env.bx b (some .dead)) B (some BX)) b:=fun hl=>by unfold live at hl; rw [hbd] at hl; exact hl
 have hf: ∀ i,(i=b∨i=B)→live S (ah (ah env.bx b (some .dead)) B (some BX)) i→ ∀ k o,(ah μ B L i).aB k o→w.heap.size≤k∨ ∃ j,(j=b∨j=B)∧live S env.bx j∧(μ j).aB k o:=by
  rintro i (rfl | rfl) hl k o hfo
  · exact absurd hl gL
  · rw [aL] at hfo
    exact (hL k o hfo).imp id fun hfo=>⟨b, .inl rfl,bG,hfo⟩
 have gJ: ∀ k o,T k o→k<w.heap.size→ ∃ i,(i=b∨i=B)∧live S env.bx i∧(μ i).aB k o:=fun k o ht _=>⟨b, .inl rfl,bG,hT k o ht⟩
 have hl:=h.later hw gJ hU hf
 refine ⟨h.step (U:=fun i=>i=b∨i=B) hw gJ hU hf ?_ ?_ ?_ ?_,hl, ?_⟩
 · intro i B1 hi
   by_cases e1:i=b
   · subst e1
     refine ⟨_,hbd, ?_⟩
     rw [aY _ _ hne]
     cases B1 <;> rfl
   · have e2:i≠B:=fun e=>by rw [e,hB] at hi; cases hi
     rw [aY _ _ e2,aY _ _ e1,aY _ _ e2]
     exact ⟨B1,hi,cc.refl S _ _⟩
 · rintro i j (rfl | rfl) (rfl | rfl) hij li lj
   · exact absurd rfl hij
   · exact absurd li gL
   · exact absurd lj gL
   · exact absurd rfl hij
 · rintro i B1 (rfl | rfl) gI
   · rw [hbd] at gI; cases gI; trivial
   · rw [BY] at gI; cases gI
     rw [aL]
     exact w9 hl
 · rintro i vs (rfl | rfl) hvs
   · rcases hvs with hvs | hvs <;> · rw [hbd] at hvs; cases hvs
   · rcases hvs with hvs | hvs <;> rw [BY] at hvs
     · exact absurd (Option.some.inj hvs) (hnc vs).1
     · exact absurd (Option.some.inj hvs) (hnc vs).2
 · intro k o' hk hlt IX
   refine ⟨hlt, ?_,fun i li hfo=> ?_⟩
   · rcases hk with hk | rfl
     · exact (h.own b bG k o' hk).elim (fun h=> .inr (.inr h)) (fun h=> .inr (.inl h))
     · exact .inr (.inr h.fc.size)
   · by_cases e1:i=b
     · subst e1; exact gL li
     · by_cases e2:i=B
       · subst e2; rw [aL] at hfo; exact IX hfo
       · have hu:=hU i fun e=>e.elim e1 e2
         rw [dr S hu.1] at li
         rw [hu.2] at hfo
         rcases hk with hk | rfl
         · exact h.cG i b e1 li bG _ _ hfo hk
         · exact absurd (iC P S (h.bE i) li hfo).1 (Nat.lt_irrefl _)
end
end Go.Sy
namespace Go.Sy
section
variable {P:Program} {S:aN} {af:Nat→Nat}
variable {w0:World} {M0 s0:St} {dq:List Deferred} {env:Env S.C} {a:Act} {w:World} {μ:Nat→Loc} {K:Act→World→Prop} {Q:Exit→Act→World→Prop} {o:Oper} {V:V S.C} {us:aG S.C}
theorem zH {s:St} {e:Ty} {l:List (e.den S.C)} {b o' cap:Nat} (hle:l.length≤cap)
 (hall: ∀ (i:Nat) (x:e.den S.C),l[i]? =some x→ ∃ ds,ds.length=Ty.sz S e∧At w s b (o'+i*Ty.sz S e) ds∧ ∃ n,ay S w s n e x ds):bS S w s (.sl e) l (.slice (some ⟨b,o',none⟩) l.length cap):=by
 have : ∀ m,m≤l.length→ ∃ n, ∀ (i:Nat) (x:e.den S.C),i<m→l[i]? =some x→ ∃ ds,ds.length=Ty.sz S e∧At w s b (o'+i*Ty.sz S e) ds∧ay S w s n e x ds:=by
  intro m
  induction m with
  | zero=>exact fun _=>⟨0,fun i x hi=>by omega⟩
  | succ m ih=>
   intro hm
   obtain ⟨n,hn⟩:=ih (by omega)
   obtain ⟨ds,h1,h2,n',h3⟩:=hall m l[m] (by simp)
   refine ⟨max n n',fun i x hi hx=> ?_⟩
   by_cases e:i=m
   · subst e
     have :x=l[i]:=by simpa [List.getElem?_eq_getElem (show i<l.length by omega)] using hx.symm
     subst this
     exact ⟨ds,h1,h2,h3.up S (by omega)⟩
   · obtain ⟨ds,h1,h2,h3⟩:=hn i x (by omega) hx
     exact ⟨ds,h1,h2,h3.up S (by omega)⟩
 obtain ⟨n,hn⟩:=this l.length (Nat.le_refl _)
 exact ⟨rfl,n+1,_,cap,rfl,hle, .inr ⟨b,o',rfl,fun i x hx=>hn i x (List.getElem?_eq_some_iff.1 hx).1 hx⟩⟩
theorem cw.at {s:St} {e:Ty} {l:List (e.den S.C)} {cs:List Value} (h:cw w s e l cs) {b o':Nat} (hr:At w s b o' cs):
 ∀ i x,l[i]? =some x→ ∃ ds,ds.length=Ty.sz S e∧At w s b (o'+i*Ty.sz S e) ds∧ ∃ n,ay S w s n e x ds:=fun i x hi=>by
 obtain ⟨n,hn⟩:=h.2 i x hi
 exact ⟨_,hn.length S,hr.part _ _,n,hn⟩
theorem FQ {s:St} {e:Ty} {l l':List (e.den S.C)} {b o':Nat}
 (h1: ∀ i x,l[i]? =some x→ ∃ ds,ds.length=Ty.sz S e∧At w s b (o'+i*Ty.sz S e) ds∧ ∃ n,ay S w s n e x ds)
 (h2: ∀ i x,l'[i]? =some x→ ∃ ds,ds.length=Ty.sz S e∧At w s b (o'+l.length*Ty.sz S e+i*Ty.sz S e) ds∧ ∃ n,ay S w s n e x ds):
 ∀ i x,(l++l')[i]? =some x→ ∃ ds,ds.length=Ty.sz S e∧At w s b (o'+i*Ty.sz S e) ds∧ ∃ n,ay S w s n e x ds:=fun i x hi=>by
 by_cases hlt:i<l.length
 · rw [List.getElem?_append_left hlt] at hi; exact h1 i x hi
 · rw [List.getElem?_append_right (by omega)] at hi
   have :=h2 _ x hi
   rw [Nat.add_assoc, ← Nat.add_mul,show l.length+(i - l.length)=i from by omega] at this
   exact this
theorem oV {s:St} {e:Ty} {l l':List (e.den S.C)} {b o':Nat}
 (h1: ∀ i x,l[i]? =some x→ ∃ ds,ds.length=Ty.sz S e∧w.rangeAt b (o'+i*Ty.sz S e) ds∧ ∃ n,ay S w s n e x ds)
 (h2: ∀ i x,l'[i]? =some x→ ∃ ds,ds.length=Ty.sz S e∧w.rangeAt b (o'+l.length*Ty.sz S e+i*Ty.sz S e) ds∧ ∃ n,ay S w s n e x ds):
 ∀ i x,(l++l')[i]? =some x→ ∃ ds,ds.length=Ty.sz S e∧w.rangeAt b (o'+i*Ty.sz S e) ds∧ ∃ n,ay S w s n e x ds:=fun i x hi=>by
 by_cases hlt:i<l.length
 · rw [List.getElem?_append_left hlt] at hi; exact h1 i x hi
 · rw [List.getElem?_append_right (by omega)] at hi
   have :=h2 _ x hi
   rw [Nat.add_assoc, ← Nat.add_mul,show l.length+(i - l.length)=i from by omega] at this
   exact this
theorem lB (h:Inv P S w0 M0 s0 dq env a w μ) (hd: ∀ d,o.dst=some d→d<a.tmps.size) {b B:Nat} {B0 BX:cR S.C} {L:Loc} {w':World} {T:St} {v:Value} (hb:env.bx b=some B0) (bG:live S env.bx b) (hB:env.bx B=none)
 (hrun:(execOp a.eval o).run P w= .ok (.value v) w')
 (hw:aW w w' T) (hT: ∀ k o,T k o→(μ b).aB k o) (hL: ∀ k o,L.aB k o→w.heap.size≤k∨(μ b).aB k o) (hnc: ∀ vs,BX≠ .cells vs∧BX≠ .bw vs)
 (w9: ∀ s',bC w (aC S w0 M0 s0 env.bx μ w) w' s'→RB P S w' s' (ah μ B L) (ah (ah env.bx b (some .dead)) B (some BX)) L BX)
 (hV: ∀ s',bC w (aC S w0 M0 s0 env.bx μ w) w' s'→(∀ k o,((μ b).aB k o∨k=w.heap.size)→k<w'.heap.size→ ¬ L.aB k o→s' k o)→
  RV P S w' s' (ah μ B L) (ah (ah env.bx b (some .dead)) B (some BX)) V v)
 (gK: ∀ i ∈ av S V,i=B) (hK:Goal P S w0 M0 s0 dq env a o.dst V [(b, .dead),(B,BX)] K):o.wp P a w K Q:=by
 obtain ⟨hI,hl,hm⟩:=h.swap hb bG hB hw hT hL hnc (w9 _)
 unfold Oper.wp
 rw [hrun]
 refine hK _ w' _ (hI.put hd (hV _ hl hm) fun i hi=> ?_) ?_
 · rw [gK i hi]
   show ah (ah env.bx b (some .dead)) B (some BX) B≠none
   rw [aL]; simp
 · cases o.dst <;> simp [Act.put]
theorem Ar {f:Operand→Option (Sy.V S.C)} {xs:List Operand} {v u:Sy.V S.C} (h:xs.mapM f=some [v,u]): ∃ x y,xs= [x,y]∧f x=some v∧f y=some u:=by
 cases xs with
 | nil=>cases h
 | cons x r=>
  obtain ⟨y,zs,h1,h2,h3⟩:=je h
  cases h3
  cases r with
  | nil=>cases h2
  | cons x' r'=>
   obtain ⟨y',zs',h4,h5,h6⟩:=je h2
   cases h6
   cases r' with
   | nil=>exact ⟨x,x',rfl,h1,h4⟩
   | cons x'' r''=>
    obtain ⟨y',zs',h7,h8,h9⟩:=je h5
    cases h9
theorem aW.grown {w:World} {cells:Array Value} {t:TypeId} (T:St):aW w (w.drew.alloc (.cells cells t)) T:=
 (aW.drew w T).trans (aW.alloc w.drew _ T) (fun _ _ h=>h) (fun _ _ _ h=>h)
theorem BV {w:World} {cells:Array Value} {t:TypeId} :(w.drew.alloc (.cells cells t)).there w.heap.size 0 cells.size∧(w.drew.alloc (.cells cells t)).rangeAt w.heap.size 0 cells.toList∧w.heap.size<(w.drew.alloc (.cells cells t)).heap.size:=by
 obtain ⟨h1,h2⟩:=kN (w:=w.drew) (cs:=cells) (t:=t)
 exact ⟨h1,h2,by simp⟩
theorem Dv {w:World} {b o':Nat} {cs ds:List Value} (h:w.rangeAt b o' ds) (hp:cs <+: ds):w.rangeAt b o' cs:=fun j v hj=>by
 obtain ⟨r,rfl⟩:=hp
 exact h j v (by rw [List.getElem?_append_left (List.getElem?_eq_some_iff.1 hj).1]; exact hj)
theorem Kl {α:Type} (l:List α) {n i m:Int} (h0:0≤n) (h1:n≤i) (h2:0≤m) (h3:i.toNat+m.toNat≤l.length):(jf l n i m).length=l.length:=by
 unfold jf
 simp only [List.length_append,List.length_take,List.length_drop]
 omega
theorem FR (hP:aO P S af) (h:Inv P S w0 M0 s0 dq env a w μ) (hd: ∀ d,o.dst=some d→d<a.tmps.size) {c:Call} (ho:o.op= .call c) (hc:c.callee= .builtin .append) {args:List (Sy.V S.C)} {ids:List Nat} {B:Nat}
 (hargs:c.args.toList.mapM (aK S env.tm)=some args) (eo: ∀ V ∈ args, ∀ i ∈ av S V,restrict S env.bx ids i=env.bx i)
 (hnew: ∀ u ∈ us,B≤u.1→u.1<B+16→env.bx u.1=none)
 (hl:(match args,c.argTypes.toList with
  | [s,x],[t,u]=>match dG S t,dG S u with
   | some e,some e'=>if e=e' then mU S B (af t) e (restrict S env.bx ids) x s else .fail
   | _,_=> .fail
  | _,_=> .fail).leaf (V,us)) (hK:Goal P S w0 M0 s0 dq env a o.dst V us K):o.wp P a w K Q:=by
 split at hl
 · rename_i Vs Vx t tx xQ
   split at hl
   · rename_i e e' het It
     split at hl
     · rename_i hee
       subst hee
       obtain ⟨xs,xx,hxs,jN,hex⟩:=Ar hargs
       obtain ⟨hs,_⟩:=bg h jN
       obtain ⟨hx,_⟩:=bg h hex
       have ht:=jI het
       have qf:=jI It
       have cC:c.argTypes= #[t,tx]:=by
        have :c.argTypes=c.argTypes.toList.toArray:=by simp
        rw [this,xQ]
       have har:c.args= #[xs,xx]:=by
        have :c.args=c.args.toList.toArray:=by simp
        rw [this,hxs]
       have hrun: ∀ {v:Value} {w':World},(Builtin.append_ #[t,tx] o.type #[a.eval xs,a.eval xx]).run P w= .ok v w'→(execOp a.eval o).run P w= .ok (.value v) w':=by
        intro v w' hr
        unfold execOp
        simp only [ho]
        simp [resolve,hc,har,cC,invoke,builtin,hr]
       have sY: ∀ BX,(B,BX) ∈ us→env.bx B=none:=fun BX hm=>hnew _ hm (Nat.le_refl _) (by show B<B+16; omega)
       have nB: ∀ y,datum S (restrict S env.bx ids) (.sl e) Vx=some y→datum S env.bx (.sl e) Vx=some y:=fun y hy=>by
        rw [← (pg (t:= .sl e) (eo Vx (by simp))).1]; exact hy
       cases Vs with
       | aT b e' l=>
        simp only [mU] at hl
        split at hl
        · rename_i hb
          have hb:=dF hb
          split at hl
          · rename_i l' hl'
            obtain ⟨e1,e2⟩:=di hl'
            cases e1
            dsimp only at e2
            subst e2
            split at hl
            · rename_i y hy
              obtain ⟨hg,rfl,rfl⟩:=eg hl
              have hlim:(l.length+y.length)*af t≤limit:=hg (gd ((l.length+y.length)*af t≤limit)) (by simp)
              have hB:=sY .tail (by simp)
              obtain ⟨gq,hown⟩:=hs
              obtain ⟨ad,cap,dU,CE⟩:=hown hb
              obtain ⟨news,hsrc,hnews⟩:=(wL h hx (nB y hy)).src hP qf
              have hread:=gq.read
              rw [dU] at hread
              have hle:l.length≤cap:=by obtain ⟨_,_,q1,q2,_⟩:=hread; cases q1; exact q2
              obtain ⟨olds,hold,holds,_⟩:=hread.old P
              have bG:live S env.bx b:=by unfold live; rw [hb]; trivial
              have b6:w.there (μ b).b (μ b).o (μ b).n:=h.bE b _ hb
              have gK: ∀ i ∈ av S (.aT B e (List.append l y):Sy.V S.C),i=B:=fun i hi=>by simpa [av,aj] using hi
              rcases uu (ty:=o.type) hP ht hsrc hold holds.1 hle hlim with ⟨h0,hr⟩ | ⟨h0,hroom,hr⟩ | ⟨c',te,cells,hcap,eP,hcsz,hpre,hr⟩
              · have :y= []:=List.length_eq_zero_iff.1 h0
                subst this
                rw [← dU] at hr
                refine lB (V:= .aT B e (List.append l [])) (BX:= .tail) (L:=μ b) h hd hb bG hB (hrun hr) (aW.refl w (fun _ _=>False)) (fun _ _ h=>h.elim) (fun _ _ h=> .inr h) (fun vs=>⟨by simp,by simp⟩) (fun s' hl=>b6) (fun s' hl _=>⟨?_,fun _=>⟨ad,cap, ?_, ?_⟩⟩) gK hK
                · rw [show List.append l []=l from List.append_nil l]; exact gq.mono S hl
                · rw [show List.append l []=l from List.append_nil l]; exact dU
                · rw [show List.append l []=l from List.append_nil l,aL]; exact CE
              · have hnl:=hsrc.newsLen
                rcases CE with ⟨_,hc0,_⟩ | ⟨b0,off,rfl,hn,hlt⟩
                · omega
                · obtain ⟨q1,q2⟩:=hlt (by omega)
                  have hmul:y.length*Ty.sz S e≤(cap - l.length)*Ty.sz S e:=Nat.mul_le_mul_right _ (by omega)
                  have hsplit:(cap - l.length)*Ty.sz S e=y.length*Ty.sz S e+(cap - (l.length+y.length))*Ty.sz S e:=by rw [← Nat.add_mul]; congr 1; omega
                  have hsum:(l.length+y.length)*Ty.sz S e=l.length*Ty.sz S e+y.length*Ty.sz S e:=Nat.add_mul ..
                  rw [q1,q2] at b6
                  have eD:w.there b0 (off+l.length*Ty.sz S e) news.length:=jv b6 (Nat.le_refl _) (by omega)
                  have hr:=hr b0 off rfl eD
                  rw [← dU] at hr
                  refine lB (V:= .aT B e (List.append l y)) (BX:= .tail) (L:=⟨b0,off+(l.length+y.length)*Ty.sz S e,(cap - (l.length+y.length))*Ty.sz S e,0,false⟩) h hd hb bG hB (hrun hr) (aW.setCells w b0 _ news eD) (fun k o' hk=> ?_) (fun k o' hk=> .inr ?_) (fun vs=>⟨by simp,by simp⟩)
                   (fun s' hl=> ?_) (fun s' hl hm=>⟨?_,fun _=>⟨some ⟨b0,off,none⟩,cap, ?_, ?_⟩⟩) gK hK
                  · exact ⟨by rw [q1]; exact hk.1,by omega,by omega⟩
                  · obtain ⟨k1,k2,k3⟩:=hk
                    dsimp only at k1 k2 k3
                    exact ⟨by rw [q1]; exact k1,by omega,by omega⟩
                  · exact oz (jv b6 (by dsimp only; omega) (by dsimp only; omega)) eD
                  · have hv:a.eval xs= .slice (some ⟨b0,off,none⟩) l.length cap:=dU
                    obtain ⟨_,_,z1,z2,z3⟩:=h_ gq
                    rw [hv] at z1
                    cases z1
                    have hel: ∀ i x,l[i]? =some x→ ∃ ds,ds.length=Ty.sz S e∧At (w.setCells b0 (off+l.length*Ty.sz S e) news) s' b0 (off+i*Ty.sz S e) ds∧ ∃ n,ay S (w.setCells b0 (off+l.length*Ty.sz S e) news) s' n e x ds:=by
                     intro i x hi
                     rcases z3 with z3 | ⟨b1,o1,n,z4,z5⟩
                     · have :=(List.getElem?_eq_some_iff.1 hi).1; omega
                     · cases z4
                       obtain ⟨ds,d1,d2,d3⟩:=z5 i x hi
                       exact ⟨ds,d1,d2.later hl,n,d3.mono S hl (Nat.le_refl _)⟩
                    have hnew2:At (w.setCells b0 (off+l.length*Ty.sz S e) news) s' b0 (off+l.length*Ty.sz S e) news:=fun j v hj=>by
                     have hjl:=(List.getElem?_eq_some_iff.1 hj).1
                     have B8:=tQ eD j v hj
                     refine ⟨B8,hm _ _ (.inl ⟨by rw [q1],by omega,by omega⟩) (World.block_lt_of_cell? _ _ B8) fun hf=> ?_⟩
                     have :=hf.2.1
                     dsimp only at this
                     omega
                    have :=zH (cap:=cap) (b:=b0) (o':=off) (l:=List.append l y) (by rw [show (List.append l y).length=l.length+y.length from List.length_append]; exact hroom) (FQ hel ((hnews.later hl).at hnew2))
                    rw [show (List.append l y).length=l.length+y.length from List.length_append] at this
                    exact this
                  · show Value.slice _ _ _=_
                    rw [show (List.append l y).length=l.length+y.length from List.length_append]
                  · rw [show (List.append l y).length=l.length+y.length from List.length_append,aL]
                    exact .inr ⟨b0,off,rfl,rfl,fun _=>⟨rfl,rfl⟩⟩
              · rw [← dU] at hr
                obtain ⟨g1,g2,g3⟩:=BV (w:=w) (cells:=cells) (t:=te)
                have hsplit:c'*Ty.sz S e=(l.length+y.length)*Ty.sz S e+(c' - (l.length+y.length))*Ty.sz S e:=by rw [← Nat.add_mul]; congr 1; omega
                refine lB (V:= .aT B e (List.append l y)) (BX:= .tail) (L:=⟨w.heap.size,(l.length+y.length)*Ty.sz S e,(c' - (l.length+y.length))*Ty.sz S e,0,false⟩) h hd hb bG hB (hrun hr) (aW.grown (fun _ _=>False)) (fun _ _ h=>h.elim) (fun k o' hk=> .inl (Nat.le_of_eq hk.1.symm)) (fun vs=>⟨by simp,by simp⟩)
                 (fun s' hl=>jv g1 (Nat.zero_le _) (by dsimp only; omega)) (fun s' hl hm=>⟨?_,fun _=>⟨some ⟨w.heap.size,0,none⟩,c', ?_, ?_⟩⟩) gK hK
                · have hall:At (w.drew.alloc (.cells cells te)) s' w.heap.size 0 (olds++news):=fun j v hj=>by
                   have hjl:=(List.getElem?_eq_some_iff.1 hj).1
                   rw [List.length_append,holds.1,hnews.1, ← Nat.add_mul] at hjl
                   refine ⟨Dv g2 hpre j v hj,hm _ _ (.inr rfl) g3 fun hf=> ?_⟩
                   have :=hf.2.1
                   dsimp only at this
                   omega
                  have :=zH (cap:=c') (b:=w.heap.size) (o':=0) (l:=List.append l y) (by rw [show (List.append l y).length=l.length+y.length from List.length_append]; exact eP) (((holds.append hnews).later hl).at hall)
                  rw [show (List.append l y).length=l.length+y.length from List.length_append] at this
                  exact this
                · show Value.slice _ _ _=_
                  rw [show (List.append l y).length=l.length+y.length from List.length_append]
                · rw [show (List.append l y).length=l.length+y.length from List.length_append,aL]
                  exact .inr ⟨_,0,rfl,rfl,fun _=>⟨rfl,by dsimp only; omega⟩⟩
            · exact hl.elim
          · exact hl.elim
        · exact hl.elim
       | aH b=>
        simp only [mU] at hl
        split at hl
        · rename_i e' l hb
          have hb:=dF hb
          split at hl
          · rename_i l' hl'
            obtain ⟨e1,e2⟩:=di hl'
            cases e1
            dsimp only at e2
            subst e2
            split at hl
            · rename_i y hy
              obtain ⟨hg,rfl,rfl⟩:=eg hl
              have hlim:(l.length+y.length)*af t≤limit:=hg (gd ((l.length+y.length)*af t≤limit)) (by simp)
              have hB:=sY (.arr e (List.append l y)) (by simp)
              have hread:=yw h (.inl hb) hs
              obtain ⟨ad,cap,dU,dM⟩:=hs.2 e l (.inl hb)
              obtain ⟨news,hsrc,hnews⟩:=(wL h hx (nB y hy)).src hP qf
              rw [dU] at hread
              have hle:l.length≤cap:=dM.fits
              obtain ⟨olds,hold,holds,_⟩:=hread.old P
              have bG:live S env.bx b:=by unfold live; rw [hb]; trivial
              obtain ⟨b1,b2,b3,b6,b5⟩:=h.bE b _ hb
              have gK: ∀ i ∈ av S (.aH B:Sy.V S.C),i=B:=fun i hi=>by simpa [av,aj] using hi
              have Ie:=dM.gG
              have cv: ∀ {w':World} {s':St} {μ':Nat→Loc} {L:Loc} {v:Value} {lO:Option Addr} {cap':Nat},v= .slice lO (l.length+y.length) cap'→kq L lO (l.length+y.length) cap' (Ty.sz S e)→μ' B=L→
               RV P S w' s' μ' (ah (ah env.bx b (some .dead)) B (some (.arr e (List.append l y)))) (.aH B) v:=by
               rintro w' s' μ' L v lO cap' rfl hok hμ
               refine ⟨⟨_,_,_,rfl⟩,fun e2 l2 h2=> ?_⟩
               rw [aL] at h2
               rcases h2 with h2 | h2
               · cases h2
                 rw [hμ,show (List.append l y).length=l.length+y.length from List.length_append]
                 exact ⟨lO,cap',rfl,hok⟩
               · cases h2
              rcases uu (ty:=o.type) hP ht hsrc hold holds.1 hle hlim with ⟨h0,hr⟩ | ⟨h0,hroom,hr⟩ | ⟨c',te,cells,hcap,eP,hcsz,hpre,hr⟩
              · have :y= []:=List.length_eq_zero_iff.1 h0
                subst this
                rw [← dU] at hr
                refine lB (V:= .aH B) (BX:= .arr e (List.append l [])) (L:=μ b) h hd hb bG hB (hrun hr) (aW.refl w (fun _ _=>False)) (fun _ _ h=>h.elim) (fun _ _ h=> .inr h) (fun vs=>⟨by simp,by simp⟩) (fun s' hl=> ?_) (fun s' hl _=>cv dU dM (aL _ _ _)) gK hK
                rw [show List.append l []=l from List.append_nil l]
                refine ⟨b1,b2,b3,b6,fun i x hi=> ?_⟩
                obtain ⟨ds,d1,d2,n,d3⟩:=b5 i x hi
                exact ⟨ds,d1,d2,n,d3.mono S hl (Nat.le_refl _)⟩
              · have hnl:=hsrc.newsLen
                have iA:(μ b).nil=false:=by
                 cases hn:(μ b).nil with
                 | false=>rfl
                 | true=>have :=dM.isNil hn; omega
                have had:=dM.addr
                rw [iA] at had
                have hmul:(l.length+y.length)*Ty.sz S e≤(μ b).cap*Ty.sz S e:=Nat.mul_le_mul_right _ (by omega)
                rw [Nat.add_mul] at hmul
                have eD:w.there (μ b).b ((μ b).o+l.length*Ty.sz S e) news.length:=jv b6 (by omega) (by omega)
                have hr:=hr _ _ had eD
                rw [← dU] at hr
                refine lB (V:= .aH B) (BX:= .arr e (List.append l y)) (L:=μ b) h hd hb bG hB (hrun hr) (aW.setCells w (μ b).b _ news eD) (fun k o' hk=>⟨hk.1,by omega,by omega⟩) (fun k o' hk=> .inr hk) (fun vs=>⟨by simp,by simp⟩)
                 (fun s' hl=>⟨b1,b2, ?_,oz b6 eD, ?_⟩) (fun s' hl hm=>cv (cap':=cap) rfl ?_ (aL _ _ _)) gK hK
                · rw [show (List.append l y).length=l.length+y.length from List.length_append]; omega
                · refine oV (fun i x hi=> ?_) ((hnews.later hl).row (tQ eD))
                  obtain ⟨ds,d1,d2,n,d3⟩:=b5 i x hi
                  refine ⟨ds,d1,nV d2 (.inr (.inl ?_)),n,d3.mono S hl (Nat.le_refl _)⟩
                  have nG:=(List.getElem?_eq_some_iff.1 hi).1
                  have :(i+1)*Ty.sz S e≤l.length*Ty.sz S e:=Nat.mul_le_mul_right _ (by omega)
                  rw [Nat.add_mul,Nat.one_mul] at this
                  omega
                · exact ⟨dM.addr,dM.gG,dM.cells,dM.isNil,hroom⟩
              · rw [← dU] at hr
                obtain ⟨g1,g2,g3⟩:=BV (w:=w) (cells:=cells) (t:=te)
                refine lB (V:= .aH B) (BX:= .arr e (List.append l y)) (L:=⟨w.heap.size,0,c'*Ty.sz S e,c',false⟩) h hd hb bG hB (hrun hr) (aW.grown (fun _ _=>False)) (fun _ _ h=>h.elim) (fun k o' hk=> .inl (Nat.le_of_eq hk.1.symm)) (fun vs=>⟨by simp,by simp⟩)
                 (fun s' hl=>⟨rfl,(fun h=>by cases h), ?_,by show World.there _ w.heap.size 0 (c'*Ty.sz S e); rw [← hcsz]; exact g1, ?_⟩) (fun s' hl hm=>cv (cap':=c') rfl ⟨rfl,rfl,rfl,(fun h=>by cases h),eP⟩ (aL _ _ _)) gK hK
                · rw [show (List.append l y).length=l.length+y.length from List.length_append]; exact eP
                · exact ((holds.append hnews).later hl).row (Dv g2 hpre)
            · exact hl.elim
          · exact hl.elim
        · exact hl.elim
       | pre b n=>
        simp only [mU] at hl
        split at hl
        · rename_i e' l b' i m hb _
          have hb:=dF hb
          cases xA:Nat.beq b' b with
          | false=>rw [xA] at hl; exact hl.elim
          | true=>
           rw [xA,cond_true] at hl
           have :=Nat.eq_of_beq_eq_true xA
           subst this
           split at hl
           · rename_i l' hl'
             obtain ⟨e1,e2⟩:=di hl'
             cases e1
             dsimp only at e2
             subst e2
             obtain ⟨hg,rfl,rfl⟩:=eg hl
             have hni:n≤i:=hg (gd (n≤i)) (by simp)
             have IL:List.length l*af t≤limit:=hg (gd (List.length l*af t≤limit)) (by simp)
             have hB:=sY (.arr e (jf l n i m)) (by simp)
             obtain ⟨hn0,hnl,ad,cap,dU,dM⟩:=hs.2 e l hb
             obtain ⟨hi0,hm0,xJ,FM,cap2,xX,IV,HY⟩:=hx.2 e l hb
             obtain ⟨b1,b2,b3,b6,b5⟩:=h.bE b' _ hb
             have Ie:=dM.gG
             have bG:live S env.bx b':=by unfold live; rw [hb]; trivial
             obtain ⟨y,hy⟩: ∃ y,y=(List.drop i.toNat l).take m.toNat:=⟨_,rfl⟩
             have Jm:y.length=m.toNat:=by rw [hy,List.length_take,List.length_drop]; omega
             have Jk: ∀ k x,y[k]? =some x→l[i.toNat+k]? =some x:=fun k x hk=>by
              rw [hy,List.getElem?_take] at hk
              split at hk
              · rwa [List.getElem?_drop] at hk
              · cases hk
             have hrd:Read S w (aC S w0 M0 s0 env.bx μ w) e y (a.eval xx):=by
              refine ⟨FM,cap2,by rw [Jm]; exact xX,by omega, ?_⟩
              rcases HY with h0 | h0
              · exact .inl (by omega)
              · refine .inr ⟨_,_,h0,fun k x hk=> ?_⟩
                obtain ⟨ds,d1,d2,q,d3⟩:=b5 _ x (Jk k x hk)
                exact ⟨ds,d1,by rw [show (μ b').o+i.toNat*Ty.sz S e+k*Ty.sz S e=(μ b').o+(i.toNat+k)*Ty.sz S e from by rw [Nat.add_mul]; omega]; exact d2,q,d3⟩
             have hpl:(List.take n.toNat l).length=n.toNat:=by rw [List.length_take]; omega
             have I5:Read S w (aC S w0 M0 s0 env.bx μ w) e (List.take n.toNat l) (.slice ad (List.take n.toNat l).length cap):=by
              refine ⟨ad,cap,rfl,by rw [hpl]; exact dM.fits, ?_⟩
              by_cases h0:n.toNat=0
              · exact .inl (by rw [hpl]; exact h0)
              · have iA:(μ b').nil=false:=by
                 cases hn:(μ b').nil with
                 | false=>rfl
                 | true=>have :=dM.isNil hn; have :=dM.fits; omega
                have had:=dM.addr
                rw [iA] at had
                refine .inr ⟨_,_,had,fun k x hk=> ?_⟩
                rw [List.getElem?_take] at hk
                split at hk
                · exact b5 k x hk
                · cases hk
             obtain ⟨news,hsrc,hnews⟩:=hrd.src hP qf
             obtain ⟨olds,hold,holds,_⟩:=I5.old P
             rw [hpl] at hold
             have hol:=holds.1
             rw [hpl] at hol
             have hlim:(n.toNat+y.length)*af t≤limit:=Nat.le_trans (Nat.mul_le_mul_right _ (by omega)) IL
             have gK: ∀ j ∈ av S (.pre B (n+m):Sy.V S.C),j=B:=fun j hj=>by simpa [av,aj] using hj
             have hml:=Kl l hn0 hni hm0 xJ
             have hnm:(n+m).toNat=n.toNat+y.length:=by omega
             have cv: ∀ {w':World} {s':St} {μ':Nat→Loc} {v:Value},v= .slice ad (n.toNat+y.length) cap→μ' B=μ b'→
              RV P S w' s' μ' (ah (ah env.bx b' (some .dead)) B (some (.arr e (jf l n i m)))) (.pre B (n+m)) v:=by
              rintro w' s' μ' v rfl hμ
              refine ⟨⟨_,_,_,rfl⟩,fun e2 l2 h2=> ?_⟩
              rw [aL] at h2
              cases h2
              rw [hμ,hml]
              exact ⟨by omega,by omega,ad,cap,by rw [hnm],dM.addr,dM.gG,dM.cells,dM.isNil,by omega⟩
             have Cs:jf l n i m=(List.take n.toNat l++y)++List.drop (n.toNat+y.length) l:=by
              unfold jf; rw [hnm,hy]
             rcases uu (ty:=o.type) hP ht hsrc hold hol dM.fits hlim with ⟨h0,hr⟩ | ⟨h0,hroom,hr⟩ | ⟨c',te,cells,hcap,eP,hcsz,hpre,hr⟩
             · have hy0:y= []:=List.length_eq_zero_iff.1 h0
               rw [← dU] at hr
               refine lB (V:= .pre B (n+m)) (BX:= .arr e (jf l n i m)) (L:=μ b') h hd hb bG hB (hrun hr) (aW.refl w (fun _ _=>False)) (fun _ _ h=>h.elim) (fun _ _ h=> .inr h) (fun vs=>⟨by simp,by simp⟩) (fun s' hl=> ?_) (fun s' hl _=>cv (by rw [dU,h0]; rfl) (aL _ _ _)) gK hK
               have :jf l n i m=l:=by rw [Cs,hy0]; simp
               rw [this]
               refine ⟨b1,b2,b3,b6,fun i x hi=> ?_⟩
               obtain ⟨ds,d1,d2,n,d3⟩:=b5 i x hi
               exact ⟨ds,d1,d2,n,d3.mono S hl (Nat.le_refl _)⟩
             · have Pa:=hsrc.newsLen
               have iA:(μ b').nil=false:=by
                cases hn:(μ b').nil with
                | false=>rfl
                | true=>have :=dM.isNil hn; omega
               have had:=dM.addr
               rw [iA] at had
               have hmul:(n.toNat+y.length)*Ty.sz S e≤(μ b').cap*Ty.sz S e:=Nat.mul_le_mul_right _ (by omega)
               have hsum:(n.toNat+y.length)*Ty.sz S e=n.toNat*Ty.sz S e+y.length*Ty.sz S e:=Nat.add_mul ..
               have eD:w.there (μ b').b ((μ b').o+n.toNat*Ty.sz S e) news.length:=jv b6 (by omega) (by omega)
               have hr:=hr _ _ had eD
               rw [← dU] at hr
               refine lB (V:= .pre B (n+m)) (BX:= .arr e (jf l n i m)) (L:=μ b') h hd hb bG hB (hrun hr) (aW.setCells w (μ b').b _ news eD) (fun k o' hk=>⟨hk.1,by omega,by omega⟩) (fun k o' hk=> .inr hk) (fun vs=>⟨by simp,by simp⟩)
                (fun s' hl=>⟨b1,b2,by rw [hml]; exact b3,oz b6 eD, ?_⟩) (fun s' hl hm=>cv rfl (aL _ _ _)) gK hK
               rw [Cs]
               refine oV (oV (fun k x hk=> ?_) ?_) (fun k x hk=> ?_)
               · rw [List.getElem?_take] at hk
                 split at hk
                 · rename_i hkn
                   obtain ⟨ds,d1,d2,q,d3⟩:=b5 k x hk
                   refine ⟨ds,d1,nV d2 (.inr (.inl ?_)),q,d3.mono S hl (Nat.le_refl _)⟩
                   have :(k+1)*Ty.sz S e≤n.toNat*Ty.sz S e:=Nat.mul_le_mul_right _ (by omega)
                   rw [Nat.add_mul,Nat.one_mul] at this
                   omega
                 · cases hk
               · rw [hpl]
                 exact (hnews.later hl).row (tQ eD)
               · rw [List.getElem?_drop] at hk
                 obtain ⟨ds,d1,d2,q,d3⟩:=b5 _ x hk
                 rw [List.length_append,hpl,Nat.add_assoc, ← Nat.add_mul]
                 refine ⟨ds,d1,nV d2 (.inr (.inr ?_)),q,d3.mono S hl (Nat.le_refl _)⟩
                 have :(n.toNat+y.length)*Ty.sz S e≤(n.toNat+y.length+k)*Ty.sz S e:=Nat.mul_le_mul_right _ (by omega)
                 omega
             · omega
           · exact hl.elim
        · exact hl.elim
       | b7=>
        simp only [mU] at hl
        split at hl
        · rename_i y hy
          obtain ⟨hg,rfl,rfl⟩:=eg hl
          have hlim:y.length*af t≤limit:=hg (gd (y.length*af t≤limit)) (by simp)
          have hB:=sY (.arr e y) (by simp)
          obtain ⟨news,hsrc,hnews⟩:=(wL h hx (nB y hy)).src hP qf
          have dU:a.eval xs= .slice none 0 0:=hs
          have hold:(Builtin.firstCells (Ty.sz S e) 0 (.slice none 0 0)).run P w.drew= .ok (#[]:Array Value) w.drew:=run_firstCells_none _ _ _ _ _
          rcases uu (olds:= []) (ty:=o.type) hP ht hsrc hold (by simp) (Nat.le_refl 0) (by rw [Nat.zero_add]; exact hlim) with ⟨h0,hr⟩ | ⟨h0,hroom,hr⟩ | ⟨c',te,cells,hcap,eP,hcsz,hpre,hr⟩
          · have :y= []:=List.length_eq_zero_iff.1 h0
            subst this
            rw [← dU] at hr
            refine lA (i:=B) (B:= .arr e []) (V:= .aH B) (L:=⟨0,0,0,0,true⟩) h (hrun hr) hd (aW.refl w _) hB (fun b o' hf=> ?_) (fun hl _ h3=>⟨⟨by simp,fun _=>rfl,Nat.le_refl _,fun j hj=>absurd hj (Nat.not_lt_zero j),fun i x hi=>by simp at hi⟩,⟨⟨none,0,0,dU⟩,fun e' l' hb=> ?_⟩⟩)
             (fun vs hvs=>by rcases hvs with hvs | hvs <;> cases hvs) (fun j hj=> .inl (by simpa [av,aj] using hj)) hK
            · have h1:=hf.2.1; have h2:=hf.2.2; simp at h2
            · rw [aL] at hb
              rcases hb with hb | hb
              · cases hb
                rw [aL]
                exact ⟨none,0,dU,rfl,rfl,by simp,fun _=>rfl,Nat.le_refl _⟩
              · cases hb
          · omega
          · rw [← dU] at hr
            rw [Nat.zero_add] at eP hr
            exact z6 (us:= []) (t:=te) (e:=e) (l:=y) (cap:=c') (cells:=cells) (cs:=news) (w1:=w.drew) h hd (Tk.refl S _) hB rfl ⟨rfl,rfl,rfl⟩ (hrun hr) eP hcsz hnews hpre hK
        · exact hl.elim
       | _=>exact hl.elim
     · exact hl.elim
   · exact hl.elim
 · exact hl.elim
theorem GL {α:Type} (z:α) (l:List α) {i m:Int} (h3:i.toNat+m.toNat≤l.length) (h0:0≤i) (h1:0≤m):(o_ z l i m).length=l.length:=by
 unfold o_
 simp only [List.length_append,List.length_take,List.length_drop,List.length_replicate]
 omega
theorem Mj (hP:aO P S af) {t:Nat} {e:Ty} (ht:S.ty t=some (.sl e)) {ty:Nat} {ad:Option Addr} {n cap b o':Nat} {news:List Value} (had:n=0∧news= []∨ad=some ⟨b,o',none⟩)
 {te:Nat} {ie:TypeInfo} {z:Value} (hu:P.underlying t=some (.slice te)) (hz: ∀ w,(zeroValue te).run P w= .ok z w) (hn:(Builtin.zeroCells z.cells n).toList=news) (b6:w.there b o' news.length) (h1: ∀ c ∈ news,c.oneCell'=true):
 (Builtin.clear_ #[t] ty #[.slice ad n cap]).run P w= .ok (.tuple #[]) (w.setCells b o' news):=by
 rcases Nat.eq_zero_or_pos n with h0 | h0
 · subst h0
   have :news= []:=by rw [← hn]; simp [Builtin.zeroCells]
   subst this
   cases ad <;> simp [Builtin.clear_,run_underlying hu,MJ]
 · rcases had with ⟨h2,_⟩ | h2
   · omega
   · subst h2
     have hst:=run_storeCells_cells (P:=P) b o' news 0 w (by simpa using fun j hj=>(b6 j hj).1) (by simpa using fun j hj=>(b6 j hj).2) h1
     simp only [Nat.add_zero] at hst
     obtain ⟨m,rfl⟩: ∃ m,n=m+1:=⟨n - 1,by omega⟩
     simp [Builtin.clear_,run_underlying hu,hz,hn,hst]
theorem GK (hP:aO P S af) (h:Inv P S w0 M0 s0 dq env a w μ) (hd: ∀ d,o.dst=some d→d<a.tmps.size) {c:Call} (ho:o.op= .call c) (hc:c.callee= .builtin .clear) {args:List (Sy.V S.C)} {ids:List Nat}
 (hargs:c.args.toList.mapM (aK S env.tm)=some args)
 (hl:(match args,c.argTypes.toList with
  | [v],[t]=>match dG S t with
   | some e=>wH S e (restrict S env.bx ids) v
   | none=> .fail
  | _,_=> .fail).leaf (V,us)) (hK:Goal P S w0 M0 s0 dq env a o.dst V us K):o.wp P a w K Q:=by
 split at hl
 · rename_i Vs t xQ
   split at hl
   · rename_i e het
     have hone: ∃ x,c.args= #[x]∧aK S env.tm x=some Vs:=by
      have hca:c.args=c.args.toList.toArray:=by simp
      cases e:c.args.toList with
      | nil=>rw [e] at hargs; cases hargs
      | cons x r=>
       rw [e] at hargs
       obtain ⟨y,zs,h1,h2,h3⟩:=je hargs
       cases h3
       cases r with
       | nil=>exact ⟨x,by rw [hca,e],h1⟩
       | cons x' r'=>
        obtain ⟨y',zs',h4,h5,h6⟩:=je h2
        cases h6
     obtain ⟨x,H7,hex⟩:=hone
     obtain ⟨hx,_⟩:=bg h hex
     have ht:=jI het
     have cC:c.argTypes= #[t]:=by
      have :c.argTypes=c.argTypes.toList.toArray:=by simp
      rw [this,xQ]
     unfold wH at hl
     split at hl
     · rename_i b i m _
       split at hl
       · rename_i e' l hb
         have hb:=dF hb
         split at hl
         · rename_i l' hl'
           obtain ⟨e1,e2⟩:=di hl'
           cases e1
           dsimp only at e2
           subst e2
           obtain ⟨rfl,rfl⟩:=bh hl
           obtain ⟨hi0,hm0,xJ,ad,cap,xX,IV,had⟩:=hx.2 e l hb
           obtain ⟨b1,b2,b3,b6,b5⟩:=h.bE b _ hb
           have bG:live S env.bx b:=by unfold live; rw [hb]; trivial
           obtain ⟨te,ie,z,hu,hte,hie,hby,eu,_⟩:=hP.sl ht
           obtain ⟨⟨i',z,h1,h2,h3,h4,h5⟩,_⟩:=hP.ty te _ hte
           obtain ⟨q,hq⟩:=Ab (w:=w) hP hte (aC S w0 M0 s0 env.bx μ w)
           obtain ⟨x1,x2,x3⟩:=iX (P:=P) hP.toct μ env.bx hq
           have Cy:=rE x2 x1
           rw [← h5] at hq Cy
           have Jo: ∀ w,(zeroValue te).run P w= .ok z w:=fun w=>by simp [zeroValue,typeInfo,h1,h3]
           have hzs:z.cells.size=Ty.sz S e:=by have :=hq.length S; simpa using this
           obtain ⟨news,hnews⟩: ∃ news,news=(Builtin.zeroCells z.cells m.toNat).toList:=⟨_,rfl⟩
           have B_:cw w (aC S w0 M0 s0 env.bx μ w) e (List.replicate m.toNat (Ty.zero S e)) news:=by
            have :=cw.replicate hq m.toNat
            rw [hnews]
            have e3:Builtin.zeroCells z.cells m.toNat=madeCells z.cells (m.toNat*Ty.sz S e):=by
             unfold Builtin.zeroCells madeCells
             rw [hzs]
            rw [e3]; exact this
           have hnl:news.length=m.toNat*Ty.sz S e:=by have :=B_.1; rwa [List.length_replicate] at this
           have hsum:(i.toNat+m.toNat)*Ty.sz S e=i.toNat*Ty.sz S e+m.toNat*Ty.sz S e:=Nat.add_mul ..
           have hmul:(i.toNat+m.toNat)*Ty.sz S e≤(μ b).cap*Ty.sz S e:=Nat.mul_le_mul_right _ (by omega)
           have eD:w.there (μ b).b ((μ b).o+i.toNat*Ty.sz S e) news.length:=jv b6 (by omega) (by omega)
           have hno: ∀ c ∈ news,c.oneCell'=true:=by
            intro c hc
            rw [hnews] at hc
            unfold Builtin.zeroCells at hc
            simp only [Array.toList_map,List.mem_map,Array.toList_range,List.mem_range] at hc
            obtain ⟨k,hk,rfl⟩:=hc
            have hp:0<z.cells.size:=by
             rcases Nat.eq_zero_or_pos z.cells.size with h0 | h0
             · rw [h0,Nat.mul_zero] at hk; omega
             · exact h0
            have hlt:=Nat.mod_lt k hp
            rw [getElem!_pos z.cells _ hlt]
            exact Cy _ (by simp)
           have hrun:(execOp a.eval o).run P w= .ok (.value (.tuple #[])) (w.setCells (μ b).b ((μ b).o+i.toNat*Ty.sz S e) news):=by
            have hr:=Mj (P:=P) (w:=w) (ty:=o.type) hP ht (ad:=ad) (n:=m.toNat) (cap:=cap) (b:=(μ b).b) (o':=(μ b).o+i.toNat*Ty.sz S e) (news:=news) (te:=te) (ie:=ie) (z:=z) (had.imp (fun h0=>⟨h0,List.length_eq_zero_iff.1 (by rw [hnl,h0,Nat.zero_mul])⟩) id) hu Jo hnews.symm eD hno
            rw [← xX] at hr
            unfold execOp
            simp only [ho]
            simp [resolve,hc,H7,cC,invoke,builtin,hr]
           have hcl:=GL (Ty.zero S e) l xJ hi0 hm0
           have hI:=h.write (B':= .arr e (o_ (Ty.zero S e) l i m)) hb bG (fun _ e=>nomatch e) (o':=(μ b).o+i.toNat*Ty.sz S e) (vals:=news) (by omega) (by omega) ⟨rfl,rfl,hcl⟩ (fun hl jL=>⟨b1,b2,by rw [hcl]; exact b3,oz b6 eD, ?_⟩) (fun ws fF=>by rcases fF with fF | fF <;> cases fF)
           · unfold Oper.wp
             rw [hrun]
             refine hK _ _ μ (hI.put hd (V:= .fy []) (v:= .tuple #[]) ⟨#[],rfl,rfl⟩ (by simp [av])) ?_
             cases o.dst <;> simp [Act.put]
           · have hpl:(List.take i.toNat l).length=i.toNat:=by rw [List.length_take]; omega
             unfold o_
             refine oV (oV (fun k x hk=> ?_) ?_) (fun k x hk=> ?_)
             · rw [List.getElem?_take] at hk
               split at hk
               · rename_i hkn
                 obtain ⟨ds,d1,d2,q,d3⟩:=b5 k x hk
                 refine ⟨ds,d1,nV d2 (.inr (.inl ?_)),q,d3.mono S hl (Nat.le_refl _)⟩
                 have :(k+1)*Ty.sz S e≤i.toNat*Ty.sz S e:=Nat.mul_le_mul_right _ (by omega)
                 rw [Nat.add_mul,Nat.one_mul] at this
                 omega
               · cases hk
             · rw [hpl]
               exact (B_.later hl).row (tQ eD)
             · rw [List.getElem?_drop] at hk
               obtain ⟨ds,d1,d2,q,d3⟩:=b5 _ x hk
               rw [List.length_append,hpl,List.length_replicate,Nat.add_assoc, ← Nat.add_mul]
               have ID:(i+m).toNat=i.toNat+m.toNat:=by omega
               rw [ID] at d2
               refine ⟨ds,d1,nV d2 (.inr (.inr ?_)),q,d3.mono S hl (Nat.le_refl _)⟩
               have :(i.toNat+m.toNat)*Ty.sz S e≤(i.toNat+m.toNat+k)*Ty.sz S e:=Nat.mul_le_mul_right _ (by omega)
               omega
         · exact hl.elim
       · exact hl.elim
     · exact hl.elim
   · exact hl.elim
 · exact hl.elim
end
end Go.Sy
namespace Go.Sy
section
variable {P:Program} {S:aN} {af:Nat→Nat}
theorem e9.length {w:World} {s:St} : ∀ {M:St} {cs:List CK} {x:bl S.C cs} {vs:List Value},e9 S w s M cs x vs→vs.length=CK.bT S cs
 | _,[],_,_,h=>by rw [h.2]; rfl
 | _,c::cs,_,_,⟨M1,M2,v1,v2,h1,h2,h3,h4,h5⟩=>by subst h2; rw [List.length_append,h3,e9.length h5]; rfl
theorem yE (hS:ct S) {w:World} {s M:St} (gk id:Nat) {cs:List CK} {x:bl S.C cs} {v:Value} (hne: ∀ i,id≤i→i<(bf S id cs x).2.2→i≠gk) (L:Loc) (hv:v= .pointer (some ⟨L.b,L.o,none⟩)) (hn:L.n=CK.bT S cs)
 (h:c7 S w s M cs x v):
 ∃ lam,lam gk=L∧id≤(bf S id cs x).2.2∧bO P S w s (fun i=>i=gk∨(id≤i∧i<(bf S id cs x).2.2)) ((gk, .cells (bf S id cs x).1)::(bf S id cs x).2.1) lam M:=by
 obtain ⟨b,o,ds,M',fE,b6,gN,hM,hcs⟩:=h
 rw [fE] at hv
 cases hv
 obtain ⟨le,l2,g2,s2,r2,j5⟩:=yx (P:=P) hS cs id hcs
 have hlen:=e9.length hcs
 have hne: ∀ u ∈ (bf S id cs x).2.1,u.1≠gk:=fun u hu=>hne _ (g2.dX u hu).1 (g2.dX u hu).2
 let lam:Nat→Loc:=fun i=>if i=gk then L else l2 i
 have e1:lam gk=L:=if_pos rfl
 have e2: ∀ u ∈ (bf S id cs x).2.1,lam u.1=l2 u.1:=fun u hu=>if_neg (hne u hu)
 have hag: ∀ μ bx,Agree ((gk, .cells (bf S id cs x).1)::(bf S id cs x).2.1) lam μ bx→Agree (bf S id cs x).2.1 l2 μ bx:=
  fun μ bx h u hu=>⟨(h u (by simp [hu])).1,(h u (by simp [hu])).2.trans (e2 u hu)⟩
 refine ⟨lam,e1,le,⟨?_, ?_, ?_, ?_, ?_, ?_, ?_⟩⟩
 · intro u hu
   rcases List.mem_cons.1 hu with rfl | hu
   · exact .inl rfl
   · exact .inr (g2.dX u hu)
 · intro u hu u' aI he
   rcases List.mem_cons.1 hu with rfl | hu <;> rcases List.mem_cons.1 aI with rfl | aI
   · rfl
   · exact absurd he.symm (hne u' aI)
   · exact absurd he (hne u hu)
   · exact g2.one u hu u' aI he
 · intro μ bx ha u hu
   rcases List.mem_cons.1 hu with rfl | hu
   · show RB P S w s μ bx (lam gk) (.cells _)
     rw [e1]
     have hr:=j5 μ bx (hag μ bx ha)
     exact ⟨s2,by rw [hn, ← hlen]; exact aF.length P S hr,by rw [hn, ← hlen]; exact b6,ds,gN,hr⟩
   · rw [e2 u hu]
     exact g2.rb μ bx (hag μ bx ha) u hu
 · intro bx u hu hb
   rcases List.mem_cons.1 hu with rfl | hu
   · unfold live; rw [hb]; trivial
   · exact g2.lv bx u hu hb
 · intro b' o'
   rw [hM.1 b' o',g2.aB]
   constructor
   · rintro (h | ⟨u,hu,hf⟩)
     · refine ⟨_,List.mem_cons_self, ?_⟩
       show (lam gk).aB b' o'
       rw [e1]; exact ⟨h.1,h.2.1,by rw [hn, ← hlen]; exact h.2.2⟩
     · exact ⟨u,by simp [hu],by rw [e2 u hu]; exact hf⟩
   · rintro ⟨u,hu,hf⟩
     rcases List.mem_cons.1 hu with rfl | hu
     · have hf:(lam gk).aB b' o':=hf
       rw [e1] at hf; exact .inl ⟨hf.1,hf.2.1,by rw [hlen, ← hn]; exact hf.2.2⟩
     · rw [e2 u hu] at hf; exact .inr ⟨u,hu,hf⟩
 · intro u hu u' aI hn' b' o' hf hf'
   rcases List.mem_cons.1 hu with rfl | hu <;> rcases List.mem_cons.1 aI with rfl | aI
   · exact hn' rfl
   · have hf:(lam gk).aB b' o':=hf
     rw [e1] at hf; rw [e2 u' aI] at hf'
     exact hM.2 b' o' ⟨hf.1,hf.2.1,by rw [hlen, ← hn]; exact hf.2.2⟩ ((g2.aB b' o').2 ⟨u',aI,hf'⟩)
   · have hf':(lam gk).aB b' o':=hf'
     rw [e1] at hf'; rw [e2 u hu] at hf
     exact hM.2 b' o' ⟨hf'.1,hf'.2.1,by rw [hlen, ← hn]; exact hf'.2.2⟩ ((g2.aB b' o').2 ⟨u,hu,hf⟩)
   · rw [e2 u hu] at hf; rw [e2 u' aI] at hf'
     exact g2.cG u hu u' aI hn' b' o' hf hf'
 · intro u hu vs hvs v hv j hj
   rcases List.mem_cons.1 hu with rfl | hu
   · rcases hvs with hvs | hvs
     · cases hvs
       obtain ⟨u',aI,he⟩:=r2 v hv j hj
       exact ⟨u',by simp [aI],he⟩
     · cases hvs
   · obtain ⟨u',aI,he⟩:=g2.ref u hu vs hvs v hv j hj
     exact ⟨u',by simp [aI],he⟩
theorem Kk (hS:ct S) {w:World} {s M:St} (id:Nat) {k:K} {x:k.den S.C} {v:Value} (h:iR P S w s M k x v) {κ:Sy.V S.C×aG S.C×Nat→Tr (Sy.V S.C×aG S.C)} {p:Sy.V S.C×aG S.C} (hl:(C5 S id k x κ).leaf p):
 ∃ q,(κ q).leaf p∧id≤q.2.2∧q.2.2≤id+jQ k∧ ∃ lam,bO P S w s (fun i=>id≤i∧i<q.2.2) q.2.1 lam M∧(∀ j ∈ aj S q.1, ∃ u ∈ q.2.1,u.1=j)∧
  ∀ μ bx,Agree q.2.1 lam μ bx→bn P S w s μ bx q.1 v:=by
 have kg: ∀ (M:St) (n:Nat),fA M→bO P S w s (fun i=>n≤i∧i<n) ([]:aG S.C) (fun _=>⟨0,0,0,0,true⟩) M:=fun M n hM=>bO.nil hM _
 have obj: ∀ (cs:List CK) (y:bl S.C cs),c7 S w s M cs y v→(κ (.ptr id 0,(id, .cells (bf S (id+1) cs y).1)::(bf S (id+1) cs y).2.1,(bf S (id+1) cs y).2.2)).leaf p→
  ∃ q,(κ q).leaf p∧id≤q.2.2∧q.2.2≤id+(1+cs.foldl oneMore 0)∧ ∃ lam,bO P S w s (fun i=>id≤i∧i<q.2.2) q.2.1 lam M∧(∀ j ∈ aj S q.1, ∃ u ∈ q.2.1,u.1=j)∧
  ∀ μ bx,Agree q.2.1 lam μ bx→bn P S w s μ bx q.1 v:=by
  intro cs y hy hl
  obtain ⟨lam,g,le,rv⟩:=nN (P:=P) hS id hy
  refine ⟨_,hl,Nat.le_of_lt le, ?_,lam,g,fun j hj=> ?_,rv⟩
  · have :=lY cs (id+1) y 0
    show (bf S (id+1) cs y).2.2≤_
    omega
  · simp [aj] at hj
    subst hj
    exact ⟨_,List.mem_cons_self,rfl⟩
 cases k with
 | val c=>
  obtain ⟨h1,h2⟩:=h
  cases c with
  | data t=>
   obtain ⟨hM,n,hn⟩:=h1
   exact ⟨_,hl,Nat.le_refl _,Nat.le_refl _,_,kg M id hM,fun j hj=>by simp [aj] at hj,fun μ bx _=>⟨h2,n,hn⟩⟩
  | aT e=>
   obtain ⟨le,lam,g,s1,r1,rv⟩:=tL (P:=P) hS id h1
   refine ⟨_,hl,Nat.le_succ _,Nat.le_refl _,lam,g,fun j hj=>r1 (.aT id e x) (by simp [bR]) j hj,fun μ bx ha=> ?_⟩
   obtain ⟨c,r,hc,hv,hr⟩:=rv μ bx ha
   cases hr
   rw [kF hc h2]
   exact hv
  | aH e=>
   obtain ⟨le,lam,g,s1,r1,rv⟩:=tL (P:=P) hS id h1
   refine ⟨_,hl,Nat.le_succ _,Nat.le_refl _,lam,g,fun j hj=>r1 (.aH id) (by simp [bR]) j hj,fun μ bx ha=> ?_⟩
   obtain ⟨c,r,hc,hv,hr⟩:=rv μ bx ha
   cases hr
   rw [kF hc h2]
   exact hv
 | obj cs=>exact obj cs x h hl
 | opt cs=>
  rcases hl with ⟨hx,hl⟩ | ⟨y,hx,hl⟩
  · subst hx
    exact ⟨_,hl,Nat.le_refl _,Nat.le_add_right _ _,_,kg M id h.1,fun j hj=>by simp [aj] at hj,fun μ bx _=>h.2⟩
  · subst hx
    exact obj cs y h hl
 | bD t cs=>exact hl.elim
 | err=>exact ⟨_,hl,Nat.le_refl _,Nat.le_refl _,_,kg M id h.1,fun j hj=>by simp [aj] at hj,fun μ bx _=>h.2⟩
 | aV=>
  have h:rV S w M x v:=h
  obtain ⟨b,R,hb,_⟩:=Iff.mp Iff.rfl h
  obtain ⟨lam,e,g⟩:=vW (P:=P) (s:=s) id (id+1) (by omega) ⟨b,0,2,0,false⟩ rfl rfl hb h
  refine ⟨_,hl,by show id≤id+2; omega,Nat.le_refl _,lam,g.weaken fun i hi=>by show id≤i∧i<id+2; omega,fun j hj=> ?_,fun μ bx ha=> ?_⟩
  · simp [aj] at hj
    subst hj
    exact ⟨_,List.mem_cons_self,rfl⟩
  · have a1:=(ha (id, .aV (id+1)) (by simp)).2
    show v= .pointer (some ⟨(μ id).b,(μ id).o+0,none⟩)
    rw [hb,show μ id=lam id from a1,e]
 | nil=>exact ⟨_,hl,Nat.le_refl _,Nat.le_refl _,_,kg M id h.1,fun j hj=>by simp [aj] at hj,fun μ bx _=>h.2⟩
 | ro t=>exact ⟨_,hl,Nat.le_refl _,Nat.le_refl _,_,kg M id h.1,fun j hj=>by simp [aj] at hj,fun μ bx _=>h.2⟩
 | fn a r=>exact ⟨_,hl,Nat.le_refl _,Nat.le_refl _,_,kg M id h.1,fun j hj=>by simp [aj] at hj,fun μ bx _=>h.2⟩
 | bW cs=>
  obtain ⟨p',hv,h⟩:=h
  obtain ⟨lam,g,le,rv⟩:=nN (P:=P) hS id h
  refine ⟨_,hl,Nat.le_of_lt le, ?_,lam,g,fun j hj=> ?_,fun μ bx ha=> ?_⟩
  · have :=lY cs (id+1) x 0
    show (bf S (id+1) cs x).2.2≤id+(1+cs.foldl oneMore 0)
    omega
  · simp [aj] at hj
    subst hj
    exact ⟨_,List.mem_cons_self,rfl⟩
  · have :Value.pointer (some p')= .pointer (some ⟨(μ id).b,(μ id).o+0,none⟩):=rv μ bx ha
    show v= .slice (some ⟨(μ id).b,(μ id).o,none⟩) (CK.bT S cs) (CK.bT S cs)
    rw [hv]
    cases this
    rfl
theorem C6 (hS:ct S) {w:World} {s:St} {os:List K} : ∀ (rs:List K) {M:St} (id:Nat) {r:Ks S.C (rs++os)} {vs:List Value} {κ:List (Sy.V S.C)×aG S.C×Nat→Rt S} {p:Sy.V S.C×aG S.C},
 bL P S w s M (rs++os) r vs→(tM S id rs (gB S rs os r).1 κ).leaf p→
 ∃ q M1 M2 us ws,(κ q).leaf p∧vs=us++ws∧fQ M M1 M2∧bL P S w s M2 os (gB S rs os r).2 ws∧id≤q.2.2∧q.2.2≤id+fG rs∧
  ∃ lam,bO P S w s (fun i=>id≤i∧i<q.2.2) q.2.1 lam M1∧(∀ v ∈ q.1, ∀ j ∈ aj S v, ∃ u ∈ q.2.1,u.1=j)∧ ∀ μ bx,Agree q.2.1 lam μ bx→aF P S w s μ bx q.1 us
 | [],M,id,r,vs,κ,p,h,hl=>⟨_,fun _ _=>False,M,[],vs,hl,rfl,⟨fun b o=>by simp,fun _ _ h=>h.elim⟩,h,Nat.le_refl _,Nat.le_refl _,fun _=>⟨0,0,0,0,true⟩,bO.nil (fun _ _ h=>h) _,by simp,fun _ _ _=>rfl⟩
 | k::rs,M,id,r,vs,κ,p,⟨M1,M2,v,vr,hM,hvs,h1,h2⟩,hl=>by
  have e1:(gB S (k::rs) os r).1=Ks.cons (Ks.head r) (gB S rs os (Ks.tail r)).1:=rfl
  have e2:(gB S (k::rs) os r).2=(gB S rs os (Ks.tail r)).2:=rfl
  rw [e1] at hl
  simp only [tM] at hl
  rw [show Ks.head (Ks.cons (Ks.head r) (gB S rs os (Ks.tail r)).1)=Ks.head (t:=k) (ts:=rs++os) r from by cases rs <;> rfl,
   show Ks.tail (Ks.cons (Ks.head r) (gB S rs os (Ks.tail r)).1)=(gB S rs os (Ks.tail r)).1 from by cases rs <;> rfl] at hl
  obtain ⟨q1,bQ,a1,a2,l1,g1,r1,j4⟩:=Kk (P:=P) hS id h1 hl
  obtain ⟨q2,N1,N2,us,ws,pZ,b1,b2,b3,b4,b5,l2,g2,r2,j5⟩:=C6 hS rs q1.2.2 h2 bQ
  have hsp:fQ (fun b o=>M1 b o∨N1 b o) M1 N1:=⟨fun _ _=>Iff.rfl,fun b o x y=>hM.2 b o x (b2.left y)⟩
  obtain ⟨g,hag⟩:=bO.both g1 g2 (fun i hi hi'=>by omega) hsp
  refine ⟨_,fun b o=>M1 b o∨N1 b o,N2,v::us,ws,pZ,by rw [hvs,b1]; rfl,⟨fun b o=> ?_,fun b o x y=> ?_⟩,by rw [e2]; exact b3,Nat.le_trans a1 b4, ?_,_,g.weaken (fun i hi=> ?_),fun v' fE j hj=> ?_,fun μ bx ha=> ?_⟩
  · rw [hM.1,b2.1,or_assoc]
  · rcases x with x | x
    · exact hM.2 b o x (b2.right y)
    · exact b2.2 b o x y
  · show q2.2.2≤id+(jQ k+fG rs)
    omega
  · show id≤i∧i<q2.2.2
    omega
  · rcases List.mem_cons.1 fE with rfl | fE
    · obtain ⟨u,hu,he⟩:=r1 j hj; exact ⟨u,List.mem_append.2 (.inl hu),he⟩
    · obtain ⟨u,hu,he⟩:=r2 v' fE j hj; exact ⟨u,List.mem_append.2 (.inr hu),he⟩
  · obtain ⟨h3,h4⟩:=hag μ bx ha
    exact ⟨v,us,rfl,j4 μ bx h3,j5 μ bx h4⟩
end
end Go.Sy
namespace Go.Sy
section
variable {P:Program} {S:aN} {af:Nat→Nat}
def dJ:List K→List Value→List Value
 | [],_=> []
 | _::_,[]=> []
 | k::ks,v::vs=>match k with
  | .obj _ | .aV | .bD _ _=>v::dJ ks vs
  | .val _ | .opt _ | .nil | .ro _ | .fn _ _ | .bW _ | .err=>dJ ks vs
def Fu (S:aN) (μ:Nat→Loc) (w:World) (s:St) (t:Ty) (cs:List CK) (V:Sy.V S.C) (v:Value):Prop:=
 ∃ b c kb q,V= .split b c∧v= .pointer (some ⟨kb,q,none⟩)∧(μ b).b=kb∧(μ b).o=q+1∧(μ b).n=CK.bT S cs∧(μ c).n=CK.bT S [.data t]∧s kb q∧w.cell? ⟨kb,q,none⟩=some (.pointer (some ⟨(μ c).b,(μ c).o,none⟩))
def lI (S:aN) (μ:Nat→Loc) (w:World) (s:St):List K→List (Sy.V S.C)→List Value→Prop
 | [],_,_=>True
 | k::ks,V::Vs,v::vs=>(∀ t cs,k= .bD t cs→Fu S μ w s t cs V v)∧(∀ cs,k= .obj cs→ ∃ b,V= .ptr b 0∧v= .pointer (some ⟨(μ b).b,(μ b).o,none⟩)∧(μ b).n=CK.bT S cs)∧(k= .aV→ ∃ b,V= .ptr b 0∧v= .pointer (some ⟨(μ b).b,(μ b).o,none⟩)∧(μ b).o=0∧(μ b).n=2)∧lI S μ w s ks Vs vs
 | _::_,_,_=>False
theorem lI.later {μ:Nat→Loc} {w w':World} {s:St} (h: ∀ b o,s b o→w'.cell? ⟨b,o,none⟩=w.cell? ⟨b,o,none⟩): ∀ {ks:List K} {Vs:List (Sy.V S.C)} {vs:List Value},lI S μ w s ks Vs vs→lI S μ w' s ks Vs vs
 | [],_,_,_=>trivial
 | _::_,[],_,h1=>h1.elim
 | _::_,_::_,[],h1=>h1.elim
 | k::ks,V::Vs,v::vs,⟨h0,h1,h2,h3⟩=>⟨fun t cs e=>by
  obtain ⟨b,c,kb,q,e1,e2,e3,e4,e5,e6,e7,e8⟩:=h0 t cs e
  exact ⟨b,c,kb,q,e1,e2,e3,e4,e5,e6,e7,(h kb q e7).trans e8⟩,h1,h2,lI.later h h3⟩
theorem s9 {bx:Bx S.C} {b:Nat} {B:cR S.C} (h:l5 S B) (hb:bx b=some B):live S bx b:=by
 unfold live
 rw [hb]
 cases B <;> first | exact h.elim | trivial
theorem qC {cs:List CK} {ks:List K} {b off:Nat} {Vs:List (Sy.V S.C)} :cJ S (.obj cs::ks) (.ptr b off::Vs)=b::cJ S ks Vs:=rfl
theorem De {k:K} {ks:List K} {V:Sy.V S.C} {Vs:List (Sy.V S.C)} (h: ∀ cs,k≠ .obj cs) (h':k≠ .aV) (h'': ∀ t cs,k≠ .bD t cs):cJ S (k::ks) (V::Vs)=cJ S ks Vs:=by
 cases k <;> first | rfl | exact absurd rfl (h _) | exact absurd rfl h' | exact absurd rfl (h'' _ _)
theorem KG {k:K} {ks:List K} {v:Value} {vs:List Value} (h: ∀ cs,k≠ .obj cs) (h':k≠ .aV) (h'': ∀ t cs,k≠ .bD t cs):dJ (k::ks) (v::vs)=dJ ks vs:=by
 cases k <;> first | rfl | exact absurd rfl (h _) | exact absurd rfl h' | exact absurd rfl (h'' _ _)
theorem iE (hS:ct S) {w:World} {s so:St} {μ:Nat→Loc} : ∀ (ps:List K) {M:St} (id:Nat) {Vs:List (Sy.V S.C)} {args:List Value} {x:Ks S.C (outs ps)},lI S μ w so ps Vs args→(cJ S ps Vs).Nodup→
 (∀ b ∈ cJ S ps Vs, ∀ i,id≤i→i<id+fG (outs ps)→i≠b)→bL P S w s M (outs ps) x (dJ ps args)→
 ∃ lam,bO P S w s (fun i=>i ∈ cJ S ps Vs∨(id≤i∧i<id+fG (outs ps))) (dN S id ps Vs x) lam M∧ ∀ b ∈ cJ S ps Vs,lam b=μ b∧ ∃ B,l5 S B∧(b,B) ∈ dN S id ps Vs x
 | [],M,id,Vs,args,x,_,_,_,h=>⟨fun _=>⟨0,0,0,0,true⟩,by
  have :dN S id [] Vs x= []:=rfl
  rw [this]; exact bO.nil h.1 _,by intro b hb; cases Vs <;> simp [cJ] at hb⟩
 | k::ks,M,id,[],_,x,h,_,_,_=>h.elim
 | k::ks,M,id,V::Vs,[],x,h,_,_,_=>h.elim
 | k::ks,M,id,V::Vs,v::args,x,⟨HL,h0,h0',h1⟩,hnd,hid,h=>by
  by_cases hk: ∃ cs,k= .obj cs
  · obtain ⟨cs,rfl⟩:=hk
    obtain ⟨b,rfl,rfl,hn⟩:=h0 cs rfl
    rw [qC] at hnd hid
    obtain ⟨M1,M2,v',r,hM,hvs,r1,r2⟩:=h
    cases hvs
    obtain ⟨hb,p8⟩:=List.nodup_cons.1 hnd
    have hsum:fG (outs (.obj cs::ks))=1+cs.foldl oneMore 0+fG (outs ks):=rfl
    have hmk:=lY cs id (Ks.head (t:= .obj cs) x) 0
    rw [hsum] at hid
    obtain ⟨l1,e1,qt,g1⟩:=yE (P:=P) hS b id (cs:=cs) (x:=Ks.head (t:= .obj cs) x) (fun i hi hi'=>hid b (by simp) i hi (by omega)) (μ b) rfl hn r1
    obtain ⟨l2,g2,p2⟩:=iE hS ks (bf S id cs (Ks.head (t:= .obj cs) x)).2.2 (x:=Ks.tail (t:= .obj cs) x) h1 p8 (fun b' hb' i hi hi'=>hid b' (by simp [hb']) i (by omega) (by omega)) r2
    obtain ⟨g,hag⟩:=bO.both g1 g2 (fun i hi hi'=>by
     rcases hi with rfl | hi
     · rcases hi' with hi' | hi'
       · exact hb hi'
       · exact hid i (by simp) i (by omega) (by omega) rfl
     · rcases hi' with hi' | hi'
       · exact hid i (by simp [hi']) i (by omega) (by omega) rfl
       · omega) hM
    have hput:dN S id (.obj cs::ks) (.ptr b 0::Vs) x=((b, .cells (bf S id cs (Ks.head (t:= .obj cs) x)).1)::(bf S id cs (Ks.head (t:= .obj cs) x)).2.1)++dN S (bf S id cs (Ks.head (t:= .obj cs) x)).2.2 ks Vs (Ks.tail (t:= .obj cs) x):=rfl
    rw [hput]
    refine ⟨_,g.weaken fun i hi=> ?_,fun b' hb'=> ?_⟩
    · rw [qC,hsum]
      rcases hi with (rfl | hi) | (hi | hi)
      · exact .inl (by simp)
      · exact .inr (by omega)
      · exact .inl (by simp [hi])
      · exact .inr (by omega)
    · rw [qC] at hb'
      rcases List.mem_cons.1 hb' with rfl | hb'
      · refine ⟨?_,_,(by exact trivial),List.mem_append.2 (.inl List.mem_cons_self)⟩
        unfold both
        rw [if_pos (List.mem_map.2 ⟨_,List.mem_cons_self,rfl⟩)]
        exact e1
      · obtain ⟨p3,vs,p0,p4⟩:=p2 b' hb'
        refine ⟨?_,vs,p0,List.mem_append.2 (.inr p4)⟩
        unfold both
        rw [if_neg]
        · exact p3
        · intro hm
          obtain ⟨u,hu,he⟩:=List.mem_map.1 hm
          rcases g1.dX u hu with h | h
          · rw [he] at h; exact hb (h▸hb')
          · rw [he] at h; exact hid b' (by simp [hb']) b' (by omega) (by omega) rfl
  · have hk: ∀ cs,k≠ .obj cs:=fun cs e=>hk ⟨cs,e⟩
    by_cases hkb:k= .aV
    · subst hkb
      obtain ⟨b,rfl,rfl,hn0,hn⟩:=h0' rfl
      have hov:cJ S (.aV::ks) (.ptr b 0::Vs)=b::cJ S ks Vs:=rfl
      rw [hov] at hnd hid
      obtain ⟨M1,M2,v',r,hM,hvs,r1,r2⟩:=h
      cases hvs
      obtain ⟨hb,p8⟩:=List.nodup_cons.1 hnd
      have hsum:fG (outs (.aV::ks))=2+fG (outs ks):=rfl
      rw [hsum] at hid
      obtain ⟨l1,e1,g1⟩:=vW (P:=P) (s:=s) b id (fun e=>hid b (by simp) id (Nat.le_refl _) (by omega) e) (μ b) hn0 hn (x:=Ks.head (t:= .aV) x) rfl r1
      obtain ⟨l2,g2,p2⟩:=iE hS ks (id+1) (x:=Ks.tail (t:= .aV) x) h1 p8 (fun b' hb' i hi hi'=>hid b' (by simp [hb']) i (by omega) (by omega)) r2
      obtain ⟨g,hag⟩:=bO.both g1 g2 (fun i hi hi'=>by
       rcases hi with rfl | rfl
       · rcases hi' with hi' | hi'
         · exact hb hi'
         · exact hid i (by simp) i (by omega) (by omega) rfl
       · rcases hi' with hi' | hi'
         · exact hid i (by simp [hi']) i (by omega) (by omega) rfl
         · omega) hM
      have hput:dN S id (.aV::ks) (.ptr b 0::Vs) x= [(b, .aV id),(id, .buf (Ks.head (t:= .aV) x))]++dN S (id+1) ks Vs (Ks.tail (t:= .aV) x):=rfl
      rw [hput]
      refine ⟨_,g.weaken fun i hi=> ?_,fun b' hb'=> ?_⟩
      · rw [hov,hsum]
        rcases hi with (rfl | rfl) | (hi | hi)
        · exact .inl (by simp)
        · exact .inr (by omega)
        · exact .inl (by simp [hi])
        · exact .inr (by omega)
      · rw [hov] at hb'
        rcases List.mem_cons.1 hb' with rfl | hb'
        · refine ⟨?_,_,(by exact trivial),List.mem_append.2 (.inl List.mem_cons_self)⟩
          unfold both
          rw [if_pos (List.mem_map.2 ⟨_,List.mem_cons_self,rfl⟩)]
          exact e1
        · obtain ⟨p3,vs,p0,p4⟩:=p2 b' hb'
          refine ⟨?_,vs,p0,List.mem_append.2 (.inr p4)⟩
          unfold both
          rw [if_neg]
          · exact p3
          · intro hm
            obtain ⟨u,hu,he⟩:=List.mem_map.1 hm
            rcases g1.dX u hu with h | h
            · rw [he] at h; exact hb (h▸hb')
            · rw [he] at h; exact hid b' (by simp [hb']) b' (by omega) (by omega) rfl
    by_cases gM: ∃ t cs,k= .bD t cs
    · obtain ⟨t,cs,rfl⟩:=gM
      obtain ⟨b,c,kb,q,rfl,rfl,eu,xz,H9,Ih,_,hcell⟩:=HL t cs rfl
      have hov:cJ S (.bD t cs::ks) (.split b c::Vs)=c::b::cJ S ks Vs:=rfl
      rw [hov] at hnd hid
      obtain ⟨M1,M2,v',r,hM,hvs,r1,r2⟩:=h
      cases hvs
      obtain ⟨b0,o0,p,Ma,Mb,q1,q2,q3,q4,q5⟩:=r1
      cases q1
      have hp:Value.pointer (some p)= .pointer (some ⟨(μ c).b,(μ c).o,none⟩):=by
       have :=(q2 0 _ rfl).1
       rw [Nat.add_zero,hcell] at this
       exact (Option.some.inj this).symm
      obtain ⟨s6,p8⟩:=List.nodup_cons.1 hnd
      obtain ⟨B7,IY⟩:=List.nodup_cons.1 p8
      have hsum:fG (outs (.bD t cs::ks))=2+cs.foldl oneMore 0+fG (outs ks):=rfl
      have hmk:=lY cs id (Ks.head (t:= .bD t cs) x).2 0
      rw [hsum] at hid
      obtain ⟨l0,e0,Pc,g0⟩:=yE (P:=P) hS c id (cs:= [.data t]) (x:=(Ks.head (t:= .bD t cs) x).1) (fun i hi hi'=>hid c (by simp) i hi (by have :i<id:=hi'; omega)) (μ c) hp Ih q4
      obtain ⟨l1,e1,qt,g1⟩:=yE (P:=P) hS b id (cs:=cs) (x:=(Ks.head (t:= .bD t cs) x).2) (fun i hi hi'=>hid b (by simp) i hi (by omega)) (μ b) (by rw [eu,xz]) H9 q5
      obtain ⟨l2,g2,p2⟩:=iE hS ks (bf S id cs (Ks.head (t:= .bD t cs) x).2).2.2 (x:=Ks.tail (t:= .bD t cs) x) h1 IY (fun b' hb' i hi hi'=>hid b' (by simp [hb']) i (by omega) (by omega)) r2
      obtain ⟨BR,O1⟩:=bO.both g0 g1 (fun i hi hi'=>by
       have hi:i=c:=hi.elim (fun e=>e) fun h=>by
        have h1:id≤i:=h.1
        have h2:i<id:=h.2
        omega
       subst hi
       rcases hi' with hi' | hi'
       · subst hi'; exact s6 (by simp)
       · exact hid i (by simp) i (by omega) (by omega) rfl) q3
      obtain ⟨g,hag⟩:=bO.both BR g2 (fun i hi hi'=>by
       rcases hi with (rfl | hi) | (rfl | hi)
       · rcases hi' with hi' | hi'
         · exact s6 (by simp [hi'])
         · exact hid i (by simp) i (by omega) (by omega) rfl
       · have h1:id≤i:=hi.1
         have h2:i<id:=hi.2
         omega
       · rcases hi' with hi' | hi'
         · exact B7 hi'
         · exact hid i (by simp) i (by omega) (by omega) rfl
       · rcases hi' with hi' | hi'
         · exact hid i (by simp [hi']) i (by omega) (by omega) rfl
         · omega) hM
      have hput:dN S id (.bD t cs::ks) (.split b c::Vs) x=(((c, .cells (bf S id [.data t] (Ks.head (t:= .bD t cs) x).1).1)::(bf S id [.data t] (Ks.head (t:= .bD t cs) x).1).2.1)++((b, .cells (bf S id cs (Ks.head (t:= .bD t cs) x).2).1)::(bf S id cs (Ks.head (t:= .bD t cs) x).2).2.1))++dN S (bf S id cs (Ks.head (t:= .bD t cs) x).2).2.2 ks Vs (Ks.tail (t:= .bD t cs) x):=rfl
      rw [hput]
      refine ⟨_,g.weaken fun i hi=> ?_,fun b' hb'=> ?_⟩
      · rw [hov,hsum]
        rcases hi with ((rfl | hi) | (rfl | hi)) | (hi | hi)
        · exact .inl (by simp)
        · have h1:id≤i:=hi.1
          have h2:i<id:=hi.2
          omega
        · exact .inl (by simp)
        · exact .inr (by omega)
        · exact .inl (by simp [hi])
        · exact .inr (by omega)
      · rw [hov] at hb'
        have O5: ∀ (cL jw:aG S.C) (la lb:Nat→Loc) (i:Nat) (B:cR S.C),(i,B) ∈ cL→both cL la lb i=la i:=fun cL jw la lb i B hi=>if_pos (List.mem_map.2 ⟨_,hi,rfl⟩)
        rcases List.mem_cons.1 hb' with rfl | hb'
        · refine ⟨?_,_,(by exact trivial),List.mem_append.2 (.inl (List.mem_append.2 (.inl List.mem_cons_self)))⟩
          unfold both
          rw [if_pos (List.mem_map.2 ⟨_,List.mem_append.2 (.inl List.mem_cons_self),rfl⟩),if_pos (List.mem_map.2 ⟨_,List.mem_cons_self,rfl⟩)]
          exact e0
        · rcases List.mem_cons.1 hb' with rfl | hb'
          · refine ⟨?_,_,(by exact trivial),List.mem_append.2 (.inl (List.mem_append.2 (.inr List.mem_cons_self)))⟩
            unfold both
            rw [if_pos (List.mem_map.2 ⟨_,List.mem_append.2 (.inr List.mem_cons_self),rfl⟩),if_neg]
            · exact e1
            · intro hm
              obtain ⟨u,hu,he⟩:=List.mem_map.1 hm
              rcases g0.dX u hu with h | h
              · rw [he] at h; exact s6 (by rw [← h]; simp)
              · rw [he] at h
                have h1:id≤b':=h.1
                have h2:b'<id:=h.2
                omega
          · obtain ⟨p3,vs,p0,p4⟩:=p2 b' hb'
            refine ⟨?_,vs,p0,List.mem_append.2 (.inr p4)⟩
            unfold both
            rw [if_neg]
            · exact p3
            · intro hm
              obtain ⟨u,hu,he⟩:=List.mem_map.1 hm
              rcases BR.dX u hu with (h | h) | (h | h)
              · rw [he] at h; exact s6 (by rw [← h]; simp [hb'])
              · rw [he] at h
                have h1:id≤b':=h.1
                have h2:b'<id:=h.2
                omega
              · rw [he] at h; exact B7 (h▸hb')
              · rw [he] at h; exact hid b' (by simp [hb']) b' (by omega) (by omega) rfl
    have gM: ∀ t cs,k≠ .bD t cs:=fun t cs e=>gM ⟨t,cs,e⟩
    rw [De hk hkb gM] at hnd hid ⊢
    rw [KG hk hkb gM] at h
    cases k with
    | aV=>exact absurd rfl hkb
    | obj cs=>exact absurd rfl (hk cs)
    | bD t cs=>exact absurd rfl (gM t cs)
    | val c=>exact iE hS ks id h1 hnd hid h
    | opt cs=>exact iE hS ks id h1 hnd hid h
    | nil=>exact iE hS ks id h1 hnd hid h
    | ro t=>exact iE hS ks id h1 hnd hid h
    | fn a r=>exact iE hS ks id h1 hnd hid h
    | bW cs=>exact iE hS ks id h1 hnd hid h
    | err=>exact iE hS ks id h1 hnd hid h
theorem Da {bx:Bx S.C} {b:Nat} {ws vs:List (Sy.V S.C)} {cs:List CK} {y':bl S.C cs} {u':aG S.C} (hb:bx b=some (.cells ws)) (hy':cQ S (ah bx b (some .dead)) cs vs=some (y',u'))
 (k1:Tk S bx (ai bx ((b, .dead)::u'))):ai bx ((b, .dead)::u') b=some .dead:=by
 have hpre:Tk S (ah bx b (some .dead)) (ai (ah bx b (some .dead)) u'):=by
  intro i
  by_cases e:i=b
  · -- from the whole step
    subst e
    rcases k1 i with e1 | ⟨e1,_⟩ | ⟨e',l',e1,e2⟩
    · -- unchanged: then it was cells, but the parts' taking leaves cells alone
      exfalso
      rw [hb] at e1
      have : ∀ (cs:List CK) (bx:Bx S.C) (vs:List (Sy.V S.C)) (x:bl S.C cs) (us:aG S.C),cQ S bx cs vs=some (x,us)→ ∀ u ∈ us,u.2= .dead∨ ∃ e l,u.2= .bp e l:=by
       intro cs
       induction cs with
       | nil=>intro bx vs x us h; cases h; simp
       | cons c cs ih=>
        intro bx vs x us h
        simp only [cQ] at h
        obtain ⟨⟨p,q⟩,h1,h⟩:=Option.bind_eq_some_iff.1 h
        obtain ⟨⟨p',q'⟩,h2,h⟩:=Option.bind_eq_some_iff.1 h
        cases h
        intro u hu
        rcases List.mem_append.1 hu with hu | hu
        · cases c with
          | data t=>
           simp only [cT] at h1
           obtain ⟨z,_,h1⟩:=Option.bind_eq_some_iff.1 h1
           cases h1
           obtain ⟨v,_,hv⟩:=List.mem_flatMap.1 hu
           obtain ⟨e,l,he,_⟩:=cq.cg bx v u hv
           exact .inr ⟨e,l,he⟩
          | aT e=>
           simp only [cT] at h1
           split at h1
           · split at h1
             · obtain ⟨z,_,h1⟩:=Option.bind_eq_some_iff.1 h1
               cases h1
               simp at hu; subst hu; exact .inl rfl
             · cases h1
           · cases h1; simp at hu
           · cases h1
          | aH e=>
           simp only [cT] at h1
           split at h1
           · split at h1
             · obtain ⟨z,_,h1⟩:=Option.bind_eq_some_iff.1 h1
               cases h1
               simp at hu; subst hu; exact .inl rfl
             · cases h1
           · split at h1
             · obtain ⟨z,_,h1⟩:=Option.bind_eq_some_iff.1 h1
               cases h1
               simp at hu; subst hu; exact .inl rfl
             · cases h1
           · cases h1; simp at hu
           · cases h1
        · exact ih _ _ _ _ h2 u hu
      have aI:=this _ _ _ _ _ hy'
      have : ∀ (us:aG S.C) (bx:Bx S.C),(∀ u ∈ us,u.2= .dead∨ ∃ e l,u.2= .bp e l)→(∀ ws,bx i≠some (.cells ws))→ ∀ ws,ai bx us i≠some (.cells ws):=by
       intro us
       induction us with
       | nil=>intro bx _ h; exact h
       | cons u us ih=>
        intro bx hu h
        refine ih _ (fun u' aI=>hu u' (by simp [aI])) fun ws=> ?_
        by_cases e:i=u.1
        · rw [e,aL]
          rcases hu u (by simp) with h | ⟨_,_,h⟩ <;> rw [h] <;> simp
        · rw [aY _ _ e]; exact h ws
      exact this u' (ah bx i (some .dead)) aI (by intro ws; rw [aL]; simp) _ e1
    · exact .inl (e1.trans (aL _ _ _).symm)
    · rw [hb] at e1; cases e1
  · rcases k1 i with e1 | ⟨e1,h2⟩ | ⟨e',l',e1,e2⟩
    · exact .inl (e1.trans (aY _ _ e).symm)
    · exact .inr (.inl ⟨e1,(dr S (aY _ _ e)).2 h2⟩)
    · exact .inr (.inr ⟨e',l',(aY _ _ e).trans e1,e2⟩)
 exact kG hpre (aL _ _ _)
theorem Nw {fs:List (eJ S)} {bx:Bx S.C} {cs:List CK} {b:Nat} :bP S fs bx (.obj cs) (.ptr b 0)=eA S bx cs b:=by
 simp only [bP,eA]
 cases hb:bx b with
 | none=>rfl
 | some B=>cases B <;> rfl
theorem Ez {bx:Bx S.C} {cs:List CK} {b:Nat} {y:bl S.C cs} {us:aG S.C} (h:eA S bx cs b=some (y,us)) (hk:Tk S bx (ai bx us)):
 (∃ ws,bx b=some (.cells ws)∧ws.length=CK.bT S cs)∧ai bx us b=some .dead:=by
 unfold eA at h
 split at h
 · rename_i ws hb
   cases hw:Nat.beq ws.length (CK.bT S cs) with
   | false=>rw [hw] at h; cases h
   | true=>
    rw [hw,cond_true] at h
    obtain ⟨⟨y',u'⟩,hy',h⟩:=Option.bind_eq_some_iff.1 h
    cases h
    exact ⟨⟨ws,hb,Nat.eq_of_beq_eq_true hw⟩,Da hb hy' hk⟩
 · cases h
theorem Ew {env:Env S.C} {w:World} {s s':St} {μ:Nat→Loc} {fs:List (eJ S)} (hn: ∀ i B,env.bx i=some B→RB P S w s μ env.bx (μ i) B):
 ∀ (ks:List K) {bx:Bx S.C} (hk:Tk S env.bx bx) (hks: ∀ (ks:List K) (bx:Bx S.C) (hk:Tk S env.bx bx) (Vs:List (Sy.V S.C)) (args:List Value) (x:Ks S.C ks) (us:aG S.C),dQ P S w s' μ env.bx Vs args→cZ S fs bx ks Vs=some (x,us)→Tk S bx (ai bx us))
  {Vs:List (Sy.V S.C)} {args:List Value} {x:Ks S.C ks} {us:aG S.C},dQ P S w s' μ env.bx Vs args→cZ S fs bx ks Vs=some (x,us)→
 lI S μ w s' ks Vs args∧(cJ S ks Vs).Nodup∧ ∀ b ∈ cJ S ks Vs,(∃ B,l5 S B∧bx b=some B)∧ai bx us b=some .dead
 | [],bx,hk,hks,[],args,x,us,h,hx=>⟨trivial,by simp [cJ],by simp [cJ]⟩
 | [],_,_,_,_::_,_,_,_,_,hx=>by cases hx
 | _::_,_,_,_,[],_,_,_,_,hx=>by cases hx
 | k::ks,bx,hk,hks,V::Vs,args,x,us,⟨v,r,hargs,h1,h2⟩,hx=>by
  subst hargs
  simp only [cZ] at hx
  obtain ⟨⟨y,u1⟩,hy,hx⟩:=Option.bind_eq_some_iff.1 hx
  obtain ⟨⟨z,u2⟩,hz,hx⟩:=Option.bind_eq_some_iff.1 hx
  cases hx
  have hone:cZ S fs bx [k] [V]=some (Ks.cons (t:=k) (ts:= []) y (),u1++ []):=by
   simp only [cZ]
   rw [hy]; rfl
  have k1:=hks [k] bx hk [V] [v] _ _ ⟨v,[],rfl,h1,rfl⟩ hone
  rw [List.append_nil] at k1
  have k2:=hks ks _ (hk.trans S k1) Vs r _ _ h2 hz
  obtain ⟨o1,o2,o3⟩:=Ew hn ks (hk.trans S k1) hks h2 hz
  by_cases p9: ∃ cs,k= .obj cs
  · obtain ⟨cs,rfl⟩:=p9
    simp only [bP] at hy
    split at hy
    · rename_i b off
      split at hy
      · rename_i ws hb
        cases hw:Nat.beq off 0&&Nat.beq ws.length (CK.bT S cs) with
        | false=>rw [hw] at hy; cases hy
        | true=>
         rw [hw,cond_true] at hy
         rw [Bool.and_eq_true] at hw
         have w1:=Nat.eq_of_beq_eq_true hw.1
         have w2:=Nat.eq_of_beq_eq_true hw.2
         subst w1
         obtain ⟨⟨y',u'⟩,hy',hy⟩:=Option.bind_eq_some_iff.1 hy
         cases hy
         have hlb:live S bx b:=by unfold live; rw [hb]; trivial
         have hb0:env.bx b=some (.cells ws):=(hk.cS hlb).symm.trans hb
         have hrb:=hn b _ hb0
         have gL:ai bx ((b, .dead)::u') b=some .dead:=Da hb hy' k1
         have hv:v= .pointer (some ⟨(μ b).b,(μ b).o+0,none⟩):=h1
         refine ⟨⟨(fun t' cs' e=>nomatch e),fun cs' e=> ?_,(fun e=>nomatch e),o1⟩, ?_, ?_⟩
         · cases e
           exact ⟨b,rfl,hv,by rw [hrb.2.1,w2]⟩
         · rw [qC]
           refine List.nodup_cons.2 ⟨fun hm=> ?_,o2⟩
           obtain ⟨jy,hh,hw'⟩:=(o3 b hm).1
           rw [gL] at hw'
           cases hw'
           exact hh
         · rw [qC,fN]
           intro b' hb'
           rcases List.mem_cons.1 hb' with rfl | hb'
           · exact ⟨⟨_,(by exact trivial),hb⟩,kG k2 gL⟩
           · obtain ⟨⟨jy,hh,hw'⟩,h'⟩:=o3 b' hb'
             have hl':live S (ai bx ((b, .dead)::u')) b':=s9 hh hw'
             exact ⟨⟨jy,hh,by rw [← k1.cS hl']; exact hw'⟩,h'⟩
      · cases hy
    · cases hy
  · have p9: ∀ cs,k≠ .obj cs:=fun cs e=>p9 ⟨cs,e⟩
    by_cases hkb:k= .aV
    · subst hkb
      simp only [bP] at hy
      split at hy
      · split at hy
        · split at hy
          · rename_i b off _ j hb _ l hj
            cases hw:Nat.beq off 0 with
            | false=>rw [hw] at hy; cases hy
            | true=>
             rw [hw] at hy
             cases hy
             have ho:=Nat.eq_of_beq_eq_true hw
             subst ho
             have hne:j≠b:=fun e=>by subst e; rw [hb] at hj; cases hj
             have hlb:live S bx b:=by unfold live; rw [hb]; trivial
             have hb0:env.bx b=some (.aV j):=(hk.cS hlb).symm.trans hb
             have hrb:=hn b _ hb0
             have gL:ai bx [(b, .dead),(j, .dead)] b=some .dead:=(aY _ _ hne.symm).trans (aL _ _ _)
             have hv:v= .pointer (some ⟨(μ b).b,(μ b).o+0,none⟩):=h1
             have hov:cJ S (.aV::ks) (.ptr b 0::Vs)=b::cJ S ks Vs:=rfl
             refine ⟨⟨(fun t' cs' e=>nomatch e),(fun cs' e=>nomatch e),fun _=>⟨b,rfl,hv,hrb.1,hrb.2.1⟩,o1⟩, ?_, ?_⟩
             · rw [hov]
               refine List.nodup_cons.2 ⟨fun hm=> ?_,o2⟩
               obtain ⟨jy,hh,hw'⟩:=(o3 b hm).1
               rw [gL] at hw'
               cases hw'
               exact hh
             · rw [hov,fN]
               intro b' hb'
               rcases List.mem_cons.1 hb' with rfl | hb'
               · exact ⟨⟨_,(by exact trivial),hb⟩,kG k2 gL⟩
               · obtain ⟨⟨jy,hh,hw'⟩,h'⟩:=o3 b' hb'
                 have hl':live S (ai bx [(b, .dead),(j, .dead)]) b':=s9 hh hw'
                 exact ⟨⟨jy,hh,by rw [← k1.cS hl']; exact hw'⟩,h'⟩
          · cases hy
        · cases hy
      · cases hy
    by_cases gM: ∃ t cs,k= .bD t cs
    · obtain ⟨t,cs,rfl⟩:=gM
      simp only [bP] at hy
      split at hy
      · rename_i b c
        obtain ⟨⟨ya,ua⟩,xY,hy⟩:=Option.bind_eq_some_iff.1 hy
        obtain ⟨⟨yb,ub⟩,xZ,hy⟩:=Option.bind_eq_some_iff.1 hy
        cases hy
        dsimp only at xY xZ
        have Cx: ∀ (bx:Bx S.C) (cs:List CK) (i:Nat) (y:bl S.C cs) (u:aG S.C),Tk S env.bx bx→eA S bx cs i=some (y,u)→Tk S bx (ai bx u):=fun bx cs i y u IE h0=>by
         have :=hks [.obj cs] bx IE [.ptr i 0] [.pointer (some ⟨(μ i).b,(μ i).o+0,none⟩)] (Ks.cons (t:= .obj cs) (ts:= []) y ()) (u++ []) ⟨_,_,rfl,rfl,rfl⟩ (by
          simp only [cZ]
          rw [Nw,h0]; rfl)
         rwa [List.append_nil] at this
        have ka:=Cx bx _ _ _ _ hk xY
        have kb':=Cx _ _ _ _ _ (hk.trans S ka) xZ
        obtain ⟨⟨wa,hca,hla⟩,hda⟩:=Ez xY ka
        obtain ⟨⟨wb,hcb,hlb⟩,hdb⟩:=Ez xZ kb'
        have IP:live S (ai bx ua) b:=by unfold live; rw [hcb]; trivial
        have xC:bx b=some (.cells wb):=(ka.cS IP).symm.trans hcb
        have IS:live S bx c:=by unfold live; rw [hca]; trivial
        have IQ:live S bx b:=by unfold live; rw [xC]; trivial
        have hne:c≠b:=fun e=>by subst e; rw [hda] at hcb; cases hcb
        have hc0:env.bx c=some (.cells wa):=(hk.cS IS).symm.trans hca
        have hb0:env.bx b=some (.cells wb):=(hk.cS IQ).symm.trans xC
        obtain ⟨kb,q,e1,e2,e3,e4⟩:=h1
        have cC:=e2 0 _ rfl
        rw [Nat.add_zero] at cC
        have hov:cJ S (.bD t cs::ks) (.split b c::Vs)=c::b::cJ S ks Vs:=rfl
        have Cc:ai bx (ua++ub) c=some .dead:=by rw [fN]; exact kG kb' hda
        have Cb:ai bx (ua++ub) b=some .dead:=by rw [fN]; exact hdb
        have hout: ∀ i ∈ cJ S ks Vs,ai bx (ua++ub) i≠some .dead:=fun i hi he=>by
         obtain ⟨jy,hh,hw'⟩:=(o3 i hi).1
         rw [he] at hw'
         cases hw'
         exact hh
        refine ⟨⟨fun t' cs' e=> ?_,(fun cs' e=>nomatch e),(fun e=>nomatch e),o1⟩, ?_, ?_⟩
        · cases e
          exact ⟨b,c,kb,q,rfl,e1,e3,e4,by rw [(hn b _ hb0).2.1,hlb],by rw [(hn c _ hc0).2.1,hla],cC.2,cC.1⟩
        · rw [hov]
          refine List.nodup_cons.2 ⟨fun hm=> ?_,List.nodup_cons.2 ⟨fun hm=>hout b hm Cb,o2⟩⟩
          rcases List.mem_cons.1 hm with e | hm
          · exact hne e
          · exact hout c hm Cc
        · rw [hov,fN]
          intro b' hb'
          rcases List.mem_cons.1 hb' with rfl | hb'
          · exact ⟨⟨_,(by exact trivial),hca⟩,kG k2 Cc⟩
          · rcases List.mem_cons.1 hb' with rfl | hb'
            · exact ⟨⟨_,(by exact trivial),xC⟩,kG k2 Cb⟩
            · obtain ⟨⟨jy,hh,hw'⟩,h'⟩:=o3 b' hb'
              have hl':live S (ai bx (ua++ub)) b':=s9 hh hw'
              exact ⟨⟨jy,hh,by rw [← k1.cS hl']; exact hw'⟩,h'⟩
      · cases hy
    have gM: ∀ t cs,k≠ .bD t cs:=fun t cs e=>gM ⟨t,cs,e⟩
    rw [De p9 hkb gM,fN]
    refine ⟨⟨fun t cs e=>absurd e (gM t cs),fun cs e=>absurd e (p9 cs),fun e=>absurd e hkb,o1⟩,o2,fun b' hb'=> ?_⟩
    obtain ⟨⟨jy,hh,hw'⟩,h'⟩:=o3 b' hb'
    have hl':live S (ai bx u1) b':=s9 hh hw'
    exact ⟨⟨jy,hh,by rw [← k1.cS hl']; exact hw'⟩,h'⟩
end
end Go.Sy
namespace Go.Sy
section
variable {P:Program} {S:aN} {af:Nat→Nat}
variable {w0:World} {M0 s0:St} {dq:List Deferred} {env:Env S.C} {a:Act} {w:World} {μ:Nat→Loc}
theorem bn.mono {w w':World} {s s':St} {μ:Nat→Loc} {bx:Bx S.C} (hl:bC w s w' s') {V:V S.C} {v:Value} (h:bn P S w s μ bx V v):bn P S w' s' μ bx V v:=by
 cases V with
 | d t x=>exact bS.mono S hl h
 | aT b e l=>exact ⟨bS.mono S hl h.1,h.2⟩
 | cH t x=>exact iS.mono S hl h
 | fv a r g=>exact iQ.mono P S hl h
 | split b c=>obtain ⟨k,q,h1,h2,h3⟩:=h; exact ⟨k,q,h1,h2.later hl,h3⟩
 | iF c=>obtain ⟨k,q,h1,h2⟩:=h; exact ⟨k,q,h1,h2.later hl⟩
 | _=>exact h
theorem aF.mono {w w':World} {s s':St} {μ:Nat→Loc} {bx:Bx S.C} (hl:bC w s w' s'): ∀ {vs:List (V S.C)} {cs:List Value},aF P S w s μ bx vs cs→aF P S w' s' μ bx vs cs
 | [],_,h=>h
 | _::_,_,⟨c,r,h1,h2,h3⟩=>⟨c,r,h1,h2.mono hl,aF.mono hl h3⟩
theorem RB.mono {w:World} {s s':St} {μ:Nat→Loc} {bx:Bx S.C} (hl:bC w s w s') {L:Loc} {B:cR S.C} (h:RB P S w s μ bx L B):RB P S w s' μ bx L B:=by
 cases B with
 | cells vs=>
  obtain ⟨h1,h2,h3,cs,h4,h5⟩:=h
  exact ⟨h1,h2,h3,cs,h4,h5.mono hl⟩
 | bw vs=>
  obtain ⟨h1,cs,h4,h5⟩:=h
  exact ⟨h1,cs,h4.later hl,h5.mono hl⟩
 | arr e l=>
  obtain ⟨h1,h2,h3,h4,h5⟩:=h
  refine ⟨h1,h2,h3,h4,fun i x hi=> ?_⟩
  obtain ⟨ds,d1,d2,n,d3⟩:=h5 i x hi
  exact ⟨ds,d1,d2,n,d3.mono S hl (Nat.le_refl _)⟩
 | bp e l=>
  obtain ⟨h2,h3,h5⟩:=h
  refine ⟨h2,h3,fun i x hi=> ?_⟩
  obtain ⟨ds,d1,d2,n,d3⟩:=h5 i x hi
  exact ⟨ds,d1,d2.later hl,n,d3.mono S hl (Nat.le_refl _)⟩
 | tail=>exact h
 | dead=>trivial
 | aV j=>exact h
 | buf l=>exact h
def DF (us:aG S.C):Prop:= ∀ u ∈ us,u.2= .dead∨ ∃ e l,u.2= .bp e l
theorem DF.append {us vs:aG S.C} (h:DF us) (h':DF vs):DF (us++vs):=fun u hu=>(List.mem_append.1 hu).elim (h u) (h' u)
theorem DF.fz {bx:Bx S.C} {us:aG S.C} (h:cq bx us):DF us:=fun u hu=>by obtain ⟨e,l,he,_⟩:=h u hu; exact .inr ⟨e,l,he⟩
theorem DF.cT {bx:Bx S.C} {c:CK} {vs:List (Sy.V S.C)} {x:c.den S.C} {us:aG S.C} (h1:cT S bx c vs=some (x,us)):DF us:=by
 intro u hu
 cases c with
 | data t=>
  simp only [Sy.cT] at h1
  obtain ⟨z,_,h1⟩:=Option.bind_eq_some_iff.1 h1
  cases h1
  obtain ⟨v,_,hv⟩:=List.mem_flatMap.1 hu
  obtain ⟨e,l,he,_⟩:=cq.cg bx v u hv
  exact .inr ⟨e,l,he⟩
 | aT e=>
  simp only [Sy.cT] at h1
  split at h1
  · split at h1
    · obtain ⟨z,_,h1⟩:=Option.bind_eq_some_iff.1 h1
      cases h1
      simp at hu; subst hu; exact .inl rfl
    · cases h1
  · cases h1; simp at hu
  · cases h1
 | aH e=>
  simp only [Sy.cT] at h1
  split at h1
  · split at h1
    · obtain ⟨z,_,h1⟩:=Option.bind_eq_some_iff.1 h1
      cases h1
      simp at hu; subst hu; exact .inl rfl
    · cases h1
  · split at h1
    · obtain ⟨z,_,h1⟩:=Option.bind_eq_some_iff.1 h1
      cases h1
      simp at hu; subst hu; exact .inl rfl
    · cases h1
  · cases h1; simp at hu
  · cases h1
theorem DF.cQ: ∀ {cs:List CK} {bx:Bx S.C} {vs:List (Sy.V S.C)} {x:bl S.C cs} {us:aG S.C},cQ S bx cs vs=some (x,us)→DF us
 | [],_,_,_,_,h=>by cases h; intro u hu; simp at hu
 | c::cs,bx,vs,x,us,h=>by
  simp only [Sy.cQ] at h
  obtain ⟨⟨p,q⟩,h1,h⟩:=Option.bind_eq_some_iff.1 h
  obtain ⟨⟨p',q'⟩,h2,h⟩:=Option.bind_eq_some_iff.1 h
  cases h
  exact (DF.cT h1).append (DF.cQ h2)
theorem DF.eA {cs:List CK} {bx:Bx S.C} {b:Nat} {x:bl S.C cs} {us:aG S.C} (hx:eA S bx cs b=some (x,us)):DF us:=by
 unfold Sy.eA at hx
 split at hx
 · rename_i ws hb
   cases hw:Nat.beq ws.length (CK.bT S cs) with
   | false=>rw [hw] at hx; cases hx
   | true=>
    rw [hw,cond_true] at hx
    obtain ⟨⟨y,u'⟩,hy,hx⟩:=Option.bind_eq_some_iff.1 hx
    cases hx
    intro u hu
    rcases List.mem_cons.1 hu with rfl | hu
    · exact .inl rfl
    · exact DF.cQ hy u hu
 · cases hx
theorem DF.bP {fs:List (eJ S)} {bx:Bx S.C} {k:K} {V:Sy.V S.C} {x:k.den S.C} {us:aG S.C} (hx:bP S fs bx k V=some (x,us)):DF us:=by
 have obj: ∀ (b:Nat) (us':aG S.C),DF us'→DF ((b, .dead)::us'):=fun b us' h u hu=>by
  rcases List.mem_cons.1 hu with rfl | hu
  · exact .inl rfl
  · exact h u hu
 cases k with
 | val c=>
  cases c with
  | data t=>
   simp only [Sy.bP] at hx
   obtain ⟨y,hy,hx⟩:=Option.bind_eq_some_iff.1 hx
   cases hx
   exact DF.fz (cq.cB bx V)
  | aT e=>exact DF.cT (c:= .aT e) hx
  | aH e=>exact DF.cT (c:= .aH e) hx
 | obj ps=>
  simp only [Sy.bP] at hx
  split at hx
  · split at hx
    · rename_i b off _ ws hb
      cases hw:Nat.beq off 0&&Nat.beq ws.length (CK.bT S ps) with
      | false=>rw [hw] at hx; cases hx
      | true=>
       rw [hw,cond_true] at hx
       obtain ⟨⟨y,u'⟩,hy,hx⟩:=Option.bind_eq_some_iff.1 hx
       cases hx
       exact obj _ _ (DF.cQ hy)
    · cases hx
  · cases hx
 | bD t ps=>
  simp only [Sy.bP] at hx
  split at hx
  · obtain ⟨⟨y,u1⟩,hy,hx⟩:=Option.bind_eq_some_iff.1 hx
    obtain ⟨⟨z,u2⟩,hz,hx⟩:=Option.bind_eq_some_iff.1 hx
    cases hx
    exact (DF.eA hy).append (DF.eA hz)
  · cases hx
 | opt ps=>
  simp only [Sy.bP] at hx
  split at hx
  · cases hx; intro u hu; simp at hu
  · split at hx
    · rename_i b off _ ws hb
      cases hw:Nat.beq off 0&&Nat.beq ws.length (CK.bT S ps) with
      | false=>rw [hw] at hx; cases hx
      | true=>
       rw [hw,cond_true] at hx
       obtain ⟨⟨y,u'⟩,hy,hx⟩:=Option.bind_eq_some_iff.1 hx
       cases hx
       exact obj _ _ (DF.cQ hy)
    · cases hx
  · cases hx
 | bW ps=>
  simp only [Sy.bP] at hx
  split at hx
  · split at hx
    · rename_i b n _ ws hb
      cases hw:Nat.beq n ws.length&&Nat.beq ws.length (CK.bT S ps) with
      | false=>rw [hw] at hx; cases hx
      | true=>
       rw [hw,cond_true] at hx
       obtain ⟨⟨y,u'⟩,hy,hx⟩:=Option.bind_eq_some_iff.1 hx
       cases hx
       exact obj _ _ (DF.cQ hy)
    · cases hx
  · cases hx
 | err=>
  simp only [Sy.bP] at hx
  split at hx
  · cases hx; intro u hu; simp at hu
  · cases hx
 | aV=>
  simp only [Sy.bP] at hx
  split at hx
  · split at hx
    · split at hx
      · rename_i b off _ j hb _ l hj
        cases hw:Nat.beq off 0 with
        | false=>rw [hw] at hx; cases hx
        | true=>
         rw [hw] at hx
         cases hx
         intro u hu
         simp only [List.mem_cons,List.not_mem_nil,or_false] at hu
         rcases hu with rfl | rfl <;> exact .inl rfl
      · cases hx
    · cases hx
  · cases hx
 | nil=>
  simp only [Sy.bP] at hx
  split at hx
  · cases hx; intro u hu; simp at hu
  · cases hx
 | ro t=>
  simp only [Sy.bP] at hx
  obtain ⟨y,hy,hx⟩:=Option.bind_eq_some_iff.1 hx
  cases hx; intro u hu; simp at hu
 | fn A R=>
  simp only [Sy.bP] at hx
  obtain ⟨y,hy,hx⟩:=Option.bind_eq_some_iff.1 hx
  cases hx; intro u hu; simp at hu
theorem DF.cZ {fs:List (eJ S)} : ∀ {ks:List K} {bx:Bx S.C} {Vs:List (Sy.V S.C)} {x:Ks S.C ks} {us:aG S.C},cZ S fs bx ks Vs=some (x,us)→DF us
 | [],_,[],_,_,h=>by cases h; intro u hu; simp at hu
 | [],_,_::_,_,_,h=>by cases h
 | _::_,_,[],_,_,h=>by cases h
 | k::ks,bx,V::Vs,x,us,h=>by
  simp only [Sy.cZ] at h
  obtain ⟨⟨p,q⟩,h1,h⟩:=Option.bind_eq_some_iff.1 h
  obtain ⟨⟨p',q'⟩,h2,h⟩:=Option.bind_eq_some_iff.1 h
  cases h
  exact (DF.bP h1).append (DF.cZ h2)
theorem tD {i:Nat} : ∀ {us:aG S.C} {bx gF:Bx S.C} (dV:Bool),(bx i=some .dead→gF i=some .dead)→ai bx us i=some .dead→ai gF (gr S dV us) i=some .dead
 | [],bx,gF,dV,h,hu=>by
  have :gr S dV ([]:aG S.C)= []:=by cases dV <;> rfl
  rw [this]; exact h hu
 | u::us,bx,gF,true,h,hu=>tD (us:=us) (bx:=ah bx u.1 (some u.2)) (gF:=ah gF u.1 (some u.2)) true (fun hi=>by
  by_cases e:i=u.1
  · rw [e,aL] at hi ⊢; exact hi
  · rw [aY _ _ e] at hi ⊢; exact h hi) hu
 | (k,B)::us,bx,gF,false,h,hu=>by
  have keep:ai gF ((k,B)::gr S false us) i=some .dead:=tD (us:=us) (bx:=ah bx k (some B)) (gF:=ah gF k (some B)) false (fun hi=>by
   by_cases e:i=k
   · rw [e,aL] at hi ⊢; exact hi
   · rw [aY _ _ e] at hi ⊢; exact h hi) hu
  cases B with
  | bp e l=>
   refine tD (us:=us) (bx:=ah bx k (some (.bp e l))) (gF:=gF) false (fun hi=> ?_) hu
   by_cases e:i=k
   · rw [e,aL] at hi
     cases hi
   · rw [aY _ _ e] at hi; exact h hi
  | _=>exact keep
theorem EW {i:Nat} : ∀ {us:aG S.C} {bx:Bx S.C},(∀ u ∈ us,u.2= .dead)→ai bx us i=bx i∨ai bx us i=some .dead
 | [],_,_=> .inl rfl
 | u::us,bx,h=>by
  rcases EW (us:=us) (bx:=ah bx u.1 (some u.2)) (fun v hv=>h v (by simp [hv])) with h1 | h1
  · by_cases e:i=u.1
    · right; show ai (ah bx u.1 (some u.2)) us i=_
      rw [h1,e,aL,h u (by simp)]
    · left; show ai (ah bx u.1 (some u.2)) us i=_
      rw [h1,aY _ _ e]
  · exact .inr h1
theorem Jy {us:aG S.C} (h:DF us) (dV:Bool) (bx:Bx S.C) (i:Nat):
 ai bx (gr S dV us) i=bx i∨ai bx (gr S dV us) i=some .dead∨(dV=true∧ai bx (gr S dV us) i=ai bx us i):=by
 cases dV with
 | true=>exact .inr (.inr ⟨rfl,rfl⟩)
 | false=>
  rcases EW (i:=i) (us:=gr S false us) (bx:=bx) (fun u hu=>by
   unfold gr at hu
   rw [cond_false,List.mem_filter] at hu
   rcases h u hu.1 with h1 | ⟨e,l,h1⟩
   · exact h1
   · rw [h1] at hu; exact absurd hu.2 (by simp)) with h1 | h1
  · exact .inl h1
  · exact .inr (.inl h1)
theorem Inv.call (h:Inv P S w0 M0 s0 dq env a w μ) {cL gs:aG S.C} {dV:Bool} {M M' s':St} {w':World} {lam:Nat→Loc} {I:Nat→Prop} {xD:List Nat}
 (hdf:DF cL) (hk:Tk S env.bx (ai env.bx cL)) (hM:bM S env μ env.bx (ai env.bx cL) M) (hw:aW w w' M)
 (hs': ∀ b o,s' b o→b<w'.heap.size∧ ¬ M' b o∧(bV S w0 M0 s0 env.bx (ai env.bx cL) μ w b o∨M b o∨w.heap.size≤b))
 (pR: ∀ b o,M' b o→M b o∨w.heap.size≤b) (hG:bO P S w' s' I gs lam M') (hI: ∀ i,I i→i ∈ xD∨env.bx i=none)
 (hh: ∀ b ∈ xD,(∃ B,l5 S B∧env.bx b=some B)∧lam b=μ b∧ ∃ B,l5 S B∧(b,B) ∈ gs) (hl:dV=true∨ ∀ b o, ¬ s' b o):
 ∃ μ',Inv P S w0 M0 s0 dq { env with bx:=ai env.bx (gr S dV cL++gs) } a w' μ'∧bC w' s' w' (aC S w0 M0 s0 (ai env.bx (gr S dV cL++gs)) μ' w')∧
  Agree gs lam μ' (ai env.bx (gr S dV cL++gs)):=by
 rw [fN]
 generalize xB:ai env.bx (gr S dV cL)=dh
 let μ':Nat→Loc:=fun i=>if i ∈ gs.map (·.1) then lam i else μ i
 have hin: ∀ u ∈ gs,ai dh gs u.1=some u.2∧μ' u.1=lam u.1:=fun u hu=>⟨vl gs dh hG.one u hu,if_pos (List.mem_map.2 ⟨u,hu,rfl⟩)⟩
 have hout: ∀ i,(∀ u ∈ gs,u.1≠i)→ai dh gs i=dh i∧μ' i=μ i:=fun i hi=>⟨oC gs dh hi,if_neg fun hm=>by
  obtain ⟨u,hu,he⟩:=List.mem_map.1 hm; exact hi u hu he⟩
 have eu: ∀ i,dh i=env.bx i∨dh i=some .dead∨(dV=true∧dh i=ai env.bx cL i):=fun i=>by rw [← xB]; exact Jy hdf dV env.bx i
 have gL: ∀ i,ai env.bx cL i=some .dead→dh i=some .dead:=fun i hi=>by rw [← xB]; exact tD dV (fun h=>h) hi
 have hlv: ∀ i,live S dh i→dh i=env.bx i∧live S env.bx i:=fun i hi=>by
  have h1:dh i=env.bx i:=by
   rcases eu i with h1 | h1 | ⟨_,h1⟩
   · exact h1
   · unfold live at hi; rw [h1] at hi; exact hi.elim
   · rw [h1]; exact hk.cS ((dr S h1).1 hi)
  exact ⟨h1,(dr S h1).1 hi⟩
 let U:Nat→Prop:=fun i=>(∃ u ∈ gs,u.1=i)∨dh i≠env.bx i
 have nw: ∀ b o,M b o→ ∃ i,live S env.bx i∧dh i=some .dead∧(μ i).aB b o:=fun b o hm=>by
  obtain ⟨i,h1,_,h3,h4⟩:=hM b o hm
  exact ⟨i,h1,gL i h3,h4⟩
 have xb: ∀ i,live S env.bx i→dh i=some .dead→U i:=fun i h1 h2=> .inr fun e=>by
  unfold live at h1; rw [← e,h2] at h1; exact h1
 have hT: ∀ b o,M b o→b<w.heap.size→ ∃ i,U i∧live S env.bx i∧(μ i).aB b o:=fun b o hm _=>by
  obtain ⟨i,h1,h2,h3⟩:=nw b o hm
  exact ⟨i,xb i h1 h2,h1,h3⟩
 have hU: ∀ i, ¬ U i→ai dh gs i=env.bx i∧μ' i=μ i:=fun i hi=>by
  obtain ⟨h1,h2⟩:=hout i fun u hu e=>hi (.inl ⟨u,hu,e⟩)
  exact ⟨h1.trans (Classical.not_not.1 fun e=>hi (.inr e)),h2⟩
 have nF: ∀ i,live S (ai dh gs) i→(∃ u ∈ gs,u.1=i∧μ' i=lam u.1)∨(dh i=env.bx i∧live S env.bx i∧μ' i=μ i∧ai dh gs i=dh i):=fun i hi=>by
  by_cases hg: ∃ u ∈ gs,u.1=i
  · obtain ⟨u,hu,rfl⟩:=hg
    exact .inl ⟨u,hu,rfl,(hin u hu).2⟩
  · obtain ⟨h1,h2⟩:=hout i fun u hu e=>hg ⟨u,hu,e⟩
    obtain ⟨h3,h4⟩:=hlv i ((dr S h1).1 hi)
    exact .inr ⟨h3,h4,h2,h1⟩
 have tf: ∀ u ∈ gs, ∀ b o,(lam u.1).aB b o→M' b o:=fun u hu b o hf=>(hG.aB b o).2 ⟨u,hu,hf⟩
 have hf: ∀ i,U i→live S (ai dh gs) i→ ∀ b o,(μ' i).aB b o→w.heap.size≤b∨ ∃ j,U j∧live S env.bx j∧(μ j).aB b o:=by
  intro i hi xK b o hfo
  rcases nF i xK with ⟨u,hu,rfl,h2⟩ | ⟨h1,h2,h3,h4⟩
  · rw [h2] at hfo
    rcases pR b o (tf u hu b o hfo) with hm | hn
    · obtain ⟨j,j1,j2,j3⟩:=nw b o hm
      exact .inr ⟨j,xb j j1 j2,j1,j3⟩
    · exact .inl hn
  · rcases hi with ⟨u,hu,rfl⟩ | hi
    · rw [(hin u hu).2] at hfo
      rcases pR b o (tf u hu b o hfo) with hm | hn
      · obtain ⟨j,j1,j2,j3⟩:=nw b o hm
        exact .inr ⟨j,xb j j1 j2,j1,j3⟩
      · exact .inl hn
    · exact absurd h1 hi
 have p5:=h.later hw hT hU hf
 have eC:bC w' s' w' (aC S w0 M0 s0 (ai dh gs) μ' w'):=by
  intro b o hs
  obtain ⟨q1,q2,q3⟩:=hs' b o hs
  refine ⟨⟨q1, ?_,fun i hi hfo=> ?_⟩,rfl⟩
  · rcases q3 with q3 | q3 | q3
    · exact q3.2.1
    · obtain ⟨i,i1,_,i3⟩:=nw b o q3
      exact (h.own i i1 b o i3).elim (fun h=> .inr (.inr h)) (fun h=> .inr (.inl h))
    · exact .inr (.inr (Nat.le_trans h.fc.size q3))
  · rcases nF i hi with ⟨u,hu,rfl,h2⟩ | ⟨h1,h2,h3,h4⟩
    · rw [h2] at hfo; exact q2 (tf u hu b o hfo)
    · rw [h3] at hfo
      rcases q3 with q3 | q3 | q3
      · rcases q3.2.2 i h2 with ⟨e,l,hq⟩ | hq
        · rcases hl with hl | hl
          · have :dh i=some (.bp e l):=by rw [← xB,hl]; exact hq
            have hi':=(dr S h4).1 hi
            unfold live at hi'
            rw [this] at hi'
            exact hi'
          · exact hl b o hs
        · exact hq hfo
      · obtain ⟨k,k1,k2,k3⟩:=nw b o q3
        refine h.cG i k (fun e=> ?_) h2 k1 b o hfo k3
        subst e
        rw [h1] at k2
        unfold live at h2; rw [k2] at h2; exact h2
      · exact absurd (iC P S (h.bE i) h2 hfo).1 (by omega)
 refine ⟨μ',h.step hw hT hU hf ?_ ?_ ?_ ?_,eC,hin⟩
 · intro i B0 hi
   by_cases hg: ∃ u ∈ gs,u.1=i
   · obtain ⟨u,hu,rfl⟩:=hg
     rcases hI u.1 (hG.dX u hu) with hm | hn
     · obtain ⟨⟨ws,d1,e1⟩,e2,vs,d3,e3⟩:=hh _ hm
       rw [hi] at e1
       cases e1
       have :u=(u.1,vs):=hG.one u hu _ e3 rfl
       refine ⟨_,(hin u hu).1, ?_⟩
       rw [show u.2=vs from congrArg Prod.snd this]
       exact GP S d1 d3 ((hin u hu).2.trans e2)
     · rw [hi] at hn; cases hn
   · obtain ⟨h1,h2⟩:=hout i fun u hu e=>hg ⟨u,hu,e⟩
     rw [h1,h2]
     rcases eu i with e1 | e1 | ⟨e0,e1⟩
     · exact ⟨B0,e1.trans hi,cc.refl S _ _⟩
     · exact ⟨_,e1,by cases B0 <;> rfl⟩
     · rcases hk i with e2 | ⟨e2,_⟩ | ⟨e,l,e2,e3⟩
       · exact ⟨B0,(e1.trans e2).trans hi,cc.refl S _ _⟩
       · exact ⟨_,e1.trans e2,by cases B0 <;> rfl⟩
       · rw [hi] at e2
         cases e2
         exact ⟨_,e1.trans e3,rfl,rfl,rfl⟩
 · intro i j hi hj hij li lj b o fi fj
   rcases nF i li with ⟨u,hu,rfl,h2⟩ | ⟨h1,h2,h3,h4⟩
   · rcases nF j lj with ⟨u',aI,rfl,lU⟩ | ⟨h1',_,_,_⟩
     · rw [h2] at fi; rw [lU] at fj
       exact hG.cG u hu u' aI hij b o fi fj
     · rcases hj with ⟨u',aI,rfl⟩ | hj
       · rw [h2] at fi; rw [(hin u' aI).2] at fj
         exact hG.cG u hu u' aI hij b o fi fj
       · exact hj h1'
   · rcases hi with ⟨u,hu,rfl⟩ | hi
     · rcases nF j lj with ⟨u',aI,rfl,lU⟩ | ⟨h1',_,_,_⟩
       · rw [(hin u hu).2] at fi; rw [lU] at fj
         exact hG.cG u hu u' aI hij b o fi fj
       · rcases hj with ⟨u',aI,rfl⟩ | hj
         · rw [(hin u hu).2] at fi; rw [(hin u' aI).2] at fj
           exact hG.cG u hu u' aI hij b o fi fj
         · exact hj h1'
     · exact hi h1
 · intro i B hi hB
   by_cases hg: ∃ u ∈ gs,u.1=i
   · obtain ⟨u,hu,rfl⟩:=hg
     rw [(hin u hu).1] at hB
     cases hB
     rw [(hin u hu).2]
     exact (hG.rb μ' _ hin u hu).mono eC
   · obtain ⟨h1,h2⟩:=hout i fun u hu e=>hg ⟨u,hu,e⟩
     rw [h1] at hB
     rw [h2]
     have hne:dh i≠env.bx i:=hi.resolve_left hg
     rcases eu i with e1 | e1 | ⟨e0,e1⟩
     · exact absurd e1 hne
     · rw [e1] at hB; cases hB; trivial
     · rcases hk i with e2 | ⟨e2,_⟩ | ⟨e,l,e2,e3⟩
       · exact absurd (e1.trans e2) hne
       · rw [e1,e2] at hB; cases hB; trivial
       · have B5:dh i=some (.bp e l):=e1.trans e3
         rw [B5] at hB
         cases hB
         have bG:live S env.bx i:=by unfold live; rw [e2]; trivial
         obtain ⟨g1,g2,g3,g4,g5⟩:=h.bE i _ e2
         refine ⟨g2,g3,fun k x pY=> ?_⟩
         obtain ⟨ds,d1,d2,n,d3⟩:=g5 k x pY
         refine ⟨ds,d1,fun j u hj=> ?_,n,d3.mono S p5 (Nat.le_refl _)⟩
         have hj':=(List.getElem?_eq_some_iff.1 hj).1
         have nG:=(List.getElem?_eq_some_iff.1 pY).1
         have fe:(μ i).aB (μ i).b ((μ i).o+k*Ty.sz S e+j):=by
          refine ⟨rfl,by omega, ?_⟩
          have :(k+1)*Ty.sz S e≤(μ i).cap*Ty.sz S e:=Nat.mul_le_mul_right _ (by omega)
          rw [Nat.add_mul,Nat.one_mul] at this
          omega
         have Ct: ¬ M (μ i).b ((μ i).o+k*Ty.sz S e+j):=fun hm=>by
          obtain ⟨q,q1,q2,q3⟩:=nw _ _ hm
          refine h.cG i q (fun e=> ?_) bG q1 _ _ fe q3
          subst e
          rw [B5] at q2
          cases q2
         have Cq:=(iC P S (h.bE i) bG fe).1
         refine ⟨(hw.cell _ _ Cq Ct).trans (d2 j u hj),Nat.lt_of_lt_of_le Cq hw.size,(h.own i bG _ _ fe).elim (fun h=> .inr (.inr h)) (fun h=> .inr (.inl h)),fun q hq nE=> ?_⟩
         rcases nF q hq with ⟨u,hu,rfl,h2⟩ | ⟨r1,r2,r3,r4⟩
         · rw [h2] at nE
           rcases pR _ _ (tf u hu _ _ nE) with hm | hn
           · exact Ct hm
           · omega
         · rw [r3] at nE
           refine h.cG q i (fun e=> ?_) r2 bG _ _ nE fe
           subst e
           exact hne r1
 · intro i vs hi hvs v hv j hj
   by_cases hg: ∃ u ∈ gs,u.1=i
   · obtain ⟨u,hu,rfl⟩:=hg
     rw [(hin u hu).1] at hvs
     obtain ⟨u',aI,he⟩:=hG.ref u hu vs (by rcases hvs with hvs | hvs <;> · rw [Option.some.inj hvs]; simp) v hv j hj
     rw [← he,(hin u' aI).1]; simp
   · obtain ⟨h1,h2⟩:=hout i fun u hu e=>hg ⟨u,hu,e⟩
     have hne:dh i≠env.bx i:=hi.resolve_left hg
     rw [h1] at hvs
     rcases eu i with e1 | e1 | ⟨e0,e1⟩
     · exact absurd e1 hne
     · rw [e1] at hvs; rcases hvs with hvs | hvs <;> cases hvs
     · rcases hk i with e2 | ⟨e2,_⟩ | ⟨e,l,e2,e3⟩
       · exact absurd (e1.trans e2) hne
       · rw [e1,e2] at hvs; rcases hvs with hvs | hvs <;> cases hvs
       · rw [e1,e3] at hvs; rcases hvs with hvs | hvs <;> cases hvs
end
end Go.Sy
namespace Go.Sy
section
variable {P:Program} {S:aN} {af:Nat→Nat}
theorem mV {bx aa:Bx S.C} {W:Sy.V S.C} {t:Ty} (hW: ∀ i ∈ aj S W,aa i=bx i):cu S aa t W=cu S bx t W:=by
 cases W with
 | aH b=>simp only [cu]; rw [hW b (by simp [aj])]
 | _=>rfl
theorem Hz {bx aa:Bx S.C} {W:Sy.V S.C} (hW: ∀ i ∈ aj S W,aa i=bx i):cg S aa W=cg S bx W:=by
 cases W with
 | aH b=>simp only [cg]; rw [hW b (by simp [aj])]
 | _=>rfl
theorem EK {bx aa:Bx S.C} : ∀ {ts:List Ty} {vs:List (Sy.V S.C)},(∀ v ∈ vs, ∀ i ∈ aj S v,aa i=bx i)→eZ S aa ts vs=eZ S bx ts vs
 | [],_,_=>rfl
 | t::ts,[],_=>rfl
 | t::ts,v::vs,h=>by
  simp only [eZ]
  rw [mV (h v (by simp)),EK fun v hv=>h v (by simp [hv])]
theorem x7 {bx aa:Bx S.C} {t:Ty} {vs:List (Sy.V S.C)} (h: ∀ v ∈ vs, ∀ i ∈ aj S v,aa i=bx i):fh S aa t vs=fh S bx t vs:=by
 cases t with
 | st u=>simp only [fh]; rw [EK h]
 | _=>
  cases vs with
  | nil=>rfl
  | cons v vs=>exact mV (h v (by simp))
theorem BQ {bx aa:Bx S.C} : ∀ {vs:List (Sy.V S.C)},(∀ v ∈ vs, ∀ i ∈ aj S v,aa i=bx i)→vs.flatMap (cg S aa)=vs.flatMap (cg S bx)
 | [],_=>rfl
 | v::vs,h=>by
  simp only [List.flatMap_cons]
  rw [Hz (h v (by simp)),BQ fun v hv=>h v (by simp [hv])]
theorem Es {bx aa:Bx S.C} {c:CK} {vs:List (Sy.V S.C)} (h: ∀ v ∈ vs, ∀ i ∈ aj S v,aa i=bx i):cT S aa c vs=cT S bx c vs:=by
 cases c with
 | data t=>
  simp only [cT]
  rw [x7 h,BQ fun v hv=>h v (List.mem_of_mem_take hv)]
 | aT e=>
  cases vs with
  | nil=>rfl
  | cons v vs=>
   have :=h v (by simp)
   cases v with
   | aT b e' l=>simp only [cT]; rw [this b (by simp [aj])]
   | _=>rfl
 | aH e=>
  cases vs with
  | nil=>rfl
  | cons v vs=>
   have :=h v (by simp)
   cases v with
   | aH b=>simp only [cT]; rw [this b (by simp [aj])]
   | pre b n=>simp only [cT]; rw [this b (by simp [aj])]
   | _=>rfl
theorem lz {i:Nat} : ∀ (us:aG S.C) {bx aa:Bx S.C},aa i=bx i→ai aa us i=ai bx us i
 | [],_,_,h=>h
 | u::us,bx,aa,h=>lz us (bx:=ah bx u.1 (some u.2)) (aa:=ah aa u.1 (some u.2)) (by
  by_cases e:i=u.1
  · rw [e,aL,aL]
  · rw [aY _ _ e,aY _ _ e]; exact h)
theorem vk: ∀ {cs:List CK} {bx aa:Bx S.C} {vs:List (Sy.V S.C)},(∀ v ∈ vs, ∀ i ∈ aj S v,aa i=bx i)→cQ S aa cs vs=cQ S bx cs vs
 | [],_,_,_,_=>rfl
 | c::cs,bx,aa,vs,h=>by
  simp only [cQ]
  rw [Es h]
  cases cT S bx c vs with
  | none=>rfl
  | some a=>
   simp only [Option.bind_some]
   rw [vk fun v hv i hi=>lz _ (h v (List.mem_of_mem_drop hv) i hi)]
def fP (S:aN) (bx aa:Bx S.C) (V:Sy.V S.C):Prop:=
 ∀ i ∈ av S V,aa i=bx i∧(∀ vs,(bx i=some (.cells vs)∨bx i=some (.bw vs))→ ∀ v ∈ vs, ∀ j ∈ aj S v,aa j=bx j)∧ ∀ j,bx i=some (.aV j)→aa j=bx j
theorem Ot {us:aG S.C} {i:Nat} {vs:List (Sy.V S.C)} (h:DF us): ∀ {bx:Bx S.C},(ai bx us i=some (.cells vs)∨ai bx us i=some (.bw vs))→(bx i=some (.cells vs)∨bx i=some (.bw vs)):=by
 induction us with
 | nil=>exact fun h=>h
 | cons u us ih=>
  intro bx hu
  have :=ih (fun v hv=>h v (by simp [hv])) (bx:=ah bx u.1 (some u.2)) hu
  by_cases e:i=u.1
  · rw [e,aL] at this
    rcases h u (by simp) with h1 | ⟨_,_,h1⟩ <;> · rw [h1] at this; rcases this with h2 | h2 <;> cases h2
  · rw [aY _ _ e] at this; exact this
theorem Ou {us:aG S.C} {i j:Nat} (h:DF us): ∀ {bx:Bx S.C},ai bx us i=some (.aV j)→bx i=some (.aV j):=by
 induction us with
 | nil=>exact fun h=>h
 | cons u us ih=>
  intro bx hu
  have :=ih (fun v hv=>h v (by simp [hv])) (bx:=ah bx u.1 (some u.2)) hu
  by_cases e:i=u.1
  · rw [e,aL] at this
    rcases h u (by simp) with h1 | ⟨_,_,h1⟩ <;> · rw [h1] at this; cases this
  · rw [aY _ _ e] at this; exact this
theorem fP.ai {bx aa:Bx S.C} {V:Sy.V S.C} {us:aG S.C} (hd:DF us) (h:fP S bx aa V):fP S (ai bx us) (ai aa us) V:=fun i hi=>
 ⟨lz us (h i hi).1,fun vs hvs v hv j hj=>lz us ((h i hi).2.1 vs (Ot hd hvs) v hv j hj),fun j hj=>lz us ((h i hi).2.2 j (Ou hd hj))⟩
theorem Gg {bx aa:Bx S.C} {t:Ty} {v:Sy.V S.C} (this: ∀ i ∈ aj S v,aa i=bx i∧ ∀ ws,(bx i=some (.cells ws)∨bx i=some (.bw ws))→ ∀ v ∈ ws, ∀ j ∈ aj S v,aa j=bx j):iW S aa t v=iW S bx t v:=by
 cases v with
 | ptr b off=>
  obtain ⟨h1,h2⟩:=this b (by simp [aj])
  cases off with
  | zero=>
   simp only [iW]
   rw [h1]
   split
   · rename_i ws hb
     rw [x7 (h2 ws (.inr hb))]
   · rfl
  | succ n=>rfl
 | _=>rfl
theorem v7 {bx aa:Bx S.C} : ∀ {ts:List Ty} {vs:List (Sy.V S.C)},(∀ v ∈ vs, ∀ i ∈ aj S v,aa i=bx i∧ ∀ ws,(bx i=some (.cells ws)∨bx i=some (.bw ws))→ ∀ v ∈ ws, ∀ j ∈ aj S v,aa j=bx j)→caps S aa ts vs=caps S bx ts vs
 | [],[],_=>rfl
 | [],_::_,_=>rfl
 | t::ts,[],_=>rfl
 | t::ts,v::vs,h=>by
  simp only [caps]
  have h1:iW S aa t v=iW S bx t v:=by
   have :=h v (by simp)
   cases v with
   | ptr b off=>
    obtain ⟨h1,h2⟩:=this b (by simp [aj])
    cases off with
    | zero=>
     simp only [iW]
     rw [h1]
     split
     · rename_i ws hb
       rw [x7 (h2 ws (.inr hb))]
     · rfl
    | succ n=>rfl
   | _=>rfl
  rw [h1,v7 fun v hv=>h v (by simp [hv])]
theorem Hu {fs:List (eJ S)} {bx aa:Bx S.C} {A R:List Ty} {V:Sy.V S.C} (h:fP S bx aa V):lS S fs aa A R V=lS S fs bx A R V:=by
 cases V with
 | dS f vs=>
  simp only [lS]
  have : ∀ ts,caps S aa ts vs=caps S bx ts vs:=fun ts=>v7 fun v hv i hi=>have q:=h i (by simp only [av,List.mem_flatMap]; exact ⟨v,hv,hi⟩); ⟨q.1,q.2.1⟩
  simp only [this]
 | _=>rfl
theorem EA {bx aa:Bx S.C} {cs:List CK} {b:Nat} (h:fP S bx aa (.ptr b 0)):eA S aa cs b=eA S bx cs b:=by
 unfold eA
 rw [(h b (by simp [av,aj])).1]
 split
 · rename_i vs hb
   have :cQ S (ah aa b (some .dead)) cs (vs.drop 0)=cQ S (ah bx b (some .dead)) cs (vs.drop 0):=by
    refine vk fun v hv i hi=> ?_
    have :=(h b (by simp [av,aj])).2.1 vs (.inl hb) v (List.mem_of_mem_drop hv) i hi
    by_cases e:i=b
    · rw [e,aL,aL]
    · rw [aY _ _ e,aY _ _ e]; exact this
   rw [this]
 · rfl
theorem Nt {fs:List (eJ S)} {bx aa:Bx S.C} {k:K} {V:Sy.V S.C} (h:fP S bx aa V):bP S fs aa k V=bP S fs bx k V:=by
 have h1: ∀ (c:CK),cT S aa c [V]=cT S bx c [V]∨ ∃ u vs,V= .agg u vs∨V= .dS u vs∨V= .fy vs:=by
  intro c
  cases V with
  | agg u vs=>exact .inr ⟨u,vs, .inl rfl⟩
  | dS u vs=>exact .inr ⟨u,vs, .inr (.inl rfl)⟩
  | fy vs=>exact .inr ⟨0,vs, .inr (.inr rfl)⟩
  | _=>exact .inl (Es fun v hv i hi=>by simp at hv; subst hv; exact (h i hi).1)
 have obj: ∀ (cs:List CK) (b:Nat) (vs:List (Sy.V S.C)) (off:Nat),V= .ptr b off→bx b=some (.cells vs)→cQ S (ah aa b (some .dead)) cs (vs.drop off)=cQ S (ah bx b (some .dead)) cs (vs.drop off):=by
  rintro cs b vs off rfl hb
  refine vk fun v hv i hi=> ?_
  have :=(h b (by simp [av,aj])).2.1 vs (.inl hb) v (List.mem_of_mem_drop hv) i hi
  by_cases e:i=b
  · rw [e,aL,aL]
  · rw [aY _ _ e,aY _ _ e]; exact this
 cases k with
 | val c=>
  cases c with
  | data t=>
   obtain ⟨d1,d2⟩:=pg (t:=t) fun i hi=>(h i hi).1
   simp only [bP,d1,d2]
  | aT e=>
   rcases h1 (.aT e) with h1 | ⟨u,vs,rfl | rfl | rfl⟩
   · exact h1
   all_goals rfl
  | aH e=>
   rcases h1 (.aH e) with h1 | ⟨u,vs,rfl | rfl | rfl⟩
   · exact h1
   all_goals rfl
 | obj cs=>
  cases V with
  | ptr b off=>
   simp only [bP]
   rw [(h b (by simp [av,aj])).1]
   split
   · rename_i vs hb
     rw [obj cs b vs off rfl hb]
   · rfl
  | _=>rfl
 | opt cs=>
  cases V with
  | ptr b off=>
   simp only [bP]
   rw [(h b (by simp [av,aj])).1]
   split
   · rename_i vs hb
     rw [obj cs b vs off rfl hb]
   · rfl
  | _=>rfl
 | bW cs=>
  cases V with
  | bW b n=>
   simp only [bP]
   rw [(h b (by simp [av,aj])).1]
   split
   · rename_i vs hb
     have :cQ S (ah aa b (some .dead)) cs (vs.drop 0)=cQ S (ah bx b (some .dead)) cs (vs.drop 0):=by
      refine vk fun v hv i hi=> ?_
      have :=(h b (by simp [av,aj])).2.1 vs (.inl hb) v (List.mem_of_mem_drop hv) i hi
      by_cases e:i=b
      · rw [e,aL,aL]
      · rw [aY _ _ e,aY _ _ e]; exact this
     rw [this]
   · rfl
  | _=>rfl
 | bD t cs=>
  cases V with
  | split b c=>
   simp only [bP]
   have hc:fP S bx aa (.ptr c 0):=fun i hi=>h i (by simp [av,aj] at hi ⊢; exact .inr hi)
   have hb:fP S bx aa (.ptr b 0):=fun i hi=>h i (by simp [av,aj] at hi ⊢; exact .inl hi)
   rw [EA hc]
   cases hy:eA S bx [.data t] c with
   | none=>rfl
   | some y=>
    simp only [Option.bind_some]
    rw [EA (hb.ai (DF.eA (us:=y.2) (x:=y.1) hy))]
  | _=>rfl
 | nil=>rfl
 | err=>rfl
 | aV=>
  cases V with
  | ptr b off=>
   simp only [bP]
   rw [(h b (by simp [av,aj])).1]
   split
   · rename_i j hb
     rw [(h b (by simp [av,aj])).2.2 j hb]
   · rfl
  | _=>rfl
 | ro t=>
  cases V with
  | ptr b off=>
   simp only [bP]
   have :=Gg (t:=t) (v:= .ptr b off) fun i hi=>⟨(h i hi).1,(h i hi).2.1⟩
   rw [this]
  | _=>rfl
 | fn A R=>simp only [bP]; rw [Hu h]
theorem Ev {fs:List (eJ S)} : ∀ {ks:List K} {bx aa:Bx S.C} {Vs:List (Sy.V S.C)},(∀ V ∈ Vs,fP S bx aa V)→cZ S fs aa ks Vs=cZ S fs bx ks Vs
 | [],_,_,[],_=>rfl
 | [],_,_,_::_,_=>rfl
 | k::ks,_,_,[],_=>rfl
 | k::ks,bx,aa,V::Vs,h=>by
  simp only [cZ]
  rw [Nt (h V (by simp))]
  cases hk:bP S fs bx k V with
  | none=>rfl
  | some a=>
   simp only [Option.bind_some]
   rw [Ev fun V' HV=>(h V' (by simp [HV])).ai (DF.bP (us:=a.2) (x:=a.1) hk)]
theorem bL.length {w:World} {s:St} : ∀ {M:St} {ks:List K} {x:Ks S.C ks} {vs:List Value},bL P S w s M ks x vs→vs.length=ks.length
 | _,[],_,_,h=>by rw [h.2]; rfl
 | _,k::ks,_,_,⟨M1,M2,v,r,h1,h2,h3,h4⟩=>by subst h2; rw [List.length_cons,bL.length h4]; rfl
theorem ay.flat {w:World} {s s':St} {n:Nat} {t:Ty} (hf:sU S t=true) {x:t.den S.C} {cs:List Value} (h:ay S w s n t x cs):ay S w s' n t x cs:=by
 cases n with
 | zero=>exact h.elim
 | succ n=>cases t with
  | int k=>exact h
  | bool=>exact h
  | str=>exact h
  | pt=>exact h
  | sl e=>simp [sU] at hf
  | st u=>
   cases n with
   | zero=>
    have : ∀ (ts:List Ty) (x:ag S.C ts) (cs:List Value),bk S (fun t x cs=>ay S w s 0 t x cs) ts x cs→bk S (fun t x cs=>ay S w s' 0 t x cs) ts x cs:=by
     intro ts x cs h
     exact bk.mono S (fun t x cs h=>h.elim) ts x cs h
    exact this _ _ _ h
   | succ m=>exact (bk.flat S (m:=m) _ _ _ hf h)
theorem hY.flat {w:World} {s s' M:St} {c:CK} (hf:lR S c=true) {x:c.den S.C} {cs:List Value} (h:hY S w s M c x cs):hY S w s' M c x cs:=by
 cases c with
 | data t=>exact ⟨h.1,h.2.imp fun _ hn=>hn.flat hf⟩
 | aT e=>simp [lR] at hf
 | aH e=>
  obtain ⟨a,cap,L,h1,h2,h3,h4,h5⟩:=h
  refine ⟨a,cap,L,h1,h2,h3,h4,fun i y hi=> ?_⟩
  obtain ⟨ds,d1,d2,n,d3⟩:=h5 i y hi
  exact ⟨ds,d1,d2,n,d3.flat hf⟩
theorem e9.flat {w:World} {s s':St} : ∀ {M:St} {cs:List CK} {x:bl S.C cs} {vs:List Value},cs.all (lR S)=true→e9 S w s M cs x vs→e9 S w s' M cs x vs
 | _,[],_,_,_,h=>h
 | _,_::_,_,_,hf,⟨M1,M2,v1,v2,h1,h2,h3,h4,h5⟩=>by
  simp only [List.all_cons,Bool.and_eq_true] at hf
  exact ⟨M1,M2,v1,v2,h1,h2,h3,h4.flat hf.1,e9.flat hf.2 h5⟩
theorem c7.flat {w:World} {s s' M:St} {cs:List CK} (hf:cs.all (lR S)=true) {x:bl S.C cs} {v:Value} (h:c7 S w s M cs x v):c7 S w s' M cs x v:=by
 obtain ⟨b,o,ds,M',h1,h2,h3,h4,h5⟩:=h
 exact ⟨b,o,ds,M',h1,h2,h3,h4,h5.flat hf⟩
theorem iR.flat {w:World} {s s' M:St} {k:K} (hf:nq S k=true) {x:k.den S.C} {v:Value} (h:iR P S w s M k x v):iR P S w s' M k x v:=by
 cases k with
 | val c=>exact ⟨h.1.flat hf,h.2⟩
 | obj cs=>exact c7.flat hf h
 | aV=>exact h
 | opt cs=>
  cases x with
  | none=>exact h
  | some y=>exact c7.flat hf h
 | nil=>exact h
 | ro t=>simp [nq] at hf
 | fn a r=>simp [nq] at hf
 | bD t cs=>simp [nq] at hf
 | bW cs=>
  obtain ⟨p,h1,h2⟩:=h
  exact ⟨p,h1,c7.flat hf h2⟩
 | err=>exact h
theorem bL.flat {w:World} {s s':St} : ∀ {M:St} {ks:List K} {x:Ks S.C ks} {vs:List Value},ks.all (nq S)=true→bL P S w s M ks x vs→bL P S w s' M ks x vs
 | _,[],_,_,_,h=>h
 | _,_::_,_,_,hf,⟨M1,M2,v,r,h1,h2,h3,h4⟩=>by
  simp only [List.all_cons,Bool.and_eq_true] at hf
  exact ⟨M1,M2,v,r,h1,h2,h3.flat hf.1,bL.flat hf.2 h4⟩
def aD (P:Program) (S:aN) (e:Entry S):Prop:=iP P e.f∧ ∀ (w:World) (s M:St) (x:Ks S.C e.ps) (args:List Value) (r:Ks S.C (e.rs++outs e.ps)),
 bL P S w s M e.ps x args→(∀ b o,s b o→b<w.heap.size∧ ¬ M b o)→fO S w M→e.sp x=some r→
 Calls P e.f args.toArray w fun en w'=> ∃ us s' M',en= .returned (gT us)∧aW w w' M∧bL P S w' s' M' (e.rs++outs e.ps) r (us++dJ e.ps args)∧
  (∀ b o,s' b o→b<w'.heap.size∧ ¬ M' b o∧(s b o∨M b o∨w.heap.size≤b))∧ ∀ b o,M' b o→M b o∨w.heap.size≤b
def kB (P:Program) (S:aN) (w0:World) (M0:St) (e:Entry S):Prop:=iP P e.f∧ ∀ (w:World) (s M:St) (x:Ks S.C e.ps) (args:List Value) (r:Ks S.C (e.rs++outs e.ps)),
 aW w0 w M0→(∀ b o,M b o→w0.heap.size≤b∨M0 b o)→bL P S w s M e.ps x args→(∀ b o,s b o→b<w.heap.size∧ ¬ M b o)→e.sp x=some r→
 Calls P e.f args.toArray w fun en w'=> ∃ us s' M',en= .returned (gT us)∧aW w w' M∧bL P S w' s' M' (e.rs++outs e.ps) r (us++dJ e.ps args)∧
  (∀ b o,s' b o→b<w'.heap.size∧ ¬ M' b o∧(s b o∨M b o∨w.heap.size≤b))∧ ∀ b o,M' b o→M b o∨w.heap.size≤b
theorem aD.at {w0:World} {M0:St} {e:Entry S} (h:aD P S e) (hG:fO S w0 M0):kB P S w0 M0 e:=
 ⟨h.1,fun w s M x args r hc hM hx hs hr=>h.2 w s M x args r hx hs ⟨fun g hg=>by
  obtain ⟨g1,g2,v,g3,g4⟩:=hG.1 g hg
  refine ⟨Nat.lt_of_lt_of_le g1 hc.size,fun hm=> ?_,v,(hc.cell g.1.1 g.1.2 g1 g2).trans g3,g4⟩
  rcases hM _ _ hm with h1 | h1
  · exact absurd g1 (Nat.not_lt.2 h1)
  · exact g2 h1,fun g hg=>by
  obtain ⟨g1,g2,v,g3,g4⟩:=hG.2 g hg
  refine ⟨Nat.lt_of_lt_of_le g1 hc.size,fun o hm=> ?_,v,(hc.same g.1 g1 g2).trans g3,g4⟩
  rcases hM _ _ hm with h1 | h1
  · exact absurd g1 (Nat.not_lt.2 h1)
  · exact g2 o h1⟩ hr⟩
end
end Go.Sy
namespace Go.Sy
section
variable {P:Program} {S:aN} {af:Nat→Nat}
variable {w0:World} {M0 s0:St} {dq:List Deferred} {env:Env S.C} {a:Act} {w:World} {μ:Nat→Loc} {K:Act→World→Prop} {Q:Exit→Act→World→Prop} {o:Oper} {V:V S.C} {us:aG S.C}
theorem Ag {s:St} {bx:Bx S.C} {vs:List (Sy.V S.C)} {us:List Value} (h:aF P S w s μ bx vs us):RV P S w s μ bx (lu S vs) (gT us):=by
 cases vs with
 | nil=>cases h; exact ⟨#[],rfl,rfl⟩
 | cons v vs=>
  obtain ⟨c,r,rfl,h1,h2⟩:=h
  cases vs with
  | nil=>cases h2; exact iT h1
  | cons v' vs=>
   obtain ⟨c',r',rfl,h3,h4⟩:=h2
   exact ⟨_,rfl,c,c'::r',by simp,h1,c',r',rfl,h3,h4⟩
theorem CI {vs:List (Sy.V S.C)} {j:Nat} (h:j ∈ av S (lu S vs)): ∃ v ∈ vs,j ∈ aj S v∨j ∈ av S v:=by
 cases vs with
 | nil=>simp [lu,av] at h
 | cons v vs=>
  cases vs with
  | nil=>exact ⟨v,by simp, .inr h⟩
  | cons v' vs=>
   simp only [lu,av,List.mem_flatMap] at h
   obtain ⟨u,hu,hj⟩:=h
   exact ⟨u,hu, .inl hj⟩
theorem Jq {s:St} {bx:Bx S.C} {V:Sy.V S.C} {v:Value} (h:bn P S w s μ bx V v) {j:Nat} (hj:j ∈ av S V):j ∈ aj S V:=by
 cases V <;> first | exact hj | exact (h:False).elim
theorem CH {s:St} {bx:Bx S.C} : ∀ {vs:List (Sy.V S.C)} {cs:List Value},aF P S w s μ bx vs cs→ ∀ v ∈ vs, ∀ j ∈ av S v,j ∈ aj S v
 | [],_,_,v,hv,_,_=>by simp at hv
 | u::vs,_,⟨c,r,h1,h2,h3⟩,v,hv,j,hj=>by
  rcases List.mem_cons.1 hv with rfl | hv
  · exact Jq h2 hj
  · exact CH h3 v hv j hj
theorem zq {c:Call} (ho:o.op= .call c) {f:Operand} (hc:c.callee= .value f) {g:Nat} {first cap:Array Value} (hf:a.eval f= .func (.func g) first cap) (hok:iP P g):
 (execOp a.eval o).run P w= .ok (.enter g (first++c.args.map a.eval++cap)) w:=by
 obtain ⟨fn,h1,h2,h3⟩:=hok
 unfold execOp
 simp only [ho]
 have lU: ¬ fn.name= "runtime.NumGoroutine" :=by simpa using h2
 have HO: ¬ fn.body=none:=fun e=>by rw [e] at h3; cases h3
 simp [resolve,hc,hf,Deferred.ofValue,invoke,callFunc,h1,lU,HO]
theorem yI: ∀ (ps:List Sy.K) (args:List Value),args.length=ps.length→(dJ ps args).length=(outs ps).length
 | [],_,_=>by simp [dJ,outs]
 | _::_,[],h=>by simp at h
 | k::ps,v::args,h=>by
  have ih:=yI ps args (by simpa using h)
  cases k <;> simp [dJ,outs,ih]
theorem AL (hP:aO P S af) {T:eM S} {f:Nat} {args:Array Value} {C:(Ending→World→Prop)→Prop} (hmono: ∀ R R',(∀ en w',R en w'→R' en w')→C R→C R')
 (hT: ∀ e ∈ T.es,e.f=f→ ∀ (s M:St) (x:Ks S.C e.ps) (r:Ks S.C (e.rs++outs e.ps)),(∀ b o,M b o→w0.heap.size≤b∨M0 b o)→bL P S w s M e.ps x args.toList→(∀ b o,s b o→b<w.heap.size∧ ¬ M b o)→e.sp x=some r→
  C fun en w'=> ∃ us s' M',en= .returned (gT us)∧aW w w' M∧bL P S w' s' M' (e.rs++outs e.ps) r (us++dJ e.ps args.toList)∧
   (∀ b o,s' b o→b<w'.heap.size∧ ¬ M' b o∧(s b o∨M b o∨w.heap.size≤b))∧ ∀ b o,M' b o→M b o∨w.heap.size≤b)
 (hF: ∀ e ∈ T.fs,eK P S e) (h:Inv P S w0 M0 s0 dq env a w μ) {B:Nat} {ec:Bx S.C}
 {Vs:List (Sy.V S.C)} (hargs:dQ P S w (aC S w0 M0 s0 env.bx μ w) μ env.bx Vs args.toList)
 (hkn: ∀ V ∈ Vs,fP S env.bx ec V) (hnew: ∀ u ∈ us,B≤u.1→u.1<B+16→env.bx u.1=none)
 (hl:(kE S T B ec f Vs).leaf (V,us)):
 C fun en w'=> ∃ v μ',en= .returned v∧Inv P S w0 M0 s0 dq { env with bx:=ai env.bx us } a w' μ'∧RV P S w' (aC S w0 M0 s0 (ai env.bx us) μ' w') μ' (ai env.bx us) V v∧ ∀ j ∈ av S V,ai env.bx us j≠none:=by
 unfold kE at hl
 split at hl
 · rename_i e tk hfind
   obtain ⟨e0,pV,hsel⟩:=List.exists_of_findSome?_eq_some hfind
   split at hsel
   · rename_i iz
     obtain ⟨kf,htk,hsel⟩:=Option.bind_eq_some_iff.1 hsel
     cases hsel
     cases hlim:Nat.ble (fG e.rs+fG (outs e.ps)) 16&&(cJ S e.ps Vs).all fun b=> !(Nat.ble B b&&Nat.blt b (B+16)) with
     | false=>rw [hlim] at hl; exact hl.elim
     | true=>
      rw [hlim,cond_true] at hl
      rw [Bool.and_eq_true] at hlim
      obtain ⟨hlim,H6⟩:=hlim
      have hlim:=Nat.le_of_ble_eq_true hlim
      obtain ⟨r,hr,hl⟩:=hl
      rw [Ev hkn] at htk
      obtain ⟨x,cL⟩:=tk
      dsimp only at hr hl
      obtain ⟨k1,M,kr,fr⟩:=rI hP.toct h hF e.ps (Tk.refl S env.bx) hargs htk
      have Jc: ∀ (ks:List Sy.K) (bx:Bx S.C) (hk:Tk S env.bx bx) (Vs:List (Sy.V S.C)) (args:List Value) (x:Ks S.C ks) (us:aG S.C),dQ P S w (aC S w0 M0 s0 env.bx μ w) μ env.bx Vs args→cZ S T.fs bx ks Vs=some (x,us)→Tk S bx (ai bx us):=
       fun ks bx hk Vs args x us h1 h2=>(rI hP.toct h hF ks hk h1 h2).1
      obtain ⟨oo,KC,od⟩:=Ew (s:=aC S w0 M0 s0 env.bx μ w) (s':=aC S w0 M0 s0 env.bx μ w) h.bE e.ps (Tk.refl S env.bx) Jc hargs htk
      have hdf:=DF.cZ htk
      have CD: ∀ b o,bV S w0 M0 s0 env.bx (ai env.bx cL) μ w b o→b<w.heap.size∧ ¬ M b o:=by
       intro b o ⟨q1,q2,q3⟩
       refine ⟨q1,fun hm=> ?_⟩
       obtain ⟨i,i1,_,i3,i4⟩:=fr b o hm
       rcases q3 i i1 with ⟨_,_,hq⟩ | hq
       · rw [i3] at hq; cases hq
       · exact hq i4
      refine hmono _ _ ?_ (hT e pV iz _ M x r (fun b o hm=>by obtain ⟨i,i1,_,_,i4⟩:=fr b o hm; exact h.own i i1 b o i4) kr CD hr)
      rintro en w' ⟨vs,s',M',rfl,hw,hks,hs',pR⟩
      have Ix: ∃ s2:St,bL P S w' s2 M' (e.rs++outs e.ps) r (vs++dJ e.ps args.toList)∧(∀ b o,s2 b o→s' b o)∧(tF S e=true∨ ∀ b o, ¬ s2 b o):=by
       cases hlk:tF S e with
       | true=>exact ⟨s',hks,fun _ _ h=>h, .inl rfl⟩
       | false=>
        unfold tF at hlk
        simp only [Bool.not_eq_false'] at hlk
        exact ⟨fun _ _=>False,hks.flat hlk,fun _ _ h=>h.elim, .inr fun _ _ h=>h⟩
      obtain ⟨s2,Cn,hs2,hlk⟩:=Ix
      obtain ⟨q,M1,M2,us',ws,hq,hv1,hsp,Cv,n1,n2,l1,g1,r1,j4⟩:=C6 hP.toct e.rs B Cn hl
      obtain ⟨rfl,rfl⟩:=bh hq
      have hlen:=bL.length Cn
      have hlo:=bL.length Cv
      have hla:args.toList.length=e.ps.length:=bL.length kr
      have hol:=yI e.ps args.toList hla
      have hsame:vs=us'∧dJ e.ps args.toList=ws:=by
       refine List.append_inj hv1 ?_
       have :=congrArg List.length hv1
       simp only [List.length_append] at this
       omega
      obtain ⟨rfl,rfl⟩:=hsame
      have xI: ∀ b ∈ cJ S e.ps Vs, ∀ i,B≤i→i<B+16→i≠b:=by
       rintro b hb i h1 h2 rfl
       have :=List.all_eq_true.1 H6 i hb
       rw [show Nat.ble B i=true from Nat.ble_eq_true_of_le h1,show Nat.blt i (B+16)=true from Nat.ble_eq_true_of_le h2] at this
       cases this
      obtain ⟨l2,g2,Cm⟩:=iE (P:=P) hP.toct e.ps q.2.2 (oo.later fun b o hs=>have hq:=CD b o (ju S w0 M0 s0 env.bx (ai env.bx cL) μ w b o hs).1; hw.cell b o hq.1 hq.2) KC (fun b hb i h1 h2=>xI b hb i (by omega) (by omega)) Cv
      obtain ⟨g,hag⟩:=bO.both g1 g2 (fun i h1 h2=>by
       rcases h2 with h2 | h2
       · exact xI i h2 i (by omega) (by omega) rfl
       · omega) hsp
      have xH:bO P S w' s2 (fun i=> ∃ u ∈ (q.2.1++dN S q.2.2 e.ps Vs (gB S e.rs (outs e.ps) r).2),u.1=i) (q.2.1++dN S q.2.2 e.ps Vs (gB S e.rs (outs e.ps) r).2) _ M':=
       ⟨fun u hu=>⟨u,hu,rfl⟩,g.one,g.rb,g.lv,g.aB,g.cG,g.ref⟩
      obtain ⟨μ',hI,eC,B4⟩:=h.call (xD:=cJ S e.ps Vs) hdf k1 fr hw (fun b o hs=>hs' b o (hs2 b o hs)) pR xH (fun i hi=>by
       obtain ⟨u,hu,rfl⟩:=hi
       rcases g.dX u hu with h1 | h1 | h1
       · exact .inr (hnew u (List.mem_append.2 (.inr hu)) h1.1 (by omega))
       · exact .inl h1
       · exact .inr (hnew u (List.mem_append.2 (.inr hu)) (by omega) (by omega)))
       (fun b hb=>⟨(od b hb).1,by
        unfold both
        rw [if_neg]
        · exact (Cm b hb).1
        · intro hm
          obtain ⟨u,hu,he⟩:=List.mem_map.1 hm
          have :=g1.dX u hu
          rw [he] at this
          exact xI b hb b this.1 (by omega) rfl,by
        obtain ⟨vs,hh,hvs⟩:=(Cm b hb).2
        exact ⟨vs,hh,List.mem_append.2 (.inr hvs)⟩⟩) hlk
      have cv:=(j4 _ _ (hag _ _ B4).1).mono eC
      refine ⟨_,μ',rfl,hI,Ag cv,fun j hj=> ?_⟩
      obtain ⟨v,hv,hj⟩:=CI hj
      obtain ⟨u,hu,he⟩:=r1 v hv j (hj.elim id fun hj=>CH cv v hv j hj)
      have :=(B4 u (List.mem_append.2 (.inl hu))).1
      rw [he] at this
      rw [this]
      simp
   · cases hsel
 · exact hl.elim
theorem Ge (hP:aO P S af) {T:eM S} (hT: ∀ e ∈ T.es,kB P S w0 M0 e) (hF: ∀ e ∈ T.fs,eK P S e) (h:Inv P S w0 M0 s0 dq env a w μ) (hd: ∀ d,o.dst=some d→d<a.tmps.size) {B:Nat} {ids:List Nat}
 {Vs:List (Sy.V S.C)} {args:Array Value} {f:Nat} (hrun:iP P f→(execOp a.eval o).run P w= .ok (.enter f args) w) (hargs:dQ P S w (aC S w0 M0 s0 env.bx μ w) μ env.bx Vs args.toList)
 (hkn: ∀ V ∈ Vs,fP S env.bx (restrict S env.bx ids) V) (hnew: ∀ u ∈ us,B≤u.1→u.1<B+16→env.bx u.1=none)
 (hl:(kE S T B (restrict S env.bx ids) f Vs).leaf (V,us)) (hK:Goal P S w0 M0 s0 dq env a o.dst V us K):o.wp P a w K Q:=by
 have hok:iP P f:=by
  unfold kE at hl
  split at hl
  · rename_i e tk hfind
    obtain ⟨e0,pV,hsel⟩:=List.exists_of_findSome?_eq_some hfind
    split at hsel
    · rename_i iz
      rw [← iz]; exact (hT e0 pV).1
    · cases hsel
  · exact hl.elim
 unfold Oper.wp
 rw [hrun hok]
 refine Calls.mono (AL (dq:=dq) hP (C:=fun R=>Calls P f args w R) (fun R R' hR hc=>Calls.mono hc hR) (fun e he iz s M x r hM hx hs hr=> ?_) hF h hargs hkn hnew hl) ?_
 · have hc:=(hT e he).2 w s M x args.toList r h.fc hM hx hs hr
   rw [iz,show args.toList.toArray=args from by simp] at hc
   exact hc
 · rintro en w' ⟨v,μ',rfl,hI,cv,eo⟩
   refine hK _ w' μ' (hI.put hd cv eo) ?_
   cases o.dst <;> simp [Act.put]
end
end Go.Sy
namespace Go.Sy
section
variable {P:Program} {S:aN} {af:Nat→Nat}
variable {w0:World} {M0 s0:St} {dq:List Deferred} {env:Env S.C} {a:Act} {w:World} {μ:Nat→Loc} {K:Act→World→Prop} {Q:Exit→Act→World→Prop} {o:Oper} {V:V S.C} {us:aG S.C}
theorem Inv.world (h:Inv P S w0 M0 s0 dq env a w μ) {w':World} (hw:aW w w' (fun _ _=>False)):
 Inv P S w0 M0 s0 dq env a w' μ∧bC w' (grown (aC S w0 M0 s0 env.bx μ w) w w') w' (aC S w0 M0 s0 env.bx μ w'):=by
 have p5:=h.later (T:=fun _ _=>False) (U:=fun _=>False) (aa:=env.bx) (μ':=μ) hw (fun _ _ h=>h.elim) (fun _ _=>⟨rfl,rfl⟩) (fun _ h=>h.elim)
 refine ⟨h.step (T:=fun _ _=>False) (U:=fun _=>False) hw (fun _ _ h=>h.elim) (fun _ _=>⟨rfl,rfl⟩) (fun _ h=>h.elim) (fun i B0 hi=>⟨B0,hi,cc.refl S _ _⟩) (fun _ _ h=>h.elim) (fun _ _ h=>h.elim) (fun _ _ h=>h.elim), ?_⟩
 rintro b o (hs | ⟨h1,h2⟩)
 · exact ⟨(p5 b o hs).1,rfl⟩
 · exact ⟨⟨h2, .inr (.inr (Nat.le_trans h.fc.size h1)),fun i li hf=>absurd (iC P S (h.bE i) li hf).1 (by omega)⟩,rfl⟩
theorem Be {bx aa:Bx S.C} : ∀ {ts:List Ty} {Vs:List (Sy.V S.C)},(∀ V ∈ Vs, ∀ i ∈ av S V,aa i=bx i)→gH S aa ts Vs=gH S bx ts Vs
 | [],[],_=>rfl
 | [],_::_,_=>rfl
 | _::_,[],_=>rfl
 | t::ts,V::Vs,h=>by
  obtain ⟨h1,h2⟩:=pg (t:=t) (h V (by simp))
  simp only [gH,h1,h2]
  rw [Be fun V hV=>h V (by simp [hV])]
theorem wJ {bx:Bx S.C} : ∀ {ts:List Ty} {Vs:List (Sy.V S.C)} {x:ag S.C ts} {us:aG S.C},gH S bx ts Vs=some (x,us)→cq bx us
 | [],[],_,_,h=>by cases h; intro u hu; simp at hu
 | [],_::_,_,_,h=>by cases h
 | _::_,[],_,_,h=>by cases h
 | t::ts,V::Vs,x,us,h=>by
  simp only [gH] at h
  obtain ⟨y,hy,h⟩:=Option.bind_eq_some_iff.1 h
  obtain ⟨⟨z,u2⟩,hz,h⟩:=Option.bind_eq_some_iff.1 h
  cases h
  exact (cq.cB bx V).append (wJ hz)
theorem wK (hS:ct S) (h:Inv P S w0 M0 s0 dq env a w μ) {US:aG S.C} (hU:cq env.bx US): ∀ {ts:List Ty} {Vs:List (Sy.V S.C)} {args:List Value} {x:ag S.C ts} {us:aG S.C},
 dQ P S w (aC S w0 M0 s0 env.bx μ w) μ env.bx Vs args→gH S env.bx ts Vs=some (x,us)→(∀ u ∈ us,u ∈ US)→d_ S w (bV S w0 M0 s0 env.bx (ai env.bx US) μ w) ts x args
 | [],[],_,_,_,hv,h,_=>hv
 | [],_::_,_,_,_,_,h,_=>by cases h
 | _::_,[],_,_,_,_,h,_=>by cases h
 | t::ts,V::Vs,args,x,us,⟨v,r,hargs,h1,h2⟩,hx,hs=>by
  simp only [gH] at hx
  obtain ⟨y,hy,hx⟩:=Option.bind_eq_some_iff.1 hx
  obtain ⟨⟨z,u2⟩,hz,hx⟩:=Option.bind_eq_some_iff.1 hx
  cases hx
  obtain ⟨_,d2⟩:=sH hS h (Tk.refl S env.bx) h1 hy
  refine ⟨v,r,hargs, ?_, ?_⟩
  · rw [show ag.head (ag.cons y z)=y from by cases ts <;> rfl]
    exact d2.mono S (ox S (hU.tk (us:=cB S env.bx V) fun u hu=>hs u (by simp [hu])))
  · rw [show ag.tail (ag.cons y z)=z from by cases ts <;> rfl]
    exact wK hS h hU h2 hz fun u hu=>hs u (by simp [hu])
theorem EM {s:St} {bx:Bx S.C} : ∀ {ts:List Ty} {x:ag S.C ts} {us:List Value},d_ S w s ts x us→aF P S w s μ bx (mN S ts x) us∧ ∀ v ∈ mN S ts x,av S v= []∧aj S v= []
 | [],_,_,h=>⟨h,by simp [mN]⟩
 | t::ts,x,us,⟨v,r,h1,h2,h3⟩=>by
  obtain ⟨h4,h5⟩:=EM (bx:=bx) h3
  refine ⟨⟨v,r,h1,h2,h4⟩,fun u hu=> ?_⟩
  rcases List.mem_cons.1 hu with rfl | hu
  · exact ⟨rfl,rfl⟩
  · exact h5 u hu
theorem EZ (hP:aO P S af) (h:Inv P S w0 M0 s0 dq env a w μ) (hd: ∀ d,o.dst=some d→d<a.tmps.size) {f:Nat} {args:Array Value} {us:aG S.C} (hfz:cq env.bx us) {r:List Ty} {y:ag S.C r}
 (hrun:(execOp a.eval o).run P w= .ok (.enter f args) w)
 (hc:Calls P f args w fun e w'=> ∃ us',e= .returned (gT us')∧aW w w' (fun _ _=>False)∧d_ S w' (grown (aC S w0 M0 s0 (ai env.bx us) μ w) w w') r y us')
 (hK:Goal P S w0 M0 s0 dq env a o.dst (lu S (mN S r y)) us K):o.wp P a w K Q:=by
 have h1:=h.tk hfz.kf
 unfold Oper.wp
 rw [hrun]
 refine Calls.mono hc ?_
 rintro en w' ⟨vs,rfl,hw,gq⟩
 obtain ⟨h2,hl⟩:=h1.world hw
 obtain ⟨h3,h4⟩:=EM (P:=P) (μ:=μ) (bx:=ai env.bx us) (gq.mono S hl)
 refine hK _ w' μ (h2.put hd (Ag h3) fun j hj=> ?_) ?_
 · obtain ⟨v,hv,hj⟩:=CI hj
   obtain ⟨e1,e2⟩:=h4 v hv
   rw [e1,e2] at hj
   simp at hj
 · cases o.dst <;> simp [Act.put]
theorem Gf (hP:aO P S af) {T:eM S} (hT: ∀ e ∈ T.es,kB P S w0 M0 e) (hF: ∀ e ∈ T.fs,eK P S e) (h:Inv P S w0 M0 s0 dq env a w μ) (hd: ∀ d,o.dst=some d→d<a.tmps.size) {B:Nat} {ids:List Nat}
 {c:Call} (ho:o.op= .call c) {f:Operand} (hc:c.callee= .value f) {Vs:List (Sy.V S.C)} {Vf:Sy.V S.C} (hargs:c.args.toList.mapM (aK S env.tm)=some Vs) (hf:aK S env.tm f=some Vf)
 (hkn: ∀ V ∈ Vs,fP S env.bx (restrict S env.bx ids) V) (II:fP S env.bx (restrict S env.bx ids) Vf) (hnew: ∀ u ∈ us,B≤u.1→u.1<B+16→env.bx u.1=none)
 (hl:(o5 S T B (restrict S env.bx ids) Vs Vf).leaf (V,us)) (hK:Goal P S w0 M0 s0 dq env a o.dst V us K):o.wp P a w K Q:=by
 obtain ⟨hvs,_⟩:=sw h hargs
 obtain ⟨tq,_⟩:=bg h hf
 have nB: ∀ {ts:List Ty} {x:ag S.C ts} {us:aG S.C},gH S (restrict S env.bx ids) ts Vs=some (x,us)→gH S env.bx ts Vs=some (x,us):=fun hx=>by
  rw [Be (bx:=env.bx) fun V hV i hi=>(hkn V hV i hi).1] at hx; exact hx
 cases Vf with
 | fv A R g=>
  simp only [o5] at hl
  split at hl
  · rename_i x us' hx
    obtain ⟨y,hy,hl⟩:=hl
    obtain ⟨rfl,rfl⟩:=bh hl
    have hx:=nB hx
    have hfz:=wJ hx
    have gq:=(wK hP.toct h hfz hvs hx fun u hu=>hu).mono S (vj hfz.kf)
    have tq:iQ P S w (aC S w0 M0 s0 env.bx μ w) A R g (a.eval f):=tq
    obtain ⟨g',first,cap,he,hok,lW⟩:=tq
    have :=lW w _ (Er hfz.kf) (h.lT.at h.fc fun _ _ h=>h.elim) x _ y gq hy
    refine EZ hP h hd hfz (zq ho hc he hok) ?_ hK
    rw [show (c.args.toList.map a.eval).toArray=c.args.map a.eval from by rw [← Array.toList_map,Array.toArray_toList]] at this
    exact this
  · exact hl.elim
 | dS g vs=>
  obtain ⟨cs,he,hcs⟩:=tq
  cases vs with
  | nil=>
   simp only [o5] at hl
   have Ij:cs= #[]:=by have h0:cs.toList= []:=hcs; exact Array.toList_eq_nil_iff.1 h0
   subst Ij
   refine Ge hP hT hF h hd (args:=c.args.map a.eval) (fun hok=> ?_) (by simpa using hvs) hkn hnew hl hK
   have :=zq (w:=w) ho hc he hok
   simpa using this
  | cons v vs=>
   simp only [o5] at hl
   split at hl
   · rename_i e hfind
     split at hl
     · rename_i y x us' hy hx
       obtain ⟨z,hz,hl⟩:=hl
       obtain ⟨rfl,rfl⟩:=bh hl
       have hx:=nB hx
       have hfz:=wJ hx
       have gq:=(wK hP.toct h hfz hvs hx fun u hu=>hu).mono S (vj hfz.kf)
       have hmem:=List.mem_of_find?_eq_some hfind
       have iz:e.f=g:=by simpa using List.find?_some hfind
       obtain ⟨hok,lW⟩:=hF e hmem
       rw [iz] at hok lW
       have hy:caps S env.bx e.c (v::vs)=some y:=by
        rw [← v7 (bx:=env.bx) (aa:=restrict S env.bx ids) fun u hu i hi=>have q:=II i (by simp only [av,List.mem_flatMap]; exact ⟨u,hu,hi⟩); ⟨q.1,q.2.1⟩]
        exact hy
       have hcap:=v8 hP.toct h (Tk.refl S env.bx) e.c hcs hy
       have hcap2:eI S w (aC S w0 M0 s0 (ai env.bx us) μ w) e.c y cs.toList:=by
        refine eI.mono ?_ _ _ _ hcap
        exact (ox S hfz.kf).trans (vj hfz.kf)
       refine EZ hP h hd hfz (zq ho hc he hok) ?_ hK
       have :=lW w _ x y z (c.args.toList.map a.eval) cs.toList (h.lT.at h.fc fun _ _ h=>h.elim) gq hcap2 hz
       rw [show (c.args.toList.map a.eval++cs.toList).toArray= #[]++c.args.map a.eval++cs from by simp] at this
       exact this
     · exact hl.elim
   · exact hl.elim
 | _=>exact hl.elim
theorem w4 {bx ec:Bx S.C} : ∀ (vs:List (Sy.V S.C)) (u:Nat×cR S.C),u ∈ iw S ec vs→(∀ i B,ec i=some B→bx i=some B)→ ∃ ws,u.2= .bw ws∧bx u.1=some (.cells ws)
 | [],u,hu,_=>by simp [iw] at hu
 | v::vs,u,hu,h=>by
  cases v with
  | ptr b off=>
   simp only [iw,List.mem_append] at hu
   rcases hu with hu | hu
   · split at hu
     · rename_i ws hb
       simp at hu
       subst hu
       exact ⟨ws,rfl,h _ _ hb⟩
     · simp at hu
   · exact w4 vs u hu h
  | _=>exact w4 vs u hu h
theorem BD {bx:Bx S.C} {i:Nat} : ∀ {us:aG S.C} (aa:Bx S.C),(∀ u ∈ us, ∃ ws,u.2= .bw ws∧bx u.1=some (.cells ws))→ai aa us i=aa i∨ ∃ ws,bx i=some (.cells ws)∧ai aa us i=some (.bw ws)
 | [],_,_=> .inl rfl
 | u::us,aa,h=>by
  rcases BD (us:=us) (ah aa u.1 (some u.2)) (fun v hv=>h v (by simp [hv])) with h1 | h1
  · by_cases e:i=u.1
    · right
      obtain ⟨ws,h2,h3⟩:=h u (by simp)
      refine ⟨ws,e▸h3, ?_⟩
      show ai (ah aa u.1 (some u.2)) us i=_
      rw [h1,e,aL,h2]
    · left
      show ai (ah aa u.1 (some u.2)) us i=_
      rw [h1,aY _ _ e]
  · exact .inr h1
theorem Inv.sW (h:Inv P S w0 M0 s0 dq env a w μ) {aa:Bx S.C} (hk: ∀ i,aa i=env.bx i∨ ∃ ws,env.bx i=some (.cells ws)∧aa i=some (.bw ws)):Inv P S w0 M0 s0 dq { env with bx:=aa } a w μ:=by
 have hlv: ∀ i,live S aa i→aa i=env.bx i:=fun i hi=>by
  rcases hk i with e | ⟨ws,_,e⟩
  · exact e
  · unfold live at hi; rw [e] at hi; exact hi.elim
 have hf: ∀ i, ¬ aa i=env.bx i→live S aa i→False:=fun i hi hl=>hi (hlv i hl)
 have hl:bC w (aC S w0 M0 s0 env.bx μ w) w (aC S w0 M0 s0 aa μ w):=h.later (T:=fun _ _=>False) (U:=fun i=> ¬ aa i=env.bx i) (aW.refl w _) (fun _ _ h=>h.elim) (fun i hi=>⟨Classical.not_not.1 hi,rfl⟩) (fun i hi hl=>(hf i hi hl).elim)
 have hc: ∀ i B0,env.bx i=some B0→ ∃ B,aa i=some B∧cc S (μ i) (μ i) B0 B:=fun i B0 bq=>by
  rcases hk i with e | ⟨ws,e1,e2⟩
  · exact ⟨B0,e.trans bq,cc.refl S _ _⟩
  · rw [bq] at e1; cases e1
    exact ⟨_,e2,rfl⟩
 refine h.step (T:=fun _ _=>False) (U:=fun i=> ¬ aa i=env.bx i) (aW.refl w _) (fun _ _ h=>h.elim) (fun i hi=>⟨Classical.not_not.1 hi,rfl⟩)
  (fun i hi hl=>(hf i hi hl).elim) hc (fun i _ hi _ _ hl=>(hf i hi hl).elim) (fun i B hi hB=> ?_) (fun i vs hi hvs v hv j hj=> ?_)
 · rcases hk i with e | ⟨ws,e1,e2⟩
   · exact absurd e hi
   · rw [e2] at hB
     cases hB
     obtain ⟨g1,g2,g3,cs,g4,g5⟩:=h.bE i _ e1
     have bG:live S env.bx i:=by unfold live; rw [e1]; trivial
     have hlen:=aF.length P S g5
     refine ⟨g1,cs,fun j u hj=>⟨g4 j u hj, ?_⟩,aF.step P S hl hc (h.gR i ws (.inl e1)) g5⟩
     have hj':=(List.getElem?_eq_some_iff.1 hj).1
     have fe:(μ i).aB (μ i).b ((μ i).o+j):=⟨rfl,by omega,by omega⟩
     refine ⟨(iC P S (h.bE i) bG fe).1,(h.own i bG _ _ fe).elim (fun h=> .inr (.inr h)) (fun h=> .inr (.inl h)),fun q hq nE=> ?_⟩
     refine h.cG q i (fun e=> ?_) ((dr S (hlv q hq)).1 hq) bG _ _ nE fe
     subst e
     unfold live at hq; rw [e2] at hq; exact hq
 · rcases hk i with e | ⟨ws,e1,e2⟩
   · exact absurd e hi
   · rw [e2] at hvs
     rcases hvs with hvs | hvs
     · cases hvs
     · cases hvs
       have :=h.gR i _ (.inl e1) v hv j hj
       obtain ⟨B0,bq⟩:=Option.ne_none_iff_exists'.1 this
       obtain ⟨B',eO,_⟩:=hc j B0 bq
       rw [eO]; simp
theorem Ae {s:St} {bx:Bx S.C} : ∀ {vs:List (Sy.V S.C)} {cs:List Value},vs.all (br S)=true→dQ P S w s μ bx vs cs→aF P S w s μ bx vs cs
 | [],_,_,h=>h
 | v::vs,_,hs,⟨c,r,h1,h2,h3⟩=>by
  simp only [List.all_cons,Bool.and_eq_true] at hs
  refine ⟨c,r,h1, ?_,Ae hs.2 h3⟩
  cases v <;> first | exact h2 | simp [br] at hs
theorem Kf (h:Inv P S w0 M0 s0 dq env a w μ) (hd: ∀ d,o.dst=some d→d<a.tmps.size) {f:Nat} {cs:Array Operand} {ids:List Nat} (ho:o.op= .makeFunc (.func f) #[] cs)
 (hl:(match cs.toList.mapM (aK S env.tm) with
  | some vs=>cond (vs.all (br S)) (ax S (.dS f vs) (iw S (restrict S env.bx ids) vs)) .fail
  | none=> .fail).leaf (V,us)) (hK:Goal P S w0 M0 s0 dq env a o.dst V us K):o.wp P a w K Q:=by
 split at hl
 · rename_i vs hvs
   cases hs:vs.all (br S) with
   | false=>rw [hs] at hl; exact hl.elim
   | true=>
    rw [hs,cond_true] at hl
    obtain ⟨rfl,rfl⟩:=bh hl
    obtain ⟨h1,h2⟩:=sw h hvs
    have h3:=Ae hs h1
    have hall: ∀ i,ai env.bx (iw S (restrict S env.bx ids) vs) i=env.bx i∨ ∃ ws,env.bx i=some (.cells ws)∧ai env.bx (iw S (restrict S env.bx ids) vs) i=some (.bw ws):=fun i=>
     BD env.bx fun u hu=>w4 vs u hu fun i B hB=>dF hB
    have hI:=h.sW hall
    have hc: ∀ i B0,env.bx i=some B0→ ∃ B,ai env.bx (iw S (restrict S env.bx ids) vs) i=some B∧cc S (μ i) (μ i) B0 B:=fun i B0 bq=>by
     rcases hall i with e | ⟨ws,e1,e2⟩
     · exact ⟨B0,e.trans bq,cc.refl S _ _⟩
     · rw [bq] at e1; cases e1
       exact ⟨_,e2,rfl⟩
    have p5:bC w (aC S w0 M0 s0 env.bx μ w) w (aC S w0 M0 s0 (ai env.bx (iw S (restrict S env.bx ids) vs)) μ w):=fun b o ⟨q1,q2,q3⟩=>⟨⟨q1,q2,fun i hi=>q3 i (by
     rcases hall i with e | ⟨ws,_,e⟩
     · exact (dr S e).1 hi
     · unfold live at hi; rw [e] at hi; exact hi.elim)⟩,rfl⟩
    have eo: ∀ v ∈ vs, ∀ j ∈ aj S v,env.bx j≠none:=fun v hv j hj=>by
     obtain ⟨x,hx,he⟩:=h2 v hv
     refine (bg h he).2 j ?_
     cases v <;> first | exact hj | simp [aj] at hj
    unfold Oper.wp
    have hrun:(execOp a.eval o).run P w= .ok (.value (.func (.func f) #[] (cs.map a.eval))) w:=by
     unfold execOp
     simp only [ho]
     simp [Instr.makeFunc]
    rw [hrun]
    refine hK _ w μ (hI.put hd (V:= .dS f vs) ⟨_,rfl, ?_⟩ fun j hj=> ?_) ?_
    · have :=aF.step P S p5 hc eo h3
      simpa using this
    · simp only [av,List.mem_flatMap] at hj
      obtain ⟨v,hv,hj⟩:=hj
      obtain ⟨B0,bq⟩:=Option.ne_none_iff_exists'.1 (eo v hv j hj)
      obtain ⟨B',eO,_⟩:=hc j B0 bq
      dsimp only
      rw [eO]; simp
    · cases o.dst <;> simp [Act.put]
 · exact hl.elim
theorem Kj (h:Inv P S w0 M0 s0 dq env a w μ) (hd: ∀ d,o.dst=some d→d<a.tmps.size) {c:Call} (ho:o.op= .call c) {b:Builtin} (hc:c.callee= .builtin b) {args:List (Sy.V S.C)}
 (hargs:c.args.toList.mapM (aK S env.tm)=some args)
 (hl:(match args with
  | [v,w]=>match v.int?,w.int? with
   | some (k,x),some (k',y)=>if k=k' then match b with
    | .min=>ax S (.d (.int k) (Min.min (α:=Int) x y)) []
    | .max=>ax S (.d (.int k) (Max.max (α:=Int) x y)) []
    | _=>Tr.fail else Tr.fail
   | _,_=>Tr.fail
  | _=>Tr.fail).leaf (V,us)) (hK:Goal P S w0 M0 s0 dq env a o.dst V us K):o.wp P a w K Q:=by
 split at hl
 · rename_i v u
   obtain ⟨xs,xx,hxs,jN,hex⟩:=Ar hargs
   have har:c.args= #[xs,xx]:=by
    have :c.args=c.args.toList.toArray:=by simp
    rw [this,hxs]
   split at hl
   · rename_i k x k' y hv hu
     split at hl
     · rename_i hkk
       subst hkk
       have e1:=fW (bg h jN).1 hv
       have e2:=fW (bg h hex).1 hu
       split at hl
       · obtain ⟨rfl,rfl⟩:=bh hl
         refine wp_pure (V:= .d (.int k) (Min.min (α:=Int) x y)) h (v:= .int k (Min.min x y)) ?_ hd (fH ..) (by simp [av,aj]) hK
         unfold execOp
         simp only [ho]
         simp [resolve,hc,har,e1,e2,invoke,builtin,Builtin.min_,Builtin.min2]
         split <;> first | omega | (simp; omega)
       · obtain ⟨rfl,rfl⟩:=bh hl
         refine wp_pure (V:= .d (.int k) (Max.max (α:=Int) x y)) h (v:= .int k (Max.max x y)) ?_ hd (fH ..) (by simp [av,aj]) hK
         unfold execOp
         simp only [ho]
         simp [resolve,hc,har,e1,e2,invoke,builtin,Builtin.max_,Builtin.max2]
         split <;> first | omega | (simp; omega)
       · exact hl.elim
     · exact hl.elim
   · exact hl.elim
 · exact hl.elim
end
end Go.Sy
namespace Go.Sy
section
variable {P:Program} {S:aN} {af:Nat→Nat}
variable {w0:World} {M0 s0:St} {dq:List Deferred} {env:Env S.C} {a:Act} {w:World} {μ:Nat→Loc} {K:Act→World→Prop} {Q:Exit→Act→World→Prop} {o:Oper} {V:V S.C} {us:aG S.C}
theorem Au {s:St} {bx:Bx S.C} {e:Ty} (he:a_ e=false) {V:Sy.V S.C} {v:Value} {x:e.den S.C} (hv:bn P S w s μ bx V v) (hx:cu S (fun _=>none) e V=some x): ∃ n,ay S w s n e x [v]:=by
 have hd: ∀ (u:Ty) (y:u.den S.C),bS S w s u y v→dx S u e y=some x→ ∃ n,ay S w s n e x [v]:=by
  intro u y hr hc
  obtain ⟨rfl,rfl⟩:=di hc
  obtain ⟨h1,n,hn⟩:=hr
  rw [ay.ig h1 he] at hn
  exact ⟨n,hn⟩
 cases V with
 | d u y=>exact hd u y hv hx
 | pr p i=>
  obtain ⟨rfl,rfl⟩:=di hx
  cases hv
  exact ⟨1,rfl⟩
 | aT b e l=>exact hd (.sl e) l hv.1 hx
 | b7=>
  cases e with
  | sl e=>
   cases hx
   cases hv
   exact ⟨1,none,0,rfl,Nat.le_refl _, .inl rfl⟩
  | _=>cases hx
 | _=>cases hx
theorem EI {s:St} {bx:Bx S.C} : ∀ (ts:List Ty) (hts:ts.all (fun t=> !a_ t)=true) {vs:List (Sy.V S.C)} {cs:List Value} {x:ag S.C ts},aF P S w s μ bx vs cs→eZ S (fun _=>none) ts vs=some x→ ∃ n,bk S (fun t x cs=>ay S w s n t x cs) ts x (cs.take ts.length)
 | [],_,_,cs,_,_,_=>⟨0,by simp [bk]⟩
 | t::ts,hts,[],_,_,_,hx=>by simp [eZ] at hx
 | t::ts,hts,V::vs,cs,x,⟨c,r,hcs,hv,hr⟩,hx=>by
  simp only [List.all_cons,Bool.and_eq_true,Bool.not_eq_true'] at hts
  simp only [eZ] at hx
  obtain ⟨y,hy,hx⟩:=Option.bind_eq_some_iff.1 hx
  obtain ⟨z,hz,hx⟩:=Option.bind_eq_some_iff.1 hx
  cases hx
  obtain ⟨n,hn⟩:=Au hts.1 hv hy
  obtain ⟨m,hm⟩:=EI ts hts.2 hr hz
  refine ⟨max n m,c,r.take ts.length,by simp [hcs], ?_, ?_⟩
  · rw [show ag.head (ag.cons y z)=y from by cases ts <;> rfl]
    exact hn.up S (by omega)
  · rw [show ag.tail (ag.cons y z)=z from by cases ts <;> rfl]
    exact bk.mono S (fun t x cs hr=>hr.up S (by omega)) _ _ _ hm
theorem Bf (hP:aO P S af) {s:St} {bx:Bx S.C} {u:Nat} {V:Sy.V S.C} {v:Value} {x:S.C u} (hv:RV P S w s μ bx V v) (hx:datum S (fun _=>none) (.st u) V=some x): ∃ cs n,v= .agg cs∧bk S (fun t x cs=>ay S w s n t x cs) (S.F u) (S.ex u x) cs.toList:=by
 cases V with
 | agg u' vs=>
  simp only [datum] at hx
  split at hx
  · rename_i hu
    obtain ⟨cs,g1,g2,g3,g4⟩:=hv
    simp only [fh] at hx
    obtain ⟨y,hy,hx⟩:=Option.bind_eq_some_iff.1 hx
    cases hx
    obtain ⟨n,hn⟩:=EI (S.F u) (hP.flat u) g4 hy
    have hlen:=aF.length P S g4
    rw [List.take_of_length_le (by rw [hlen,g2,hu]; exact Nat.le_refl _)] at hn
    refine ⟨cs,n,g1, ?_⟩
    rw [hP.ni]
    exact hn
  · cases hx
 | d t y=>
  simp only [datum] at hx
  obtain ⟨rfl,h2⟩:=di hx
  cases h2
  obtain ⟨ha,n,hr⟩:=hv
  have : ∃ cs,v= .agg cs:=by
   cases v <;> first | exact ⟨_,rfl⟩ | (simp [Go.Sy.isAgg,a_] at ha)
  obtain ⟨cs,rfl⟩:=this
  cases n with
  | zero=>exact hr.elim
  | succ n=>exact ⟨cs,n,rfl,hr⟩
 | _=>cases hx
theorem sS {t:Ty} {ts:List Ty} (x y:ag S.C (t::ts)):fT S (t::ts) x y↔nh S t (ag.head x) (ag.head y)∧fT S ts (ag.tail x) (ag.tail y):=by
 cases ts with
 | nil=>exact ⟨fun h=>⟨h,trivial⟩,fun h=>h.1⟩
 | cons u ts=>exact Iff.rfl
theorem Mo (hP:aO P S af) {s:St} {n m:Nat} {t:Nat} {T:Ty} (h4:match T with | .int _=>True | .bool=>True | .str=>True | _=>False) (h3:S.ty t=some T) {x y:T.den S.C} {c c':Value} (e2:ay S w s n T x [c]) (f2:ay S w s m T y [c']) (d:Nat):
 ∃ b0,(Op.equalIn (d+1) t c c').run P w= .ok b0 w∧(b0=true↔nh S T x y):=by
 have hty:=(hP.ty t T h3).2
 cases n with
 | zero=>exact e2.elim
 | succ n=>
 cases m with
 | zero=>exact f2.elim
 | succ m=>
 cases T with
 | int k=>
  have e2: [c]= [Value.int k _]:=e2
  have f2: [c']= [Value.int k _]:=f2
  cases e2; cases f2
  exact ⟨_,run_equalIn_int w d t k k _ _ hty,by show _↔ @Eq Int _ _; exact beq_iff_eq⟩
 | bool=>
  have e2: [c]= [Value.bool _]:=e2
  have f2: [c']= [Value.bool _]:=f2
  cases e2; cases f2
  exact ⟨_,run_equalIn_bool' w d t _ _ hty,by show _↔ @Eq Bool _ _; exact beq_iff_eq⟩
 | str=>
  have e2: [c]= [Value.string ⟨List.toArray _⟩]:=e2
  have f2: [c']= [Value.string ⟨List.toArray _⟩]:=f2
  cases e2; cases f2
  exact ⟨_,run_equalIn_string w d t _ _ hty,by show _↔ @Eq (List UInt8) _ _; rw [ByteArray.toList_eq,ByteArray.toList_eq]; exact beq_iff_eq⟩
 | st u=>exact h4.elim
 | sl e=>exact h4.elim
 | pt=>exact h4.elim
theorem DS (hP:aO P S af) {s:St} {d:Nat} {n m:Nat} : ∀ (fs:List Field) (ts:List Ty) (i:Nat) (xs ys:Array Value) (x y:ag S.C ts),oM S fs ts i→
 bk S (fun t x cs=>ay S w s n t x cs) ts x (xs.toList.drop i)→bk S (fun t x cs=>ay S w s m t x cs) ts y (ys.toList.drop i)→ ∃ b,(Op.eqFields (d+1) xs ys fs).run P w= .ok b w∧(b=true↔fT S ts x y)
 | [],[],_,_,_,_,_,_,_,_=>⟨true,by simp [Op.eqFields],by simp [fT]⟩
 | [],_::_,_,_,_,_,_,h,_,_=>h.elim
 | _::_,[],_,_,_,_,_,h,_,_=>h.elim
 | fd::fs,T::ts,i,xs,ys,x,y,⟨h1,h2,h3,h4,h5⟩,⟨c,r,e1,e2,e3⟩,⟨c',r',f1,f2,f3⟩=>by
  have nx:xs.toList.drop (i+1)=r:=by rw [← List.drop_drop,e1]; rfl
  have ny:ys.toList.drop (i+1)=r':=by rw [← List.drop_drop,f1]; rfl
  obtain ⟨b,g1,g2⟩:=DS hP (d:=d) fs ts (i+1) xs ys (ag.tail x) (ag.tail y) h5 (by rw [nx]; exact e3) (by rw [ny]; exact f3)
  have hsz:Ty.sz S T=1∧a_ T=false:=by cases T <;> first | exact ⟨rfl,rfl⟩ | exact h4.elim
  have IT:i<xs.size:=by
   have :=congrArg List.length e1
   simp at this; omega
  have IU:i<ys.size:=by
   have :=congrArg List.length f1
   simp at this; omega
  have hm: ∀ ds,dI T ds=ds.headD Go.undef:=by intro ds; cases T <;> first | rfl | exact h4.elim
  have px:=j0 hP h3 (cs:=xs) (off:=i) (by rw [hsz.1]; omega) w
  have py:=j0 hP h3 (cs:=ys) (off:=i) (by rw [hsz.1]; omega) w
  rw [hm,e1,hsz.1] at px
  rw [hm,f1,hsz.1] at py
  have px:(part fd.type xs i).run P w= .ok c w:=px
  have py:(part fd.type ys i).run P w= .ok c' w:=py
  have heq: ∃ b0,(Op.equalIn (d+1) fd.type c c').run P w= .ok b0 w∧(b0=true↔nh S T (ag.head x) (ag.head y)):=by
   have hty:=(hP.ty fd.type T h3).2
   cases n with
   | zero=>exact e2.elim
   | succ n=>
   cases m with
   | zero=>exact f2.elim
   | succ m=>
   cases T with
   | int k=>
    have e2: [c]= [Value.int k _]:=e2
    have f2: [c']= [Value.int k _]:=f2
    cases e2; cases f2
    exact ⟨_,run_equalIn_int w d fd.type k k _ _ hty,by show _↔ @Eq Int _ _; exact beq_iff_eq⟩
   | bool=>
    have e2: [c]= [Value.bool _]:=e2
    have f2: [c']= [Value.bool _]:=f2
    cases e2; cases f2
    exact ⟨_,run_equalIn_bool' w d fd.type _ _ hty,by show _↔ @Eq Bool _ _; exact beq_iff_eq⟩
   | str=>
    have e2: [c]= [Value.string ⟨List.toArray _⟩]:=e2
    have f2: [c']= [Value.string ⟨List.toArray _⟩]:=f2
    cases e2; cases f2
    exact ⟨_,run_equalIn_string w d fd.type _ _ hty,by show _↔ @Eq (List UInt8) _ _; rw [ByteArray.toList_eq,ByteArray.toList_eq]; exact beq_iff_eq⟩
   | st u=>exact h4.elim
   | sl e=>exact h4.elim
   | pt=>exact h4.elim
  obtain ⟨b0,k1,k2⟩:=heq
  rw [sS]
  simp only [Op.eqFields,h2,ne_eq,not_false_eq_true,if_true,h1,Sem.run_bind,px,py,k1,Result.andThen_ok]
  cases b0 with
  | true=>
   simp only [Bool.not_true,Bool.false_eq_true,if_false]
   exact ⟨b,g1,by rw [g2]; exact ⟨fun h=>⟨k2.1 rfl,h⟩,fun h=>h.2⟩⟩
  | false=>
   simp only [Bool.not_false,if_true,Sem.run_pure]
   exact ⟨false,rfl,fun h=>(by cases h),fun h=>(by have :=k2.2 h.1; cases this)⟩
def ki:(ts us:List Ty)→ag S.C (ts++us)→ag S.C ts
 | [],_,_=>()
 | _::ts,us,x=>ag.cons (ag.head x) (ki ts us (ag.tail x))
def rK:(ts us:List Ty)→ag S.C (ts++us)→ag S.C us
 | [],_,x=>x
 | _::ts,us,x=>rK ts us (ag.tail x)
theorem head_cons {t:Ty} {ts:List Ty} (x:t.den S.C) (r:ag S.C ts):ag.head (ag.cons x r)=x:=by cases ts <;> rfl
theorem tail_cons {t:Ty} {ts:List Ty} (x:t.den S.C) (r:ag S.C ts):ag.tail (ag.cons x r)=r:=by cases ts <;> rfl
theorem Bu: ∀ (ts us:List Ty) (x y:ag S.C (ts++us)),fT S (ts++us) x y↔fT S ts (ki ts us x) (ki ts us y)∧fT S us (rK ts us x) (rK ts us y)
 | [],us,x,y=>by
  show _↔True∧_
  rw [true_and]; rfl
 | t::ts,us,x,y=>by
  have h:=sS (S:=S) (t:=t) (ts:=ts++us) x y
  have h2:=sS (S:=S) (t:=t) (ts:=ts) (ki (t::ts) us x) (ki (t::ts) us y)
  show fT S (t::(ts++us)) x y↔_
  rw [h,h2,Bu ts us]
  simp only [ki,rK,head_cons,tail_cons]
  exact and_assoc.symm
theorem vF {R:(t:Ty)→t.den S.C→List Value→Prop} : ∀ (ts us:List Ty) (x:ag S.C (ts++us)) (cs:List Value),bk S R (ts++us) x cs→bk S R ts (ki ts us x) (cs.take ts.length)∧bk S R us (rK ts us x) (cs.drop ts.length)∧ts.length≤cs.length
 | [],us,x,cs,h=>⟨rfl,h,Nat.zero_le _⟩
 | t::ts,us,x,cs,⟨c,r,hc,h1,h2⟩=>by
  subst hc
  obtain ⟨a,b,l⟩:=vF ts us _ _ h2
  refine ⟨⟨c,r.take ts.length,rfl, ?_, ?_⟩,b,by simpa using l⟩
  · simp only [ki,head_cons]; exact h1
  · simp only [ki,tail_cons]; exact a
theorem zu (hP:aO P S af) {s:St} {d:Nat} {n m:Nat} : ∀ (fs:List Field) (ts:List Ty) (i:Nat) (xs ys:Array Value) (x y:ag S.C ts),oN P S fs ts i→
 bk S (fun t x cs=>ay S w s n t x cs) ts x (xs.toList.drop i)→bk S (fun t x cs=>ay S w s m t x cs) ts y (ys.toList.drop i)→ ∃ b,(Op.eqFields (d+3) xs ys fs).run P w= .ok b w∧(b=true↔fT S ts x y)
 | [],ts,_,_,_,_,_,h,_,_=>by
  have h:ts= []:=h
  subst h
  exact ⟨true,by simp [Op.eqFields],by simp [fT]⟩
 | fd::fs,ts,i,xs,ys,x,y,⟨h1,h2,h3⟩,hx,hy=>by
  have step: ∀ (b0 b:Bool) (c c':Value) (A B:Prop),(part fd.type xs i).run P w= .ok c w→(part fd.type ys i).run P w= .ok c' w→(Op.equalIn (d+3) fd.type c c').run P w= .ok b0 w→(b0=true↔A)→(Op.eqFields (d+3) xs ys fs).run P w= .ok b w→(b=true↔B)→
   ∃ b,(Op.eqFields (d+3) xs ys (fd::fs)).run P w= .ok b w∧(b=true↔A∧B):=by
   intro b0 b c c' A B px py k1 k2 g1 g2
   simp only [Op.eqFields,h2,ne_eq,not_false_eq_true,if_true,h1,Sem.run_bind,px,py,k1,Result.andThen_ok]
   cases b0 with
   | true=>
    simp only [Bool.not_true,Bool.false_eq_true,if_false]
    exact ⟨b,g1,by rw [g2]; exact ⟨fun h=>⟨k2.1 rfl,h⟩,fun h=>h.2⟩⟩
   | false=>
    simp only [Bool.not_false,if_true,Sem.run_pure]
    exact ⟨false,rfl,fun h=>(by cases h),fun h=>(by have :=k2.2 h.1; cases this)⟩
  rcases h3 with ⟨T,r,rfl,hty,hsc,h5⟩ | ⟨v,r,gs,rfl,hty,hu,hsi,hpos,hfl,h5⟩
  · obtain ⟨c,cr,e1,e2,e3⟩:=hx
    obtain ⟨c',GR,f1,f2,f3⟩:=hy
    have nx:xs.toList.drop (i+1)=cr:=by rw [← List.drop_drop,e1]; rfl
    have ny:ys.toList.drop (i+1)=GR:=by rw [← List.drop_drop,f1]; rfl
    obtain ⟨b,g1,g2⟩:=zu hP (d:=d) fs r (i+1) xs ys (ag.tail x) (ag.tail y) h5 (by rw [nx]; exact e3) (by rw [ny]; exact f3)
    have O0:oM S [fd] [T] i:=⟨h1,h2,hty,hsc,trivial⟩
    have hsz:Ty.sz S T=1∧a_ T=false:=by cases T <;> first | exact ⟨rfl,rfl⟩ | exact hsc.elim
    have IT:i<xs.size:=by
     have :=congrArg List.length e1
     simp at this; omega
    have IU:i<ys.size:=by
     have :=congrArg List.length f1
     simp at this; omega
    have hm: ∀ ds,dI T ds=ds.headD Go.undef:=by intro ds; cases T <;> first | rfl | exact hsc.elim
    have px:=j0 hP hty (cs:=xs) (off:=i) (by rw [hsz.1]; omega) w
    have py:=j0 hP hty (cs:=ys) (off:=i) (by rw [hsz.1]; omega) w
    rw [hm,e1,hsz.1] at px
    rw [hm,f1,hsz.1] at py
    have px:(part fd.type xs i).run P w= .ok c w:=px
    have py:(part fd.type ys i).run P w= .ok c' w:=py
    obtain ⟨b0,k1,k2⟩:=Mo (w:=w) hP hsc hty e2 f2 (d+2)
    rw [sS]
    exact step b0 b c c' _ _ px py k1 k2 g1 g2
  · obtain ⟨x1,x2,lx⟩:=vF (S.F v) r x _ hx
    obtain ⟨y1,y2,ly⟩:=vF (S.F v) r y _ hy
    rw [List.drop_drop] at x2 y2
    obtain ⟨b,g1,g2⟩:=zu hP (d:=d) fs r (i+(S.F v).length) xs ys _ _ h5 x2 y2
    rw [List.length_drop] at lx ly
    have px:=j0 hP hty (cs:=xs) (off:=i) (by show i+(S.F v).length≤_; have :xs.toList.length=xs.size:=Array.length_toList; omega) w
    have py:=j0 hP hty (cs:=ys) (off:=i) (by show i+(S.F v).length≤_; have :ys.toList.length=ys.size:=Array.length_toList; omega) w
    have hfo:P.underlying fd.type=some (.struct (P.fieldsOf fd.type)):=by unfold Program.fieldsOf; rw [hu]
    have xE:P.fieldsOf fd.type=gs:=by unfold Program.fieldsOf; rw [hu]
    obtain ⟨b0,k1,k2⟩:=DS hP (d:=d+1) gs.toList (S.F v) 0 ((xs.toList.drop i).take (S.F v).length).toArray ((ys.toList.drop i).take (S.F v).length).toArray _ _ hfl (by simpa using x1) (by simpa using y1)
    rw [Bu]
    refine step b0 b (.agg ((xs.toList.drop i).take (S.F v).length).toArray) (.agg ((ys.toList.drop i).take (S.F v).length).toArray) _ _ px py ?_ k2 g1 g2
    rw [run_equalIn_agg w (d+2) fd.type _ _ hfo hsi,xE]
    exact k1
theorem M8 (hP:aO P S af) (h:Inv P S w0 M0 s0 dq env a w μ) (hd: ∀ d,o.dst=some d→d<a.tmps.size) {op:BinOp} {t t':TypeId} {x y:Operand} (ho:o.op= .binOp op t x y t') (he:S.eq t=true)
 (hl:(match aK S env.tm x,aK S env.tm y with
  | some p,some q=>structEq S op t p q
  | _,_=> .fail).leaf (V,us)) (hK:Goal P S w0 M0 s0 dq env a o.dst V us K):o.wp P a w K Q:=by
 obtain ⟨u,ht,⟨fs,hu,hfl⟩,hsi,hgt⟩:=hP.eq t he
 have hfo:P.underlying t=some (.struct (P.fieldsOf t)):=by unfold Program.fieldsOf; rw [hu]
 have xE:P.fieldsOf t=fs:=by unfold Program.fieldsOf; rw [hu]
 split at hl
 · rename_i p q hx hy
   obtain ⟨hv1,_⟩:=bg h hx
   obtain ⟨ff,_⟩:=bg h hy
   unfold structEq at hl
   rw [ht] at hl
   dsimp only at hl
   split at hl
   · rename_i c d hc hd'
     obtain ⟨xs,n,e1,r1⟩:=Bf hP hv1 hc
     obtain ⟨ys,m,e2,r2⟩:=Bf hP ff hd'
     obtain ⟨b,g1,g2⟩:=zu hP (d:=9996) fs.toList (S.F u) 0 xs ys _ _ hfl (by simpa using r1) (by simpa using r2)
     have hrun:(Op.equalIn 10000 t (.agg xs) (.agg ys)).run P w= .ok b w:=by
      rw [run_equalIn_agg w 9999 t xs ys hfo hsi,xE]
      exact g1
     have fin: ∀ (z:Bool),(binOp op t (.agg xs) (.agg ys)).run P w= .ok (.bool z) w→RV P S w (aC S w0 M0 s0 env.bx μ w) μ env.bx V (.bool z)→av S V= []→us= []→o.wp P a w K Q:=by
      rintro z hz hr hi rfl
      refine wp_pure h (v:= .bool z) ?_ hd hr (by simp [hi]) hK
      unfold execOp
      simp only [ho,e1,e2]
      simp [run_eqGuard_agg w op t x y xs ys hgt,hz]
     split at hl
     · obtain ⟨rfl,rfl⟩:=bh hl
       refine fin b (by rw [run_eql_struct,hrun]; rfl) ?_ rfl rfl
       show Value.bool b=Value.bool (@decide _ (pz S _ _ _))
       congr 1
       cases hb:b with
       | true=>exact (@decide_eq_true _ (_) (g2.1 hb)).symm
       | false=>exact (@decide_eq_false _ (_) (fun hq=>by rw [g2.2 hq] at hb; cases hb)).symm
     · obtain ⟨rfl,rfl⟩:=bh hl
       refine fin (!b) (by rw [run_neq_struct,hrun]; rfl) ?_ rfl rfl
       show Value.bool (!b)=Value.bool (@decide _ (@instDecidableNot _ (pz S _ _ _)))
       congr 1
       cases hb:b with
       | true=>exact (@decide_eq_false _ (_) (fun hq=>hq (g2.1 hb))).symm
       | false=>exact (@decide_eq_true _ (_) (fun hq=>by rw [g2.2 hq] at hb; cases hb)).symm
     · exact hl.elim
   · exact hl.elim
 · exact hl.elim
theorem ur {s:St} {bx:Bx S.C} {e:Ty} (he:a_ e=false): ∀ {vs:List (Sy.V S.C)} {cs:List Value} {l:List (e.den S.C)},aF P S w s μ bx vs cs→rowOf S e vs=some l→l.length=vs.length∧
 ∀ (j:Nat) (x:e.den S.C),l[j]? =some x→ ∃ c n,cs[j]? =some c∧ay S w s n e x [c]
 | [],_,_,_,hl=>by
  cases hl
  exact ⟨rfl,fun j x h=>by simp at h⟩
 | v::vs,_,l,⟨c,r,rfl,h1,h2⟩,hl=>by
  simp only [rowOf] at hl
  obtain ⟨x,hx,hl⟩:=Option.bind_eq_some_iff.1 hl
  obtain ⟨l',hl',hl⟩:=Option.bind_eq_some_iff.1 hl
  cases hl
  obtain ⟨h3,h4⟩:=ur he h2 hl'
  refine ⟨by simp [h3],fun j y hj=> ?_⟩
  cases j with
  | zero=>
   simp at hj
   subst hj
   obtain ⟨n,hn⟩:=Au he h1 hx
   exact ⟨c,n,rfl,hn⟩
  | succ j=>
   obtain ⟨c',n,h5,h6⟩:=h4 j y (by simpa using hj)
   exact ⟨c',n,by simpa using h5,h6⟩
theorem vR (hP:aO P S af) {t n u:Nat} {e:Ty} (h:kC S t=some (n,e,u)): ∃ te,S.ty t=some (.st u)∧P.underlying t=some (.array n te)∧S.ty te=some e∧Ty.sz S e=1∧a_ e=false∧S.F u=List.replicate n e:=by
 unfold kC at h
 cases ha:S.ar t with
 | none=>rw [ha] at h; cases h
 | some p=>
  obtain ⟨n',e'⟩:=p
  rw [ha] at h
  dsimp only at h
  split at h
  · cases h
  · rename_i u' I3 hu
    cases h
    obtain ⟨_,_,h3⟩:=hP.ty t _ hu
    rw [ha] at h3
    obtain ⟨te,h4,h5,h6,_⟩:=h3
    rcases h6 with ⟨h6,h7,h8⟩ | ⟨w,rfl,_⟩
    · exact ⟨te,hu,h4,h5,h6,h7,h8⟩
    · exact absurd rfl (I3 w)
  · cases h
theorem FY (hP:aO P S af) {t n m u:Nat} (h:sy S t=some (n,m,u)): ∃ te,S.ty t=some (.st u)∧P.underlying t=some (.array n te)∧S.ty te=some (.st m):=by
 unfold sy at h
 cases ha:S.ar t with
 | none=>rw [ha] at h; cases h
 | some p=>
  obtain ⟨n',e'⟩:=p
  rw [ha] at h
  dsimp only at h
  split at h
  · rename_i w u' hu
    cases h
    obtain ⟨_,_,h3⟩:=hP.ty t _ hu
    rw [ha] at h3
    obtain ⟨te,h4,h5,_⟩:=h3
    exact ⟨te,hu,h4,h5⟩
  · cases h
theorem Ms (hP:aO P S af) {t n te:Nat} {e:Ty} (hu:P.underlying t=some (.array n te)) (he:S.ty te=some e) (h1:Ty.sz S e=1) {b o':Nat} {k:IntKind} {i:Int} (h0:0≤i) (hi:i<(n:Int)) (w:World):
 (Instr.indexAt t (.pointer (some ⟨b,o',none⟩)) (.int k i)).run P w= .ok (.pointer (some ⟨b,o'+i.toNat,none⟩)) w:=by
 simp [Instr.indexAt,asIntOf,run_underlying hu,h0,hi,hP.size he w,Addr.add_mid,h1,Instr.sureAddr]
theorem Mq (hP:aO P S af) {t n te:Nat} {e:Ty} (hu:P.underlying t=some (.array n te)) (he:S.ty te=some e) (h1:Ty.sz S e=1) (hst:a_ e=false) {cs:Array Value} {c:Value} {k:IntKind} {i:Int} (h0:0≤i) (hi:i<(n:Int)) (hc:cs.toList[i.toNat]? =some c) (w:World):
 (Instr.index t (.agg cs) (.int k i)).run P w= .ok c w:=by
 have hlt:i.toNat<cs.size:=by
  have :=(List.getElem?_eq_some_iff.1 hc).1
  simpa using this
 have :=j0 hP he (cs:=cs) (off:=i.toNat) (by rw [h1]; omega) w
 rw [h1] at this
 simp only [Instr.index,asIntOf,Sem.run_bind,Sem.run_pure,Result.andThen_ok,run_underlying hu]
 simp only [h0,hi,and_self,if_true,Sem.run_bind,hP.size he w,Result.andThen_ok,h1,Nat.mul_one,this]
 congr 1
 have hm: ∀ ds,dI e ds=ds.headD Go.undef:=by intro ds; cases e <;> first | rfl | simp [a_] at hst
 have lX:cs.toList[i.toNat]=c:=by
  have :=(List.getElem?_eq_some_iff.1 hc).2
  exact this
 rw [hm,List.drop_eq_getElem_cons (by simpa using hlt),lX]
 rfl
theorem OB (h:Inv P S w0 M0 s0 dq env a w μ) {o:Oper} {K:Act→World→Prop} {Q:Exit→Act→World→Prop} {V:Sy.V S.C} {v:Value} {us:aG S.C}
 (hrun:(execOp a.eval o).run P w= .ok (.value v) w) (hd: ∀ d,o.dst=some d→d<a.tmps.size) (hk: ∀ i,ai env.bx us i=env.bx i∨ ∃ ws,env.bx i=some (.cells ws)∧ai env.bx us i=some (.bw ws))
 (hv:Inv P S w0 M0 s0 dq { env with bx:=ai env.bx us } a w μ→RV P S w (aC S w0 M0 s0 (ai env.bx us) μ w) μ (ai env.bx us) V v) (hr: ∀ i ∈ av S V,ai env.bx us i≠none)
 (hK: ∀ a' w' μ',Inv P S w0 M0 s0 dq (env.apply o.dst V us) a' w' μ'→a'.tmps.size=a.tmps.size→K a' w'):o.wp P a w K Q:=by
 unfold Oper.wp
 rw [hrun]
 have hI:=h.sW hk
 refine hK _ w μ (hI.put hd (hv hI) hr) ?_
 cases o.dst <;> simp [Act.put]
theorem FV (hP:aO P S af) (h:Inv P S w0 M0 s0 dq env a w μ) (hd: ∀ d,o.dst=some d→d<a.tmps.size) {t:TypeId} {x i:Operand} {ids:List Nat} {n u:Nat} {e:Ty} (ho:o.op= .indexAddr t x i) (hte:kC S t=some (n,e,u))
 (hl:(match aK S env.tm x,aK S env.tm i with
  | some v,some w=>match w.int? with
   | some (_,j)=>vS S n e u (restrict S env.bx ids) j v
   | none=> .fail
  | _,_=> .fail).leaf (V,us)) (hK:Goal P S w0 M0 s0 dq env a o.dst V us K):o.wp P a w K Q:=by
 obtain ⟨te,ht,hu,he,h1,hst,hF⟩:=vR hP hte
 split at hl
 · rename_i v wv hx hi
   obtain ⟨hv,cI⟩:=bg h hx
   obtain ⟨jP,_⟩:=bg h hi
   split at hl
   · rename_i k j hn
     have hin:=fW jP hn
     have run: ∀ (b off:Nat),a.eval x= .pointer (some ⟨b,off,none⟩)→0≤j→j<(n:Int)→(execOp a.eval o).run P w= .ok (.value (.pointer (some ⟨b,off+j.toNat,none⟩))) w:=by
      intro b off he' h0 hj
      unfold execOp
      simp only [ho,he',hin]
      simp [Ms hP hu he h1 h0 hj]
     unfold vS at hl
     split at hl
     · rename_i b off
       have main: ∀ (vs:List (Sy.V S.C)),(env.bx b=some (.cells vs)∨env.bx b=some (.bw vs))→(match rowOf S e ((vs.drop off).take n) with
        | some l=> .gd (dj j l.length) (ax S (.cH e (eN S e l j)) [(b, .bw vs)])
        | none=> .fail:Rt S).leaf (V,us)→o.wp P a w K Q:=by
        intro vs hb bQ
        clear hl
        split at bQ
        · rename_i l hrow
          obtain ⟨hg,rfl,rfl⟩:=eg bQ
          have g0:0≤j:=hg ⟨0≤j,inferInstance⟩ (by simp [dj,gd])
          have g1:j<(l.length:Int):=hg ⟨j<(l.length:Int),inferInstance⟩ (by simp [dj,gd])
          have hk: ∀ i,ai env.bx [(b,cR.bw vs)] i=env.bx i∨ ∃ ws,env.bx i=some (.cells ws)∧ai env.bx [(b,cR.bw vs)] i=some (.bw ws):=by
           intro i
           by_cases e':i=b
           · subst e'
             rcases hb with hb | hb
             · exact .inr ⟨vs,hb,aL ..⟩
             · exact .inl ((aL ..).trans hb.symm)
           · exact .inl (aY _ _ e')
          have hlen:l.length≤n∧l.length≤vs.length - off:=by
           have : ∀ (e:Ty) (vs:List (Sy.V S.C)) (l:List (e.den S.C)),rowOf S e vs=some l→l.length=vs.length:=by
            intro e vs
            induction vs with
            | nil=>intro l hl; cases hl; rfl
            | cons v vs ih=>
             intro l hl
             simp only [rowOf] at hl
             obtain ⟨x,hx,hl⟩:=Option.bind_eq_some_iff.1 hl
             obtain ⟨l',hl',hl⟩:=Option.bind_eq_some_iff.1 hl
             cases hl
             simp [ih l' hl']
           have :=this e _ l hrow
           rw [List.length_take,List.length_drop] at this
           omega
          have xT:a.eval x= .pointer (some ⟨(μ b).b,(μ b).o+off,none⟩):=hv
          refine OB (V:= .cH e (eN S e l j)) h (run _ _ xT g0 (by omega)) hd hk (fun hI=> ?_) (by simp [av,aj]) hK
          have gp:ai env.bx [(b,cR.bw vs)] b=some (.bw vs):=aL ..
          obtain ⟨_,cs,cC,cv⟩:=hI.bE b _ gp
          obtain ⟨_,fD⟩:=ur hst (aF.take P S n (aF.drop P S off cv)) hrow
          obtain ⟨c,m,hc,hr⟩:=fD j.toNat _ (nu g0 g1)
          refine ⟨(μ b).b,(μ b).o+off+j.toNat,[c],rfl,fun q u hq=> ?_,by rw [h1]; rfl,m,hr⟩
          cases q with
          | zero=>
           simp at hq
           subst hq
           rw [List.getElem?_take] at hc
           split at hc
           · rw [List.getElem?_drop] at hc
             have :=cC (off+j.toNat) c hc
             rw [Nat.add_zero,Nat.add_assoc]
             exact this
           · cases hc
          | succ q=>simp at hq
        · exact bQ.elim
       split at hl
       · rename_i vs hb; exact main vs (.inl (dF hb)) hl
       · rename_i vs hb; exact main vs (.inr (dF hb)) hl
       · exact hl.elim
     · rename_i t' y
       split at hl
       · rename_i y' hc
         obtain ⟨rfl,rfl⟩:=di hc
         split at hl
         · rename_i l hrow
           obtain ⟨hg,rfl,rfl⟩:=eg hl
           have g0:0≤j:=hg ⟨0≤j,inferInstance⟩ (by simp [dj,gd])
           have g1:j<(l.length:Int):=hg ⟨j<(l.length:Int),inferInstance⟩ (by simp [dj,gd])
           obtain ⟨b,o',ds,xT,cC,hlen,m,hr⟩:=hv
           obtain ⟨cv,_⟩:=iX (P:=P) hP.toct μ env.bx hr
           obtain ⟨p7,fD⟩:=ur hst (aF.take P S n cv) hrow
           rw [List.length_take] at p7
           obtain ⟨c,m',hc,hr'⟩:=fD j.toNat _ (nu g0 g1)
           refine wp_pure (V:= .cH e (eN S e l j)) h (run _ _ xT g0 (by omega)) hd ⟨b,o'+j.toNat,[c],rfl,fun q u hq=> ?_,by rw [h1]; rfl,m',hr'⟩ (by simp [av,aj]) hK
           cases q with
           | zero=>
            simp at hq
            subst hq
            rw [List.getElem?_take] at hc
            split at hc
            · have :=cC j.toNat c hc
              rw [Nat.add_zero]
              exact this
            · cases hc
           | succ q=>simp at hq
         · exact hl.elim
       · exact hl.elim
     · exact hl.elim
   · exact hl.elim
 · exact hl.elim
theorem MZ (hP:aO P S af) (h:Inv P S w0 M0 s0 dq env a w μ) (hd: ∀ d,o.dst=some d→d<a.tmps.size) {t:TypeId} {x y:Operand} {ids:List Nat} {n u:Nat} {e:Ty} (ho:o.op= .store t x y) (hte:kC S t=some (n,e,u))
 (eo: ∀ V,aK S env.tm y=some V→ ∀ i ∈ av S V,restrict S env.bx ids i=env.bx i)
 (hl:(match aK S env.tm x,aK S env.tm y with
  | some p,some v=>zK S u (restrict S env.bx ids) v p
  | _,_=> .fail).leaf (V,us)) (hK:Goal P S w0 M0 s0 dq env a o.dst V us K):o.wp P a w K Q:=by
 obtain ⟨te,ht,_⟩:=vR hP hte
 split at hl
 · rename_i p v hx hy
   unfold zK at hl
   split at hl
   · rename_i b off
     split at hl
     · rename_i vs hb
       cases hf:fits S (cellsOf S v) (Ty.sz S (.st u))&&Nat.ble (off+Ty.sz S (.st u)) vs.length with
       | false=>rw [hf] at hl; exact hl.elim
       | true=>
        rw [hf] at hl
        obtain ⟨rfl,rfl⟩:=bh hl
        refine Ef hP h hd (V:= .skip) (us:= [(b, .cells (setCells S vs off (cellsOf S v)))]) ho eo ?_ fun a' w' μ' hI hsz=> ?_
        · rw [ht,hx,hy]
          simp only [rF]
          rw [hb]
          dsimp only
          rw [hf]
          rfl
        · have hfr:=hI.sW (aa:=ai env.bx [(b, .bw (setCells S vs off (cellsOf S v)))]) fun i=>by
           by_cases e':i=b
           · subst e'
             exact .inr ⟨_,aL ..,aL ..⟩
           · exact .inl ((aY _ _ e').trans (aY _ _ e').symm)
          exact hK a' w' μ' hfr hsz
     · exact hl.elim
   · exact hl.elim
 · exact hl.elim
theorem FX (hP:aO P S af) (h:Inv P S w0 M0 s0 dq env a w μ) (hd: ∀ d,o.dst=some d→d<a.tmps.size) {t:TypeId} {x i:Operand} {n u:Nat} {e:Ty} (ho:o.op= .index t x i) (hte:kC S t=some (n,e,u))
 (hl:(match aK S env.tm x,aK S env.tm i with
  | some v,some w=>match w.int? with
   | some (_,j)=>vT S n e u j v
   | none=> .fail
  | _,_=> .fail).leaf (V,us)) (hK:Goal P S w0 M0 s0 dq env a o.dst V us K):o.wp P a w K Q:=by
 obtain ⟨te,ht,hu,he,h1,hst,hF⟩:=vR hP hte
 split at hl
 · rename_i v wv hx hi
   obtain ⟨hv,cI⟩:=bg h hx
   obtain ⟨jP,_⟩:=bg h hi
   split at hl
   · rename_i k j hn
     have hin:=fW jP hn
     unfold vT at hl
     split at hl
     · rename_i vs hcells
       split at hl
       · rename_i l hrow
         obtain ⟨hg,rfl,rfl⟩:=eg hl
         have g0:0≤j:=hg ⟨0≤j,inferInstance⟩ (by simp [dj,gd])
         have g1:j<(l.length:Int):=hg ⟨j<(l.length:Int),inferInstance⟩ (by simp [dj,gd])
         have xO: ∃ cs,a.eval x= .agg cs∧aF P S w (aC S w0 M0 s0 env.bx μ w) μ env.bx vs cs.toList:=by
          unfold oW at hcells
          split at hcells
          · rename_i u' vs'
            cases hb:Nat.beq u u' with
            | false=>rw [hb] at hcells; cases hcells
            | true=>
             rw [hb] at hcells
             cases hcells
             obtain ⟨cs,g1,g2,g3,g4⟩:=hv
             exact ⟨cs,g1,g4⟩
          · rename_i t' y
            obtain ⟨y',hc,hcells⟩:=Option.bind_eq_some_iff.1 hcells
            cases hcells
            obtain ⟨rfl,rfl⟩:=di hc
            obtain ⟨ha,m,hr⟩:=hv
            have : ∃ cs,a.eval x= .agg cs:=by
             cases e':a.eval x <;> rw [e'] at ha <;> first | exact ⟨_,rfl⟩ | (simp [Go.Sy.isAgg,a_] at ha)
            obtain ⟨cs,hcs⟩:=this
            rw [hcs] at hr
            exact ⟨cs,hcs,(iX (P:=P) hP.toct μ env.bx hr).1⟩
          · cases hcells
         obtain ⟨cs,hcs,cv⟩:=xO
         obtain ⟨p7,fD⟩:=ur hst (aF.take P S n cv) hrow
         rw [List.length_take] at p7
         obtain ⟨c,m',hc,hr'⟩:=fD j.toNat _ (nu g0 g1)
         have eP:cs.toList[j.toNat]? =some c:=by
          rw [List.getElem?_take] at hc
          split at hc
          · exact hc
          · cases hc
         refine wp_pure (V:= .d e (eN S e l j)) h (v:=c) ?_ hd ?_ (by simp [av,aj]) hK
         · unfold execOp
           simp only [ho,hcs,hin]
           simp [Mq hP hu he h1 hst g0 (by omega:j<(n:Int)) eP]
         · have :=tN hr'
           have hm: ∀ ds,dI e ds=ds.headD Go.undef:=by intro ds; cases e <;> first | rfl | simp [a_] at hst
           rw [hm] at this
           exact this
       · exact hl.elim
     · exact hl.elim
   · exact hl.elim
 · exact hl.elim
theorem As {w k:Nat} {j:Int} {vs:List (Sy.V S.C)} : ∀ {i m:Nat},(sx S w k j vs i m).leaf (V,us)→ ∃ q,i≤q∧q<i+m∧j=(q:Int)∧V= .agg w ((vs.drop (q*k)).take k)∧us= []
 | _,0,h=>h.elim
 | i,m+1,h=>by
  rcases h with ⟨hj,h⟩ | ⟨_,h⟩
  · obtain ⟨rfl,rfl⟩:=bh h
    exact ⟨i,Nat.le_refl _,by omega,hj,rfl,rfl⟩
  · obtain ⟨q,h1,h2,h3⟩:=As h
    exact ⟨q,by omega,by omega,h3⟩
theorem Mr (hP:aO P S af) {t n te m:Nat} (hu:P.underlying t=some (.array n te)) (he:S.ty te=some (.st m)) {cs:Array Value} {k:IntKind} {q:Nat} (hi:q<n) (hle:q*(S.F m).length+(S.F m).length≤cs.size) (w:World):
 (Instr.index t (.agg cs) (.int k (q:Int))).run P w= .ok (dI (.st m) ((cs.toList.drop (q*(S.F m).length)).take (S.F m).length)) w:=by
 have :=j0 hP he (cs:=cs) (off:=q*(S.F m).length) hle w
 have h0:(0:Int)≤(q:Int):=by omega
 have hi':(q:Int)<(n:Int):=by omega
 have hsz:Ty.sz S (.st m)=(S.F m).length:=rfl
 rw [hsz] at this
 simp only [Instr.index,asIntOf,Sem.run_bind,Sem.run_pure,Result.andThen_ok,run_underlying hu]
 simp only [h0,hi',and_self,if_true,Sem.run_bind,hP.size he w,Result.andThen_ok,hsz,Int.toNat_natCast,this]
theorem FW (hP:aO P S af) (h:Inv P S w0 M0 s0 dq env a w μ) (hd: ∀ d,o.dst=some d→d<a.tmps.size) {t:TypeId} {x i:Operand} {n m u:Nat} (ho:o.op= .index t x i) (hte:sy S t=some (n,m,u))
 (hl:(match aK S env.tm x,aK S env.tm i with
  | some v,some w=>match oW S u v,w.int? with
   | some vs,some (_,j)=>cond (Nat.beq vs.length (n*(S.F m).length)) (sx S m (S.F m).length j vs 0 n) .fail
   | _,_=> .fail
  | _,_=> .fail).leaf (V,us)) (hK:Goal P S w0 M0 s0 dq env a o.dst V us K):o.wp P a w K Q:=by
 obtain ⟨te,ht,hu,he⟩:=FY hP hte
 split at hl
 · rename_i v wv hx hi
   obtain ⟨hv,cI⟩:=bg h hx
   obtain ⟨jP,_⟩:=bg h hi
   split at hl
   · rename_i vs k j hcells hn
     have hin:=fW jP hn
     cases hb:Nat.beq vs.length (n*(S.F m).length) with
     | false=>rw [hb] at hl; exact hl.elim
     | true=>
      rw [hb,cond_true] at hl
      have hlen:=Nat.eq_of_beq_eq_true hb
      obtain ⟨q,_,hq,rfl,rfl,rfl⟩:=As hl
      have xO: ∃ cs:Array Value,a.eval x= .agg cs∧vs.all (br S)=true∧aF P S w (aC S w0 M0 s0 env.bx μ w) μ env.bx vs cs.toList∧ ∀ V ∈ vs, ∀ i ∈ aj S V,env.bx i≠none:=by
       unfold oW at hcells
       split at hcells
       · rename_i u' vs'
         cases hb:Nat.beq u u' with
         | false=>rw [hb] at hcells; cases hcells
         | true=>
          rw [hb] at hcells
          cases hcells
          obtain ⟨cs,g1,g2,g3,g4⟩:=hv
          exact ⟨cs,g1,g3,g4,fun V hV i hi=>cI i (by simp only [av,List.mem_flatMap]; exact ⟨V,hV,hi⟩)⟩
       · rename_i t' y
         obtain ⟨y',hc,hcells⟩:=Option.bind_eq_some_iff.1 hcells
         cases hcells
         obtain ⟨rfl,rfl⟩:=di hc
         obtain ⟨ha,r,hr⟩:=hv
         have : ∃ cs,a.eval x= .agg cs:=by
          cases e':a.eval x <;> rw [e'] at ha <;> first | exact ⟨_,rfl⟩ | (simp [Go.Sy.isAgg,a_] at ha)
         obtain ⟨cs,hcs⟩:=this
         rw [hcs] at hr
         obtain ⟨x1,x2,x3⟩:=iX (P:=P) hP.toct μ env.bx hr
         exact ⟨cs,hcs,x2,x1,fun V hV i hi=>by rw [x3 V hV] at hi; simp at hi⟩
       · cases hcells
      obtain ⟨cs,hcs,kI,cv,eo⟩:=xO
      have hcl:cs.size=n*(S.F m).length:=by
       have :=aF.length P S cv
       rw [hlen] at this
       simpa using this
      have hle:q*(S.F m).length+(S.F m).length≤n*(S.F m).length:=by
       have :(q+1)*(S.F m).length≤n*(S.F m).length:=Nat.mul_le_mul_right _ (by omega)
       rw [Nat.add_mul,Nat.one_mul] at this
       exact this
      have hvl:((vs.drop (q*(S.F m).length)).take (S.F m).length).length=(S.F m).length:=by
       rw [List.length_take,List.length_drop]; omega
      refine wp_pure (V:= .agg m ((vs.drop (q*(S.F m).length)).take (S.F m).length)) h (v:= .agg ((cs.toList.drop (q*(S.F m).length)).take (S.F m).length).toArray) ?_ hd
       ⟨_,rfl,hvl, ?_,by rw [List.toList_toArray]; exact aF.take P S _ (aF.drop P S _ cv)⟩ (fun i hi=> ?_) hK
      · unfold execOp
        simp only [ho,hcs,hin]
        simp [Mr hP hu he (cs:=cs) (k:=k) (by omega:q<n) (by omega),dI]
      · rw [List.all_eq_true] at kI ⊢
        exact fun V hV=>kI V (List.mem_of_mem_drop (List.mem_of_mem_take hV))
      · simp only [av,List.mem_flatMap] at hi
        obtain ⟨V,hV,hi⟩:=hi
        exact eo V (List.mem_of_mem_drop (List.mem_of_mem_take hV)) i hi
   · exact hl.elim
 · exact hl.elim
end
end Go.Sy
namespace Go.Sy
section
variable {P:Program} {S:aN} {af:Nat→Nat}
variable {w0:World} {M0 s0:St} {dq:List Deferred} {env:Env S.C} {a:Act} {w:World} {μ:Nat→Loc} {K:Act→World→Prop} {Q:Exit→Act→World→Prop} {o:Oper} {V:V S.C} {us:aG S.C}
theorem J3 {x y:Operand} {n:Nat} (h:tK x y=some n):x= .const (.int .i64 (n:Int))∧y= .const (.int .i64 (n:Int))∧n≤8:=by
 unfold tK at h
 split at h
 · rename_i p q
   cases hc:Nat.beq p q&&Nat.ble p 8 with
   | false=>rw [hc] at h; cases h
   | true=>
    rw [hc,cond_true] at h
    cases h
    rw [Bool.and_eq_true] at hc
    have e1:=Nat.eq_of_beq_eq_true hc.1
    subst e1
    exact ⟨rfl,rfl,Nat.le_of_ble_eq_true hc.2⟩
 · cases h
theorem Af {s:St} {bx:Bx S.C} : ∀ (n:Nat) (cs:List Value),cs=List.replicate n (Value.slice none 0 0)→aF P S w s μ bx (List.replicate n (.b7:Sy.V S.C)) cs
 | 0,_,h=>h
 | n+1,_,h=>⟨.slice none 0 0,List.replicate n (.slice none 0 0),h,rfl,Af n _ rfl⟩
theorem Ke (hP:aO P S af) (h:Inv P S w0 M0 s0 dq env a w μ) (hd: ∀ d,o.dst=some d→d<a.tmps.size) {vw:Bool} {B:Nat} {t:TypeId} {x y:Operand} (ho:o.op= .makeSlice t x y)
 (hnew: ∀ u ∈ us,B≤u.1→u.1<B+16→env.bx u.1=none)
 (hl:(match dG S t,aK S env.tm x,aK S env.tm y with
  | some e,some v,some w=>match cond (vw&&x_ e&&Nat.ble (af t) 64) (tK x y) none with
   | some n=>ax S (.bW B n) [(B, .cells (List.replicate n .b7))]
   | none=>match v.int?,w.int? with
    | some (.i64,n),some (.i64,m)=>Tr.gd [gd (0≤n),gd (n≤m),gd (m*af t≤limit)] (ax S (.aH (B)) [(B, .arr e (List.replicate n.toNat (Ty.zero S e)))])
    | _,_=>Tr.fail
  | _,_,_=>Tr.fail).leaf (V,us)) (hK:Goal P S w0 M0 s0 dq env a o.dst V us K):o.wp P a w K Q:=by
 split at hl
 · rename_i e v u ht hx hy
   split at hl
   · rename_i n hn
     cases hc:(vw&&x_ e&&Nat.ble (af t) 64) with
     | false=>rw [hc] at hn; cases hn
     | true=>
     rw [hc,cond_true] at hn
     simp only [Bool.and_eq_true] at hc
     obtain ⟨⟨_,eC⟩,nA⟩:=hc
     have nA:=Nat.le_of_ble_eq_true nA
     obtain ⟨hex,Iu,O9⟩:=J3 hn
     obtain ⟨rfl,rfl⟩:=bh hl
     obtain ⟨e1,rfl⟩: ∃ e1,e= .sl e1:=by
      cases e with
      | sl e1=>exact ⟨e1,rfl⟩
      | _=>cases eC
     have ht':=jI ht
     obtain ⟨te,ie,z,hu,hte,hie,hby,eu,_⟩:=hP.sl ht'
     obtain ⟨⟨i,z,h1,h2,h3,h4,h5⟩,_⟩:=hP.ty te _ hte
     rw [hie] at h1
     cases h1
     have hz:z.cells.toList= [.slice none 0 0]:=h5
     have hsz:ie.size=1:=h2
     have O2:(n:Int)*af t≤512:=by
      have q1:(af t:Int)≤64:=by omega
      have q2:(n:Int)≤8:=by omega
      exact Int.le_trans (Int.mul_le_mul q2 q1 (by omega) (by omega)) (by decide)
     have hrun:=run_make (P:=P) w t te ie z hu hie h3 .i64 .i64 n n (by omega) (Int.le_refl _) (by rw [hby,Int.mul_comm]; omega) (by omega)
     have hB:=hnew _ (List.mem_singleton.2 rfl) (Nat.le_refl _) (by show B<B+16; omega)
     have hcells:(madeCells z.cells (n*1)).toList=List.replicate n (Value.slice none 0 0):=by
      have hzs:z.cells= #[.slice none 0 0]:=by
       have :z.cells=z.cells.toList.toArray:=by simp
       rw [this,hz]
      rw [hzs,Nat.mul_one]
      unfold madeCells
      apply List.ext_getElem
      · simp
      · intro j O6 hj2
        simp [Nat.mod_one]
     have nt:=kN (w:=w) (cs:=madeCells z.cells (n*1)) (t:=te)
     rw [size_madeCells,Nat.mul_one] at nt
     refine lA (i:=B) (B:= .cells (List.replicate n .b7)) (V:= .bW B n) (v:= .slice (some ⟨w.heap.size,0,none⟩) n n) (L:=⟨w.heap.size,0,n,0,false⟩) (w':=w.alloc (.cells (madeCells z.cells (n*1)) te)) h ?_ hd (aW.alloc w _ _) hB (fun b o' hf=>Nat.le_of_eq hf.1.symm)
      (fun hl _ h3=>⟨⟨?_, ?_, ?_,_, ?_,Af n _ hcells⟩, ?_⟩) (fun vs hvs v hv j hj=> ?_) (fun j hj=> .inl (by simpa [av,aj] using hj)) hK
     · unfold execOp
       simp only [ho,hex,Iu]
       have :(Instr.makeSlice t (.int .i64 (n:Int)) (.int .i64 (n:Int))).run P w= .ok (.slice (some ⟨w.heap.size,0,none⟩) n n) (w.alloc (.cells (madeCells z.cells (n*1)) te)):=by
        rw [hrun,hsz]; rfl
       simp [this,Act.eval]
     · rw [List.all_eq_true]
       intro v hv
       rw [List.eq_of_mem_replicate hv]; rfl
     · simp
     · simpa using nt.1
     · simpa using nt.2
     · show Value.slice _ n n= .slice (some ⟨(ah μ B _ B).b,(ah μ B _ B).o,none⟩) n n
       rw [aL]
     · have :v= .b7:=by
        rcases hvs with hvs | hvs
        · cases hvs; exact List.eq_of_mem_replicate hv
        · cases hvs
       rw [this] at hj
       simp [aj] at hj
   · exact Kg hP h hd ho hnew (by rw [ht,hx,hy]; exact hl) hK
 · exact hl.elim
theorem EG {e:Ty} : ∀ {vs:List (Sy.V S.C)} {l:List (List (e.den S.C))},oA S e vs=some l→l.length=vs.length
 | [],l,h=>by cases h; rfl
 | v::vs,l,h=>by
  cases v with
  | aT b e' x=>
   simp only [oA] at h
   obtain ⟨y,hy,h⟩:=Option.bind_eq_some_iff.1 h
   obtain ⟨r,hr,h⟩:=Option.bind_eq_some_iff.1 h
   cases h
   show (y::r).length=_
   simp only [List.length_cons]
   exact congrArg (· +1) (EG hr)
  | _=>cases h
theorem EF {s:St} {bx:Bx S.C} {e:Ty} : ∀ {vs:List (Sy.V S.C)} {l:List (List (e.den S.C))} {cs:List Value},oA S e vs=some l→aF P S w s μ bx vs cs→ ∀ (i:Nat) (x:List (e.den S.C)),l[i]? =some x→ ∃ c,cs[i]? =some c∧bS S w s (.sl e) x c
 | [],l,cs,h,_,i,x,hx=>by cases h; simp at hx
 | v::vs,l,cs,h,⟨c,r,hc,h1,h2⟩,i,x,hx=>by
  cases v with
  | aT b e' y=>
   simp only [oA] at h
   obtain ⟨z,hz,h⟩:=Option.bind_eq_some_iff.1 h
   obtain ⟨q,hq,h⟩:=Option.bind_eq_some_iff.1 h
   cases h
   subst hc
   cases i with
   | zero=>
    have hx:some z=some x:=hx
    cases hx
    refine ⟨c,rfl, ?_⟩
    obtain ⟨he,hz⟩:=di hz
    cases he
    cases hz
    exact h1.1
   | succ i=>
    have hx:q[i]? =some x:=hx
    exact EF hq h2 i x hx
  | _=>cases h
theorem FZ {nl:Bool} (h:Inv P S w0 M0 s0 dq env a w μ) (hd: ∀ d,o.dst=some d→d<a.tmps.size) {x:Operand} {B:Nat} {ids:List Nat} (ho:execOp a.eval o=pure (.value (a.eval x)))
 (hnew: ∀ u ∈ us,B≤u.1→u.1<B+16→env.bx u.1=none)
 (hl:(match aK S env.tm x with
  | some .b7=>cond nl (ax S .b7 []) (match dG S o.type with
   | some e=>ax S (.aT B e []) [(B, .tail)]
   | none=> .fail)
  | some (.bW b n)=>settle S (dG S o.type) (restrict S env.bx ids) b n
  | some v=>ax S v []
  | none=> .fail).leaf (V,us)) (hK:Goal P S w0 M0 s0 dq env a o.dst V us K):o.wp P a w K Q:=by
 have hrun:(execOp a.eval o).run P w= .ok (.value (a.eval x)) w:=by rw [ho]; rfl
 split at hl
 · rename_i hx
   exact yy (nl:=nl) h hd (x:=x) (B:=B) ho hnew (by rw [hx]; exact hl) hK
 · rename_i b n hx
   obtain ⟨hv,hr⟩:=bg h hx
   unfold settle at hl
   split at hl
   · rename_i vs hb
     have hb:=dF hb
     split at hl
     · obtain ⟨rfl,rfl⟩:=bh hl
       exact wp_pure h hrun hd hv hr hK
     · split at hl
       · rename_i e he
         split at hl
         · rename_i l hlr
           cases hn:Nat.beq n vs.length with
           | false=>rw [hn] at hl; exact hl.elim
           | true=>
            rw [hn,cond_true] at hl
            have hn:=Nat.eq_of_beq_eq_true hn
            obtain ⟨rfl,rfl⟩:=bh hl
            have hall: ∀ i,ai env.bx [(b,cR.bw vs)] i=env.bx i∨ ∃ ws,env.bx i=some (.cells ws)∧ai env.bx [(b,cR.bw vs)] i=some (.bw ws):=fun i=>by
             by_cases e:i=b
             · subst e; exact .inr ⟨vs,hb,aL _ _ _⟩
             · exact .inl (aY _ _ e)
            have hI:=h.sW hall
            obtain ⟨_,cs,cC,cv⟩:=hI.bE b (.bw vs) (aL _ _ _)
            have p7:=EG hlr
            have hv:a.eval x= .slice (some ⟨(μ b).b,(μ b).o,none⟩) n n:=hv
            unfold Oper.wp
            rw [hrun]
            refine hK _ w μ (hI.put hd (V:= .d (.sl (.sl e)) l) ?_ (by simp [av,aj])) ?_
            · rw [hv,hn, ← p7]
              refine zH (Nat.le_refl _) fun i y hy=> ?_
              obtain ⟨c,hc,ha,m,hm⟩:=EF hlr cv i y hy
              refine ⟨[c],rfl,fun j u hj=> ?_,m, ?_⟩
              · cases j with
                | zero=>
                 simp at hj
                 subst hj
                 have :=cC i c hc
                 rw [show i*Ty.sz S (.sl e)=i from Nat.mul_one i]
                 exact this
                | succ j=>simp at hj
              · rwa [ay.ig ha rfl] at hm
            · cases o.dst <;> simp [Act.put]
         · exact hl.elim
       · exact hl.elim
   · exact hl.elim
 · rename_i v IZ O_ hx
   refine yy (nl:=nl) h hd (x:=x) (B:=B) ho hnew ?_ hK
   rw [hx]
   cases v with
   | b7=>exact absurd rfl IZ
   | _=>exact hl
 · exact hl.elim
theorem G8 (hP:aO P S af) (h:Inv P S w0 M0 s0 dq env a w μ) (hd: ∀ d,o.dst=some d→d<a.tmps.size) {op:BinOp} {t t':TypeId} {x:Operand} (ho:o.op= .binOp op t x (.const .nilIface) t')
 (hl:(match aK S env.tm x with
  | some (.err b)=>cond (S.kK t) (match op with
   | .eql=>ax S (.d .bool b) []
   | .neq=>ax S (.d .bool (Bool.not b)) []
   | _=> .fail) .fail
  | _=> .fail).leaf (V,us)) (hK:Goal P S w0 M0 s0 dq env a o.dst V us K):o.wp P a w K Q:=by
 split at hl
 · rename_i b hx
   obtain ⟨hv,_⟩:=bg h hx
   have hv:oO b (a.eval x):=hv
   cases hi:S.kK t with
   | false=>rw [hi] at hl; exact hl.elim
   | true=>
    rw [hi,cond_true] at hl
    obtain ⟨ms,hu⟩:=hP.kK t hi
    have hif:P.isIface t=true:=by unfold Program.isIface; rw [hu]
    have hg:(eqGuard op t x (.const .nilIface) (a.eval x) .nilIface).run P w= .ok () w:=by
     cases b with
     | true=>
      have hv:a.eval x= .nilIface:=hv
      rw [hv,eqGuard_nil_constR]; rfl
     | false=>
      obtain ⟨u,p,hv⟩:=hv
      rw [hv]
      exact wO rfl w
    have fin: ∀ r:Bool,V= .d .bool r→us= []→(binOp op t (a.eval x) .nilIface).run P w= .ok (.bool r) w→o.wp P a w K Q:=by
     rintro r rfl rfl hr
     refine wp_pure h (V:= .d .bool r) (v:= .bool r) ?_ hd (jG ..) (by simp [av,aj]) hK
     unfold execOp
     simp only [ho]
     have e:a.eval (.const .nilIface)= .nilIface:=rfl
     rw [e]
     simp [hg,hr]
    split at hl
    · obtain ⟨h1,h2⟩:=bh hl
      refine fin b h1 h2 ?_
      cases b with
      | true=>
       have hv:a.eval x= .nilIface:=hv
       rw [hv]; exact run_eql_nil_nil_at w t hif
      | false=>
       obtain ⟨u,p,hv⟩:=hv
       rw [hv]; exact run_eql_iface_nil w t hif u p
    · obtain ⟨h1,h2⟩:=bh hl
      refine fin (Bool.not b) h1 h2 ?_
      cases b with
      | true=>
       have hv:a.eval x= .nilIface:=hv
       rw [hv]; exact run_neq_nil_nil_at w t hif
      | false=>
       obtain ⟨u,p,hv⟩:=hv
       rw [hv]; exact run_neq_iface_nil w t hif u p
    · exact hl.elim
 · exact hl.elim
theorem yF {T:eM S} {B:Nat} {op:BinOp} {t t' ty:TypeId} {x y:Operand} {tm:Nat→Sy.V S.C} {bx:Bx S.C} (hy:y≠ .const .nilIface):
 cj S T af B (.binOp op t x y t') ty tm bx=cond (S.eq t) (match aK S tm x,aK S tm y with
 | some a,some b=>structEq S op t a b
 | _,_=> .fail) (match aK S tm x,aK S tm y with
 | some a,some b=>match sA S op t a b with
  | some (gs,v)=> .gd gs (ax S v [])
  | none=> .fail
 | _,_=> .fail):=by
 cases y with
 | const v=>cases v <;> first | rfl | exact absurd rfl hy
 | _=>rfl
end
end Go.Sy
namespace Go.Sy
section
variable {P:Program} {S:aN} {af:Nat→Nat}
variable {w0:World} {M0 s0:St} {dq:List Deferred} {env:Env S.C} {a:Act} {w:World} {μ:Nat→Loc} {K:Act→World→Prop} {Q:Exit→Act→World→Prop} {o:Oper} {V:V S.C} {us:aG S.C}
theorem JN {B:Nat} {fp:List Nat} {bx:Bx S.C} (h:jb S bx B fp us=true): ∀ u ∈ us,B≤u.1→u.1<B+16→bx u.1=none:=by
 intro u hu h1 h2
 have :=List.all_eq_true.1 h u hu
 rw [Bool.and_eq_true,show Nat.ble B u.1=true from Nat.ble_eq_true_of_le h1,show Nat.blt u.1 (B+16)=true from Nat.ble_eq_true_of_le h2] at this
 exact Option.isNone_iff_eq_none.1 (by simpa using this.2)
theorem nr {o:Op} {tm:Nat→Sy.V S.C} {x:Operand} (hx:x ∈ o.operands.toList) {V:Sy.V S.C} (hV:aK S tm x=some V) {i:Nat} (hi:i ∈ av S V):
 i ∈ o.operands.toList.flatMap (nO S tm):=
 List.mem_flatMap.2 ⟨x,hx,by unfold nO; rw [hV]; exact hi⟩
theorem mu {bx:Bx S.C} {ids:List Nat} {i:Nat} (h:i ∈ ids):restrict S bx ids i=bx i:=by
 unfold restrict
 rw [List.contains_iff_mem.2 h]; rfl
theorem Bi {bx:Bx S.C} {ids more:List Nat} {V:Sy.V S.C} (h: ∀ i ∈ av S V,i ∈ ids):fP S bx (restrict S bx (deep S bx ids++more)) V:=fun i hi=>
 ⟨mu (List.mem_append.2 (.inl (List.mem_append.2 (.inl (h i hi))))),fun vs hvs v hv j hj=>mu (List.mem_append.2 (.inl (List.mem_append.2 (.inr (List.mem_flatMap.2 ⟨i,h i hi,by
  rcases hvs with hvs | hvs <;> · rw [hvs]; exact List.mem_flatMap.2 ⟨v,hv,hj⟩⟩))))),
  fun j hj=>mu (List.mem_append.2 (.inl (List.mem_append.2 (.inr (List.mem_flatMap.2 ⟨i,h i hi,by rw [hj]; simp⟩)))))⟩
theorem KF (hP:aO P S af) {T:eM S} (hT: ∀ e ∈ T.es,kB P S w0 M0 e) (hF: ∀ e ∈ T.fs,eK P S e) (h:Inv P S w0 M0 s0 dq env a w μ) (hd: ∀ d,o.dst=some d→d<a.tmps.size) {B:Nat}
 (hl:(cj S T af B o.op o.type env.tm (restrict S env.bx (aB S T.vw B o.op env.tm env.bx).1)).leaf (V,us)) (tn:jb S env.bx B (aB S T.vw B o.op env.tm env.bx).2 us=true)
 (hK:Goal P S w0 M0 s0 dq env a o.dst V us K):o.wp P a w K Q:=by
 have hnew:=JN tn
 clear tn
 cases ho:o.op with
 | move x=>rw [ho] at hl; exact yy h hd (x:=x) (by unfold execOp; simp only [ho]) hnew hl hK
 | assign x=>rw [ho] at hl; exact FZ h hd (x:=x) (by unfold execOp; simp only [ho]) hnew hl hK
 | pick c x y=>rw [ho] at hl; exact KV h hd ho hl hK
 | alloc t=>rw [ho] at hl; exact FP hP h hd ho hnew hl hK
 | box t x=>rw [ho] at hl; exact F7 hP h hd ho hnew hl hK
 | build t ps=>rw [ho] at hl; exact F9 hP h hd ho hl hK
 | buildSlice t len ps=>
  rw [ho] at hl
  unfold cj at hl
  dsimp only at hl
  split at hl
  rotate_left
  · exact hl.elim
  rename_i e het
  cases hv:(T.vw&&Nat.beq len 0) with
  | true=>
   rw [hv,cond_true] at hl
   have h0:=Nat.eq_of_beq_eq_true (Bool.and_eq_true_iff.1 hv).2
   subst h0
   exact G3 hP h hd ho het hnew hl hK
  | false=>
  rw [hv,cond_false] at hl
  refine F8 hP h hd ho (fun i x hm V hV j hj=> ?_) hnew (by rw [het]; exact hl) hK
  exact mu (List.mem_append.2 (.inl (nr (x:=x) (by simp only [Op.operands]; exact List.mem_map.2 ⟨(i,x),hm,rfl⟩) hV hj)))
 | load t x=>rw [ho] at hl; exact J6 hP h hd ho hl hK
 | store t x y=>
  rw [ho] at hl
  unfold cj at hl
  dsimp only at hl
  split at hl
  · rename_i n e u hte
    refine MZ hP h hd ho hte (fun V hV j hj=> ?_) hl hK
    exact mu (List.mem_append.2 (.inl (nr (x:=y) (by simp [Op.operands]) hV hj)))
  · refine Ef hP h hd ho (fun V hV j hj=> ?_) hl hK
    exact mu (List.mem_append.2 (.inl (nr (x:=y) (by simp [Op.operands]) hV hj)))
 | nilCheck x=>rw [ho] at hl; exact Kr h hd ho hl hK
 | binOp op t x y t'=>
  rw [ho] at hl
  by_cases hy:y= .const .nilIface
  · subst hy
    exact G8 hP h hd ho hl hK
  rw [yF hy] at hl
  cases he:S.eq t with
  | true=>rw [he,cond_true] at hl; exact M8 hP h hd ho he hl hK
  | false=>rw [he,cond_false] at hl; exact F3 hP h hd ho hl hK
 | unOp op t x=>rw [ho] at hl; exact Oq h hd ho hl hK
 | convert s t x=>rw [ho] at hl; exact GQ hP h hd ho hl hK
 | makeFunc fn first cs=>
  rw [ho] at hl
  cases fn with
  | func f=>
   obtain ⟨l⟩:=first
   cases l with
   | nil=>exact Kf h hd ho hl hK
   | cons x r=>exact hl.elim
  | _=>exact hl.elim
 | makeSlice t x y=>rw [ho] at hl; exact Ke hP h hd ho hnew hl hK
 | slice t x lo hi m=>
  rw [ho] at hl
  cases m with
  | none=>exact MT hP h hd ho hl hK
  | some m=>
   cases lo with
   | none=>exact hl.elim
   | some lo=>
    cases hi with
    | none=>exact hl.elim
    | some hi=>exact MS hP h hd ho hl hK
 | fieldAddr t x f=>rw [ho] at hl; exact Hs hP h hd ho hl hK
 | field t x f=>rw [ho] at hl; exact Ht hP h hd ho hl hK
 | indexAddr t x i=>
  rw [ho] at hl
  unfold cj at hl
  dsimp only at hl
  split at hl
  · rename_i n e u hte; exact FV hP h hd ho hte hl hK
  · exact Jr hP h hd ho hl hK
 | index t x i=>
  rw [ho] at hl
  unfold cj at hl
  dsimp only at hl
  split at hl
  · rename_i n e u hte; exact FX hP h hd ho hte hl hK
  · split at hl
    · rename_i n m u hte; exact FW hP h hd ho hte hl hK
    · exact Jt hP h hd ho hl hK
 | extract x i=>rw [ho] at hl; exact Hq h hd ho hl hK
 | call c=>
  rw [ho] at hl
  unfold cj at hl
  dsimp only at hl
  split at hl
  · exact hl.elim
  · rename_i args hargs
    obtain ⟨callee,o6,Bc⟩:=c
    have hmem: ∀ V ∈ args, ∃ x ∈ o6.toList,aK S env.tm x=some V:=(sw h hargs).2
    cases callee with
    | builtin b=>
     cases b with
     | len=>exact JL hP h hd ho rfl hargs hl hK
     | append=>
      refine FR hP h hd ho rfl hargs (fun V hV j hj=> ?_) hnew hl hK
      obtain ⟨x,hx,he⟩:=hmem V hV
      exact mu (List.mem_append.2 (.inl (nr (x:=x) (by simp only [Op.operands,Call.operands]; simpa using hx) he hj)))
     | clear=>exact GK hP h hd ho rfl hargs hl hK
     | _=>exact Kj h hd ho rfl hargs hl hK
    | value f=>
     dsimp only at hl
     split at hl
     · rename_i Vf hf
       refine Gf hP hT hF h hd ho rfl hargs hf (fun V hV=> ?_) ?_ hnew hl hK
       · obtain ⟨x,hx,he⟩:=hmem V hV
         exact Bi fun i hi=>nr (x:=x) (by simp only [Op.operands,Call.operands]; simp; right; simpa using hx) he hi
       · exact Bi fun i hi=>nr (x:=f) (by simp only [Op.operands,Call.operands]; simp) hf hi
     · exact hl.elim
    | invoke r n=>exact hl.elim
 | _=>rw [ho] at hl; exact hl.elim
end
end Go.Sy
namespace Go.Sy
section
variable {P:Program} {S:aN} {af:Nat→Nat} {T:eM S}
variable {w0:World} {M0 s0:St} {dq:List Deferred} {env:Env S.C} {a:Act} {w:World} {μ:Nat→Loc}
theorem Ee {R:Type} {B:Nat} {dst:Option Nat} {o:Op} {ty:Nat} {k:Env S.C→Option R} {r:R} (h:zJ S T af B dst o ty env k=some r):
 ∃ V us,(cj S T af B o ty env.tm (restrict S env.bx (aB S T.vw B o env.tm env.bx).1)).leaf (V,us)∧jb S env.bx B (aB S T.vw B o env.tm env.bx).2 us=true∧k (env.apply dst V us)=some r:=by
 unfold zJ at h
 obtain ⟨⟨V,us⟩,h1,h2⟩:=Tr.mz _ h
 dsimp only at h2
 cases hl:jb S env.bx B (aB S T.vw B o env.tm env.bx).2 us with
 | false=>rw [hl] at h2; cases h2
 | true=>rw [hl] at h2; exact ⟨V,us,h1,hl,h2⟩
def lH (V:Sy.V S.C) (x:Bool):Prop:=(V= .d .bool x)∨ ∃ p i,V= .pr p i∧ @decide p i=x
theorem lH.val {s:St} {bx:Bx S.C} {V:Sy.V S.C} {x:Bool} (h:lH V x) {v:Value} (hv:RV P S w s μ bx V v):v= .bool x:=by
 rcases h with rfl | ⟨p,i,rfl,rfl⟩
 · exact lJ hv
 · exact hv
theorem zI {R:Type} {g:Bool} {dst:Option Nat} {k:Env S.C→Option R} {r:R} (h:splitK S g dst env k=some r):
 (g=false∧k env=some r)∨ ∃ t x,g=true∧dst=some t∧lH (env.tm t) x∧k { env with tm:=ah env.tm t (.d .bool x) } =some r:=by
 cases g with
 | false=>exact .inl ⟨rfl,h⟩
 | true=>
  right
  cases dst with
  | none=>cases h
  | some t=>
   simp only [splitK] at h
   split at h
   · rename_i x ht
     cases x with
     | true=>exact ⟨t,true,rfl,rfl, .inl ht,h⟩
     | false=>exact ⟨t,false,rfl,rfl, .inl ht,h⟩
   · rename_i p i ht
     by_cases hp:p
     · rw [if_pos hp] at h
       exact ⟨t,true,rfl,rfl, .inr ⟨p,i,ht,decide_eq_true hp⟩,h⟩
     · rw [if_neg hp] at h
       exact ⟨t,false,rfl,rfl, .inr ⟨p,i,ht,decide_eq_false hp⟩,h⟩
   · cases h
theorem Inv.zm (h:Inv P S w0 M0 s0 dq env a w μ) {t:Nat} {x:Bool} (hk:lH (env.tm t) x):Inv P S w0 M0 s0 dq { env with tm:=ah env.tm t (.d .bool x) } a w μ:=by
 have hv:=hk.val (h.gi t)
 refine ⟨fun u=> ?_,h.bE,h.cG,h.own,fun u i hi=> ?_,h.gR,h.fc,h.ng,h.lT⟩
 · by_cases e:u=t
   · subst e
     show RV P S w _ μ env.bx (ah env.tm u (.d .bool x) u) _
     rw [aL,hv]
     exact jG ..
   · show RV P S w _ μ env.bx (ah env.tm t (.d .bool x) u) _
     rw [aY _ _ e]
     exact h.gi u
 · have hi':i ∈ av S (ah env.tm t (.d .bool x) u):=hi
   by_cases e:u=t
   · subst e
     rw [aL] at hi'
     simp [av,aj] at hi'
   · rw [aY _ _ e] at hi'
     exact h.ref u i hi'
theorem HE {a:Act} {t:Nat} {x:Bool} (h:a.tmps.getD t Go.undef= .bool x):a.tmps[t]? =some (.bool x):=by
 rw [Array.getD_eq_getD_getElem?] at h
 cases e:a.tmps[t]? with
 | none=>rw [e] at h; cases h
 | some v=>rw [e] at h; exact congrArg some h
theorem zY {ops:Array Oper} {o:Oper} {b:Bool} (h:Inv P S w0 M0 s0 dq env a w μ) (hw:jx S ops o env.tm=some b):Region.wanted o (yielded ops a.tmps)=b:=by
 unfold jx at hw
 unfold Region.wanted
 split at hw
 · rename_i hg
   rw [hg]
   exact Option.some.inj hw
 · rename_i j want hg
   rw [hg]
   dsimp only
   split at hw
   · cases hw
   · rename_i t ht
     unfold yielded
     rw [ht]
     simp only [Option.bind_some]
     split at hw
     · rename_i x hx
       have hv:=h.gi t
       rw [hx] at hv
       rw [HE (lJ hv)]
       cases hw
       cases x <;> cases want <;> rfl
     · rename_i hx
       have hv:=h.gi t
       rw [hx] at hv
       have hv:a.tmps.getD t Go.undef=Go.undef:=hv
       cases hw
       rw [Array.getD_eq_getD_getElem?] at hv
       cases e:a.tmps[t]? with
       | none=>rfl
       | some v=>
        rw [e] at hv
        have hv:v=Go.undef:=hv
        rw [hv]
        rfl
     · cases hw
theorem K0 (a:Act) (dst:Option Nat) (v:Value):(a.put dst v).tmps.size=a.tmps.size:=by cases dst <;> simp [Act.put]
theorem Inv.skip (h:Inv P S w0 M0 s0 dq env a w μ) {dst:Option Nat} (hd: ∀ d,dst=some d→d<a.tmps.size):Inv P S w0 M0 s0 dq (env.apply dst .skip []) (a.put dst undef) w μ:=
 h.put hd (V:= .skip) (v:=undef) rfl (by simp [av,aj])
theorem E1 {o:Oper} {K:Act→World→Prop} {Q:Exit→Act→World→Prop} (h:o.wp P a w K Q):o.wp P a w (fun a' w'=>K a' w'∧ ∃ v d,a'=({ a with defers:=d } :Act).put o.dst v) Q:=by
 unfold Oper.wp at *
 generalize (execOp a.eval o).run P w=r at *
 cases r with
 | ok n w'=>
  cases n <;> simp only [Oper.upon] at h ⊢ <;>
   first
    | exact ⟨h,_,_,rfl⟩
    | exact Calls.mono h (fun e w'' he=>by cases e <;> first | exact ⟨he,_,a.defers,rfl⟩ | exact he)
    | exact Rows.mono h (fun _ _ he=>⟨he,_,a.defers,rfl⟩)
 | halt x w'=>cases x <;> simp only [Oper.upon] at h ⊢ <;> exact h
theorem Db (hP:aO P S af) (hT: ∀ e ∈ T.es,kB P S w0 M0 e) (hF: ∀ e ∈ T.fs,eK P S e) (h:Inv P S w0 M0 s0 dq env a w μ) {o:Oper} (hd: ∀ d,o.dst=some d→d<a.tmps.size) {B:Nat} {V:Sy.V S.C} {us:aG S.C} {K:Act→World→Prop} {Q:Exit→Act→World→Prop}
 (hl:(cj S T af B o.op o.type env.tm (restrict S env.bx (aB S T.vw B o.op env.tm env.bx).1)).leaf (V,us)) (tn:jb S env.bx B (aB S T.vw B o.op env.tm env.bx).2 us=true)
 (hK: ∀ a' w' μ',Inv P S w0 M0 s0 dq (env.apply o.dst V us) a' w' μ'→(∃ v d,a'=({ a with defers:=d } :Act).put o.dst v)→K a' w'):o.wp P a w K Q:=
 Oper.wp_mono (fun a' w' ⟨⟨μ',hI⟩,hv⟩=>hK a' w' μ' hI hv) (E1 (KF hP hT hF h hd hl tn (K:=fun a' w'=> ∃ μ',Inv P S w0 M0 s0 dq (env.apply o.dst V us) a' w' μ') fun a' w' μ' hI _=>⟨μ',hI⟩))
structure rY (ops:Array Oper) (Z:Act→Prop):Prop where
 dst: ∀ a,Z a→ ∀ o ∈ ops.toList, ∀ d,o.dst=some d→d<a.tmps.size
 put: ∀ a,Z a→ ∀ o ∈ ops.toList, ∀ v d,Z (({ a with defers:=d } :Act).put o.dst v)
theorem FN {R:Type} {a b:Option R} {r:R} (h:agree a b=some r):a=some r∧b=some r:=by
 unfold agree at h
 split at h
 · rename_i e; exact ⟨h,e▸h⟩
 · cases h
theorem Mn (d:Nat) {t te:TypeId} (hu:P.underlying t=some (.slice te)) (a:Option Addr) (n c:Nat) (w:World):(Op.equalIn (d+1) t (.slice a n c) (.slice none 0 0)).run P w= .ok a.isNone w:=by
 unfold Op.equalIn
 cases a <;> simp [run_underlying hu]
theorem DW {t te:TypeId} (hu:P.underlying t=some (.slice te)) (a:Option Addr) (n c:Nat) (w:World):(Op.equal t (.slice a n c) (.slice none 0 0)).run P w= .ok a.isNone w:=Mn 9999 hu a n c w
theorem Ku (hP:aO P S af) (h:Inv P S w0 M0 s0 dq env a w μ) {o:Oper} (hd: ∀ d,o.dst=some d→d<a.tmps.size) {m:Nat} {v:Bool} (hn:qB S o.op env.tm=some (m,v)) {Q:Exit→Act→World→Prop} :
 ∃ x:Bool,(x=v∨m=0)∧ ∀ K:Act→World→Prop,(∀ a' w' μ',Inv P S w0 M0 s0 dq (env.apply o.dst (.d .bool x) []) a' w' μ'→(∃ v d,a'=({ a with defers:=d } :Act).put o.dst v)→K a' w')→o.wp P a w K Q:=by
 unfold qB at hn
 split at hn
 · rename_i op t x ty ho
   split at hn
   · rename_i e het
     obtain ⟨te,_,_,hu,_⟩:=hP.sl (jI het)
     split at hn
     · rename_i e' l hx
       obtain ⟨hv,_⟩:=bg h hx
       obtain ⟨ad,cap,e1,e2,e3⟩:=h_ hv
       have go: ∀ (y:Bool),(binOp op t (.slice ad l.length cap) (.slice none 0 0)).run P w= .ok (.bool y) w→ ∀ K:Act→World→Prop,(∀ a' w' μ',Inv P S w0 M0 s0 dq (env.apply o.dst (.d .bool y) []) a' w' μ'→(∃ v d,a'=({ a with defers:=d } :Act).put o.dst v)→K a' w')→o.wp P a w K Q:=by
        intro y hrun K hK
        refine Oper.wp_mono (fun a' w' ⟨⟨μ',hI⟩,hv⟩=>hK a' w' μ' hI hv) (E1 (wp_pure (K:=fun a' w'=> ∃ μ',Inv P S w0 M0 s0 dq (env.apply o.dst (.d .bool y) []) a' w' μ') (V:= .d .bool y) (v:= .bool y) h ?_ hd (jG ..) (by simp [av,aj]) fun a' w' μ' hI _=>⟨μ',hI⟩))
        unfold execOp
        simp only [ho,e1]
        have hg:(eqGuard op t x (.const (.slice none 0 0)) (.slice ad l.length cap) (.slice none 0 0)).run P w= .ok () w:=wO rfl w
        have hev:a.eval (.const (.slice none 0 0))= .slice none 0 0:=rfl
        simp [hg,hrun,hev]
       have hlen:ad=none→List.length l=0:=by
        intro h0
        rcases e3 with e3 | ⟨b,o',n',e3,_⟩
        · exact e3
        · rw [h0] at e3; cases e3
       split at hn <;> cases hn
       · refine ⟨ad.isNone, ?_,go _ (by simp [binOp,DW hu])⟩
         cases ad with
         | none=>exact .inr (hlen rfl)
         | some _=>exact .inl rfl
       · refine ⟨!ad.isNone, ?_,go _ (by simp [binOp,DW hu])⟩
         cases ad with
         | none=>exact .inr (hlen rfl)
         | some _=>exact .inl rfl
     · cases hn
   · cases hn
 · cases hn
def rX (T:eM S) (dq:List Deferred) (Z:Act→Prop):Prop:=
 ∀ f ops,T.dc=some (f,ops)→ ∀ a,Z a→dq= [⟨.fn (.func f) #[],(ops.map a.eval).toArray⟩]
theorem MF (h:Inv P S w0 M0 s0 dq env a w μ) {x y:Operand} (hs:zz S env.tm x y=true):a.eval x=a.eval y:=by
 unfold zz at hs
 split at hs
 · rw [Bool.and_eq_true,decide_eq_true_eq,decide_eq_true_eq] at hs
   rw [hs.1,hs.2]
 · rename_i t u
   split at hs
   · rename_i b o b' o' h1 h2
     rw [Bool.and_eq_true] at hs
     have e1:=Nat.eq_of_beq_eq_true hs.1
     have e2:=Nat.eq_of_beq_eq_true hs.2
     have r1:=h.gi t
     have r2:=h.gi u
     rw [h1] at r1
     rw [h2] at r2
     have r1:a.tmps.getD t undef=_:=r1
     have r2:a.tmps.getD u undef=_:=r2
     show a.tmps.getD t undef=a.tmps.getD u undef
     rw [r1,r2,e1,e2]
   · cases hs
 · cases hs
theorem D2 (h:Inv P S w0 M0 s0 dq env a w μ): ∀ {xs ys:List Operand},u9 S env.tm xs ys=true→xs.map a.eval=ys.map a.eval
 | [],[],_=>rfl
 | x::xs,y::ys,hs=>by
  simp only [u9,Bool.and_eq_true] at hs
  rw [List.map_cons,List.map_cons,MF h hs.1,D2 h hs.2]
 | [],_::_,h=>by cases h
 | _::_,[],h=>by cases h
theorem GV (h:Inv P S w0 M0 s0 dq env a w μ) {Z:Act→Prop} (hD:rX T dq Z) (hN:Z a) {o:Oper} (hd: ∀ d,o.dst=some d→d<a.tmps.size) (hi:tu o.op=true) (hdf:env.df=false) (hk:sK S env.tm T.dc o.op=true)
 {K:Act→World→Prop} {Q:Exit→Act→World→Prop} (hK: ∀ ds,Inv P S w0 M0 s0 dq { env.apply o.dst .skip [] with df:=true } (({ a with defers:=ds } :Act).put o.dst undef) w μ→K (({ a with defers:=ds } :Act).put o.dst undef) w):o.wp P a w K Q:=by
 cases ho:o.op <;> rw [ho] at hi <;> try (cases hi; done)
 rename_i c
 rw [ho] at hk
 obtain ⟨callee,args,tys⟩:=c
 cases callee with
 | builtin b=>cases hk
 | invoke r n=>cases hk
 | value fo=>
  cases fo with
  | func f=>
   unfold sK at hk
   cases hdc:T.dc with
   | none=>rw [hdc] at hk; cases hk
   | some p=>
    obtain ⟨g,ops⟩:=p
    rw [hdc] at hk
    dsimp only at hk
    rw [Bool.and_eq_true] at hk
    have hfg:=Nat.eq_of_beq_eq_true hk.1
    subst hfg
    have hq:=hD f ops hdc a hN
    have hargs:(ops.map a.eval).toArray=args.map a.eval:=by
     rw [← D2 h hk.2]
     apply Array.ext'
     simp
    have h0:a.defers= []:=by rw [h.ng,hdf]; rfl
    unfold Oper.wp
    have hrun:(execOp a.eval o).run P w= .ok (.defer ⟨.fn (.func f) #[],args.map a.eval⟩) w:=by
     unfold execOp
     simp only [ho]
     simp [resolve,Deferred.ofValue,Act.eval]
    rw [hrun]
    show K _ _
    refine hK _ ?_
    have hs:=h.skip hd
    refine ⟨?_,hs.bE,hs.cG,hs.own,hs.ref,hs.gR,hs.fc, ?_,hs.lT⟩
    · intro t
      have :=hs.gi t
      cases Cg:o.dst <;> rw [Cg] at this <;> exact this
    · rw [hargs] at hq
      cases Cg:o.dst <;> (show (_::a.defers)=dq; rw [h0,hq])
  | _=>cases hk
theorem mo (hP:aO P S af) (hT: ∀ e ∈ T.es,kB P S w0 M0 e) (hF: ∀ e ∈ T.fs,eK P S e) {R:Type} {cm:Nat} {ops:Array Oper} {c_:Array Nat} {draw:Bool} {k:Env S.C→Option R} {r:R} {Z:Act→Prop} {Q:Exit→Act→World→Prop}
 (hZ:rY ops Z) (hD:rX T dq Z) (hQ: ∀ env' a' w' μ',k env'=some r→Inv P S w0 M0 s0 dq env' a' w' μ'→Z a'→Q .normal a' w'):
 ∀ (l:List Oper) (n:Nat) (cx:List (Nat×Option (List Nat×List Nat))) (env:Env S.C) (a:Act) (w:World) (μ:Nat→Loc),l=ops.toList.drop n→gf S T af cm ops draw c_ k l n cx env=some r→
 Inv P S w0 M0 s0 dq env a w μ→Z a→wpOps P ops Q (List.range' n l.length) a w
 | [],n,cx,env,a,w,μ,hl,hr,h,hN=>by
  simp only [gf] at hr
  cases hc:(!draw||(jF ops c_ cx&&rN ops)) with
  | false=>rw [hc] at hr; cases hr
  | true=>rw [hc] at hr; exact hQ env a w μ hr h hN
 | o::l,n,cx,env,a,w,μ,hl,hr,h,hN=>by
  have fD:ops[n]? =some o:=by
   have :=congrArg (·[0]?) hl
   simp at this
   simpa using this.symm
  have hmem:o ∈ ops.toList:=by
   have :o ∈ ops.toList.drop n:=by rw [← hl]; simp
   exact List.mem_of_mem_drop this
  have hd: ∀ d,o.dst=some d→d<a.tmps.size:=hZ.dst a hN o hmem
  have hl':l=ops.toList.drop (n+1):=by
   rw [← List.drop_drop, ← hl]; rfl
  rw [List.length_cons,List.range'_succ,wpOps_cons]
  unfold wpOp
  rw [fD]
  dsimp only
  simp only [gf] at hr
  cases hw:jx S ops o env.tm with
  | none=>rw [hw] at hr; cases hr
  | some b=>
   rw [hw] at hr
   rw [zY h hw]
   cases b with
   | false=>
    rw [if_neg (by simp)]
    exact mo hP hT hF hZ hD hQ l (n+1) _ _ _ w μ hl' hr (h.skip hd) (hZ.put a hN o hmem undef a.defers)
   | true=>
    rw [if_pos rfl]
    left
    dsimp only at hr
    cases hdf:tu o.op with
    | true=>
     rw [hdf] at hr
     dsimp only at hr
     cases hc:(draw||env.df|| !sK S env.tm T.dc o.op) with
     | true=>rw [hc] at hr; cases hr
     | false=>
      rw [hc,cond_false] at hr
      simp only [Bool.or_eq_false_iff,Bool.not_eq_false'] at hc
      exact GV h hD hN hd hdf hc.1.2 hc.2 fun ds hI=>mo hP hT hF hZ hD hQ l (n+1) _ _ _ w μ hl' hr hI (hZ.put a hN o hmem undef ds)
    | false=>
    rw [hdf] at hr
    dsimp only at hr
    cases hn:qB S o.op env.tm with
    | some p=>
     obtain ⟨m,v⟩:=p
     rw [hn] at hr
     cases jM:draw with
     | true=>rw [jM] at hr; cases hr
     | false=>
     rw [jM] at hr
     simp only [cond_false] at hr
     obtain ⟨x,Jj,IA⟩:=Ku (Q:=Q) hP h hd hn
     have Ii:splitK S (qn ops n) o.dst (env.apply o.dst (.d .bool x) []) (fun e=>gf S T af cm ops false c_ k l (n+1) ((n,some ([],[]))::cx) e)=some r:=by
      by_cases hm:m=0
      · rw [if_pos hm] at hr
        obtain ⟨r1,r2⟩:=FN hr
        cases x <;> cases v <;> first | exact r1 | exact r2
      · rw [if_neg hm] at hr
        rcases Jj with rfl | h0
        · exact hr
        · exact absurd h0 hm
     refine IA _ fun a' w' μ' hI ⟨v,d,hs⟩=> ?_
     rcases zI Ii with ⟨_,h4⟩ | ⟨t,y,_,_,hk,h4⟩
     · exact mo hP hT hF hZ hD hQ l (n+1) _ _ a' w' μ' hl' h4 hI (hs▸hZ.put a hN o hmem v d)
     · exact mo hP hT hF hZ hD hQ l (n+1) _ _ a' w' μ' hl' h4 (hI.zm hk) (hs▸hZ.put a hN o hmem v d)
    | none=>
    rw [hn] at hr
    obtain ⟨V,us,h1,h2,h3⟩:=Ee hr
    refine Db hP hT hF h hd h1 h2 fun a' w' μ' hI ⟨v,d,hs⟩=> ?_
    rcases zI h3 with ⟨_,h4⟩ | ⟨t,x,_,_,hk,h4⟩
    · exact mo hP hT hF hZ hD hQ l (n+1) _ _ a' w' μ' hl' h4 hI (hs▸hZ.put a hN o hmem v d)
    · exact mo hP hT hF hZ hD hQ l (n+1) _ _ a' w' μ' hl' h4 (hI.zm hk) (hs▸hZ.put a hN o hmem v d)
end
end Go.Sy
namespace Go.Sy
theorem F1 (ops:List Oper): ∀ (acc:Array Nat), ∃ b:Array Nat,(ops.foldl (init:=acc) fun acc o=>acc.push (o.after.foldl (fun s e=>if Region.binds .any e then s ||| 2 ^ e.on ||| acc.getD e.on 0 else s) 0))=b∧
 (∀ j,j<acc.size→b.getD j 0=acc.getD j 0)∧b.size=acc.size+ops.length∧
 ∀ j o,ops[j]? =some o→ ∀ i,(b.getD (acc.size+j) 0).testBit i=true→ ∃ e ∈ o.after.toList,Region.binds .any e=true∧(e.on=i∨(e.on<acc.size+j∧(b.getD e.on 0).testBit i=true)):=by
 induction ops with
 | nil=>intro acc; exact ⟨acc,rfl,fun _ _=>rfl,rfl,fun j o h=>by simp at h⟩
 | cons o ops ih=>
  intro acc
  obtain ⟨b,h1,h2,h3,h4⟩:=ih (acc.push (o.after.foldl (fun s e=>if Region.binds .any e then s ||| 2 ^ e.on ||| acc.getD e.on 0 else s) 0))
  refine ⟨b,h1,fun j hj=> ?_,by rw [h3]; simp; omega,fun j o' hj i hi=> ?_⟩
  · rw [h2 j (by simp; omega)]
    simp only [Array.getD_eq_getD_getElem?]
    rw [Array.getElem?_push_lt hj]
    simp [hj]
  · cases j with
    | zero=>
     simp at hj
     subst hj
     rw [Nat.add_zero] at hi ⊢
     rw [h2 acc.size (by simp)] at hi
     simp only [Array.getD_eq_getD_getElem?,Array.getElem?_push_size,Option.getD_some] at hi
     rw [← Array.foldl_toList] at hi
     have : ∀ (l:List Edge) (s:Nat),(l.foldl (fun s e=>if Region.binds .any e then s ||| 2 ^ e.on ||| (acc[e.on]?.getD 0) else s) s).testBit i=true→s.testBit i=true∨ ∃ e ∈ l,Region.binds .any e=true∧(e.on=i∨(acc[e.on]?.getD 0).testBit i=true):=by
      intro l
      induction l with
      | nil=>intro s h; exact .inl h
      | cons e l ih2=>
       intro s h
       rcases ih2 _ h with h | ⟨e',he',h⟩
       · dsimp only at h
         by_cases hb:Region.binds .any e=true
         · rw [if_pos hb,Nat.testBit_or,Nat.testBit_or,Bool.or_eq_true,Bool.or_eq_true,Nat.testBit_two_pow] at h
           rcases h with (h | h) | h
           · exact .inl h
           · exact .inr ⟨e,by simp,hb, .inl (by simpa using h)⟩
           · exact .inr ⟨e,by simp,hb, .inr h⟩
         · rw [if_neg hb] at h; exact .inl h
       · exact .inr ⟨e',by simp [he'],h⟩
     rcases this _ _ hi with h | ⟨e,he,hb,h⟩
     · simp at h
     · refine ⟨e,he,hb,h.imp id fun h=> ?_⟩
       have hlt:e.on<acc.size:=by
        rcases Nat.lt_or_ge e.on acc.size with hlt | hge
        · exact hlt
        · rw [Array.getElem?_eq_none hge] at h; simp at h
       refine ⟨hlt, ?_⟩
       rw [h2 e.on (by simp; omega)]
       simp only [Array.getD_eq_getD_getElem?]
       rw [Array.getElem?_push_lt hlt]
       simpa [hlt] using h
    | succ j=>
     have hs:(acc.push (o.after.foldl (fun s e=>if Region.binds .any e then s ||| 2 ^ e.on ||| acc.getD e.on 0 else s) 0)).size+j=acc.size+(j+1):=by simp; omega
     have :=h4 j o' (by simpa using hj) i (by rw [hs]; exact hi)
     rw [hs] at this
     exact this
theorem Ax {ops:Array Oper} {j:Nat} {o:Oper} (hj:ops[j]? =some o) {i:Nat} (hi:((Region.before ops).getD j 0).testBit i=true):
 ∃ e ∈ o.after.toList,Region.binds .any e=true∧(e.on=i∨(e.on<j∧((Region.before ops).getD e.on 0).testBit i=true)):=by
 obtain ⟨b,h1,h2,h3,h4⟩:=F1 ops.toList #[]
 have hb:Region.before ops=b:=by
  rw [← h1]
  unfold Region.before
  rw [← Array.foldl_toList]
 rw [hb] at hi ⊢
 have :=h4 j o (by simpa using hj) i (by simpa using hi)
 simpa using this
def oK (ops:Array Oper) (D:Nat→Bool):Prop:= ∀ j o,D j=true→ops[j]? =some o→ ∀ e ∈ o.after.toList,Region.binds .any e=true→D e.on=true
theorem oK.before {ops:Array Oper} {D:Nat→Bool} (h:oK ops D) (hn: ∀ j,D j=true→j<ops.size): ∀ (j i:Nat),D j=true→((Region.before ops).getD j 0).testBit i=true→D i=true:=by
 intro j
 induction j using Nat.strongRecOn with
 | _ j ih=>
  intro i hj hi
  have hlt:=hn j hj
  obtain ⟨e,he,hb,h1⟩:=Ax (ops:=ops) (j:=j) (o:=ops[j]) (by simp [hlt]) hi
  have :=h j ops[j] hj (by simp [hlt]) e he hb
  rcases h1 with rfl | ⟨h1,h2⟩
  · exact this
  · exact ih e.on h1 i this h2
theorem L8 {ops:Array Oper} {D:Nat→Bool} (h:oK ops D) (hn: ∀ j,D j=true→j<ops.size) {j:Nat} {o:Oper} (hj:ops[j]? =some o) (hr: ∀ e ∈ o.after.toList,Region.binds .any e=true→D e.on=true) {i:Nat}
 (hi:((Region.before ops).getD j 0).testBit i=true):D i=true:=by
 obtain ⟨e,he,hb,h1⟩:=Ax hj hi
 rcases h1 with rfl | ⟨h1,h2⟩
 · exact hr e he hb
 · exact h.before hn e.on i (hr e he hb) h2
def cnt (D:Nat→Bool):Nat→Nat
 | 0=>0
 | n+1=>cnt D n+cond (D n) 0 1
theorem A9 {D:Nat→Bool} {i:Nat} : ∀ {n:Nat},n≤i→cnt (ah D i true) n=cnt D n
 | 0,_=>rfl
 | n+1,h=>by
  simp only [cnt]
  rw [A9 (by omega),aY _ _ (by omega)]
theorem A_ {D:Nat→Bool} {i:Nat} (hi:D i=false): ∀ {n:Nat},i<n→cnt (ah D i true) n+1=cnt D n
 | 0,h=>by omega
 | n+1,h=>by
  simp only [cnt]
  by_cases e:i=n
  · subst e
    rw [A9 (Nat.le_refl _),aL,hi]
    rfl
  · rw [aY _ _ (Ne.symm e)]
    have :=A_ hi (n:=n) (by omega)
    omega
theorem Ba {D:Nat→Bool} : ∀ {n:Nat},cnt D n=0→ ∀ i,i<n→D i=true
 | 0,_,i,h=>by omega
 | n+1,hc,i,h=>by
  simp only [cnt] at hc
  by_cases e:i=n
  · subst e
    cases hd:D i with
    | true=>rfl
    | false=>rw [hd] at hc; simp at hc
  · exact Ba (D:=D) (n:=n) (by omega) i (by omega)
end Go.Sy
namespace Go.Sy
section
variable {P:Program} {S:aN} {af:Nat→Nat} {T:eM S}
theorem mapM_congr {α β:Type} {f g:α→Option β} : ∀ {l:List α},(∀ x ∈ l,f x=g x)→l.mapM f=l.mapM g
 | [],_=>rfl
 | x::l,h=>by
  rw [List.mapM_cons,List.mapM_cons,h x (by simp),mapM_congr fun y hy=>h y (by simp [hy])]
theorem KD {B:Nat} {o:Op} {ty:Nat} {tm iO:Nat→V S.C} {bx:Bx S.C} (h: ∀ x ∈ o.operands.toList,aK S tm x=aK S iO x):cj S T af B o ty tm bx=cj S T af B o ty iO bx:=by
 have h1: ∀ x,o.operands.toList= [x]→aK S tm x=aK S iO x:=fun x e=>h x (by rw [e]; simp)
 cases o with
 | move x=>simp only [cj,h1 x (by simp [Op.operands])]
 | assign x=>simp only [cj,h1 x (by simp [Op.operands])]
 | pick c x y=>simp only [cj,h c (by simp [Op.operands]),h x (by simp [Op.operands]),h y (by simp [Op.operands])]
 | alloc t=>rfl
 | box t x=>simp only [cj,h1 x (by simp [Op.operands])]
 | build t ps=>
  simp only [cj]
  rw [mapM_congr (l:=ps.toList) fun p hp=>by rw [h p.2 (by simp only [Op.operands]; exact List.mem_map.2 ⟨p,hp,rfl⟩)]]
 | buildSlice t len ps=>
  simp only [cj]
  rw [mapM_congr (l:=ps.toList) fun p hp=>by rw [h p.2 (by simp only [Op.operands]; exact List.mem_map.2 ⟨p,hp,rfl⟩)]]
 | load t x=>simp only [cj,h1 x (by simp [Op.operands])]
 | store t x y=>simp only [cj,h x (by simp [Op.operands]),h y (by simp [Op.operands])]
 | nilCheck x=>simp only [cj,h1 x (by simp [Op.operands])]
 | binOp op t x y t'=>
  have hx:=h x (by simp [Op.operands])
  have hy:=h y (by simp [Op.operands])
  by_cases e:y= .const .nilIface
  · subst e
    simp only [cj,hx]
  · rw [yF e,yF e,hx,hy]
 | unOp op t x=>simp only [cj,h1 x (by simp [Op.operands])]
 | convert s t x=>simp only [cj,h1 x (by simp [Op.operands])]
 | makeFunc fn first cs=>
  cases fn with
  | func f=>
   obtain ⟨l⟩:=first
   cases l with
   | nil=>
    simp only [cj]
    rw [mapM_congr (l:=cs.toList) fun x hx=>h x (by simpa [Op.operands] using hx)]
   | cons x r=>rfl
  | _=>rfl
 | makeSlice t x y=>simp only [cj,h x (by simp [Op.operands]),h y (by simp [Op.operands])]
 | slice t x lo hi m=>
  cases m with
  | some m=>
   cases lo with
   | none=>rfl
   | some lo=>
    cases hi with
    | none=>rfl
    | some hi=>simp only [cj,h x (by simp [Op.operands]),h lo (by simp [Op.operands]),h hi (by simp [Op.operands]),h m (by simp [Op.operands])]
  | none=>
   have e1:f_ S tm lo=f_ S iO lo:=by
    cases lo with
    | none=>rfl
    | some y=>simp only [f_]; rw [h y (by simp [Op.operands])]
   have e2:f_ S tm hi=f_ S iO hi:=by
    cases hi with
    | none=>rfl
    | some y=>simp only [f_]; rw [h y (by simp [Op.operands])]
   simp only [cj,h x (by simp [Op.operands]),e1,e2]
 | fieldAddr t x f=>simp only [cj,h1 x (by simp [Op.operands])]
 | field t x f=>simp only [cj,h1 x (by simp [Op.operands])]
 | indexAddr t x i=>simp only [cj,h x (by simp [Op.operands]),h i (by simp [Op.operands])]
 | index t x i=>simp only [cj,h x (by simp [Op.operands]),h i (by simp [Op.operands])]
 | extract x i=>simp only [cj,h1 x (by simp [Op.operands])]
 | call c=>
  obtain ⟨callee,o6,Bc⟩:=c
  have ha:o6.toList.mapM (aK S tm)=o6.toList.mapM (aK S iO):=mapM_congr fun x hx=>h x (by simp only [Op.operands,Call.operands]; simp; right; simpa using hx)
  unfold cj
  dsimp only
  rw [ha]
  cases callee with
  | builtin b=>cases b <;> rfl
  | value f=>
   dsimp only
   rw [h f (by simp [Op.operands,Call.operands])]
  | invoke r n=>rfl
 | _=>rfl
theorem wY {α β:Type} {f g:α→List β} : ∀ {l:List α},(∀ x ∈ l,f x=g x)→l.flatMap f=l.flatMap g
 | [],_=>rfl
 | x::l,h=>by rw [List.flatMap_cons,List.flatMap_cons,h x (by simp),wY fun y hy=>h y (by simp [hy])]
theorem GU {bx aa:Bx S.C} {ids:List Nat} (h: ∀ i ∈ ids,aa i=bx i):deep S aa ids=deep S bx ids:=by
 unfold deep
 congr 1
 exact wY fun i hi=>by rw [h i hi]
theorem Hy {B:Nat} {o:Op} {tm iO:Nat→V S.C} {bx aa:Bx S.C} (h: ∀ x ∈ o.operands.toList,aK S iO x=aK S tm x) (hb: ∀ i ∈ (aB S T.vw B o tm bx).1,aa i=bx i):aB S T.vw B o iO aa=aB S T.vw B o tm bx:=by
 have hi:o.operands.toList.flatMap (nO S iO)=o.operands.toList.flatMap (nO S tm):=
  wY fun x hx=>by unfold nO; rw [h x hx]
 have h1: ∀ x,o.operands.toList= [x]→aK S iO x=aK S tm x:=fun x e=>h x (by rw [e]; simp)
 cases o with
 | move x=>simp only [aB,h1 x (by simp [Op.operands])]
 | assign x=>simp only [aB,h1 x (by simp [Op.operands])]
 | call c=>
  obtain ⟨callee,o6,Bc⟩:=c
  cases callee with
  | builtin b=>
   cases b with
   | len=>simp only [aB]; rw [hi]
   | _=>simp only [aB]; rw [hi]
  | value f=>
   simp only [aB]
   rw [hi,GU fun i hm=>hb i (by simp only [aB]; exact List.mem_append.2 (.inl (List.mem_append.2 (.inl hm))))]
  | invoke r n=>simp only [aB]; rw [hi]
 | _=>simp only [aB] <;> rw [hi]
structure cM (S:aN) where
 dst:Option Nat
 W:V S.C
 us:aG S.C
 fp:Option (List Nat×List Nat)
def cM.put (e:cM S) (env:Env S.C):Env S.C:=env.apply e.dst e.W e.us
def bA (D:Nat→Bool):List (cM S)→Nat→Env S.C→Env S.C
 | [],_,env=>env
 | e::es,n,env=>bA D es (n+1) (cond (D n) (e.put env) env)
def Spec (T:eM S) (af:Nat→Nat) (cm:Nat) (ops:Array Oper) (env:Env S.C) (n:Nat) (o:Oper) (e:cM S):Prop:=
 e.dst=o.dst∧((jx S ops o env.tm=some false∧e.W= .skip∧e.us= []∧e.fp=none)∨
  (jx S ops o env.tm=some true∧e.fp=some (aB S T.vw (ia cm n o.dst) o.op env.tm env.bx)∧jb S env.bx (ia cm n o.dst) (aB S T.vw (ia cm n o.dst) o.op env.tm env.bx).2 e.us=true∧
   ∃ V,(cj S T af (ia cm n o.dst) o.op o.type env.tm (restrict S env.bx (aB S T.vw (ia cm n o.dst) o.op env.tm env.bx).1)).leaf (V,e.us)∧
    (e.W=V∨ ∃ t x,o.dst=some t∧lH V x∧e.W= .d .bool x)))
def mR (T:eM S) (af:Nat→Nat) (cm:Nat) (ops:Array Oper):List Oper→Nat→Env S.C→List (cM S)→Prop
 | [],_,_,es=>es= []
 | o::l,n,env,es=> ∃ e r,es=e::r∧Spec T af cm ops env n o e∧mR T af cm ops l (n+1) (e.put env) r
def pM:List (cM S)→Nat→List (Nat×Option (List Nat×List Nat))→List (Nat×Option (List Nat×List Nat))
 | [],_,cx=>cx
 | e::es,n,cx=>pM es (n+1) ((n,e.fp)::cx)
theorem G6 (es:List (cM S)) (n:Nat) (env:Env S.C): ∀ {D:Nat→Bool},(∀ i,n≤i→i<n+es.length→D i=true)→bA D es n env=es.foldl (fun env e=>e.put env) env:=by
 induction es generalizing n env with
 | nil=>intro D _; rfl
 | cons e es ih=>
  intro D h
  simp only [bA,List.foldl_cons]
  rw [h n (Nat.le_refl _) (by simp),cond_true]
  exact ih (n+1) _ fun i h1 h2=>h i (by omega) (by simp; omega)
theorem Bq (es:List (cM S)) (n:Nat) (env:Env S.C) {D:Nat→Bool} (h: ∀ i,n≤i→D i=false):bA D es n env=env:=by
 induction es generalizing n env with
 | nil=>rfl
 | cons e es ih=>
  simp only [bA]
  rw [h n (Nat.le_refl _),cond_false]
  exact ih (n+1) _ fun i hi=>h i (by omega)
theorem EV {α:Type} (f:Nat→α) (k:Nat) (v u:α):ah (ah f k v) k u=ah f k u:=by
 funext i
 by_cases e:i=k
 · subst e; rw [aL,aL]
 · rw [aY _ _ e,aY _ _ e,aY _ _ e]
theorem uo {R:Type} {cm:Nat} {ops:Array Oper} {c_:Array Nat} {draw:Bool} {k:Env S.C→Option R} {r:R} :
 ∀ (l:List Oper) (n:Nat) (cx:List (Nat×Option (List Nat×List Nat))) (env:Env S.C),gf S T af cm ops draw c_ k l n cx env=some r→
 draw=true→ ∃ es,mR T af cm ops l n env es∧k (es.foldl (fun env e=>e.put env) env)=some r∧(draw=true→jF ops c_ (pM es n cx)=true∧rN ops=true)
 | [],n,cx,env,hr,jM=>by
  simp only [gf] at hr
  cases hc:(!draw||(jF ops c_ cx&&rN ops)) with
  | false=>rw [hc] at hr; cases hr
  | true=>
   rw [hc] at hr
   refine ⟨[],rfl,hr,fun hd=> ?_⟩
   rw [hd] at hc
   simpa [pM] using hc
 | o::l,n,cx,env,hr,jM=>by
  simp only [gf] at hr
  cases hw:jx S ops o env.tm with
  | none=>rw [hw] at hr; cases hr
  | some b=>
   rw [hw] at hr
   cases b with
   | false=>
    obtain ⟨es,h1,h2,h3⟩:=uo l (n+1) _ _ hr jM
    exact ⟨⟨o.dst, .skip,[],none⟩::es,⟨_,_,rfl,⟨rfl, .inl ⟨hw,rfl,rfl,rfl⟩⟩,h1⟩,h2,h3⟩
   | true=>
    dsimp only at hr
    cases hdf:tu o.op with
    | true=>rw [hdf,jM] at hr; cases hr
    | false=>
    rw [hdf] at hr
    dsimp only at hr
    cases hn:qB S o.op env.tm with
    | some p=>rw [hn,jM] at hr; cases hr
    | none=>
    rw [hn] at hr
    obtain ⟨V,us,h1,h2,h3⟩:=Ee hr
    rcases zI h3 with ⟨_,h4⟩ | ⟨t,x,_,ht,hk,h4⟩
    · obtain ⟨es,g1,g2,g3⟩:=uo l (n+1) _ _ h4 jM
      exact ⟨⟨o.dst,V,us,_⟩::es,⟨_,_,rfl,⟨rfl, .inr ⟨hw,rfl,h2,V,h1, .inl rfl⟩⟩,g1⟩,g2,g3⟩
    · have IG:lH V x:=by
       have e:(env.apply o.dst V us).tm t=V:=by
        rw [ht]
        exact aL _ _ _
       rw [e] at hk
       exact hk
      have he:({ env.apply o.dst V us with tm:=ah (env.apply o.dst V us).tm t (.d .bool x) } :Env S.C)=cM.put ⟨o.dst, .d .bool x,us,some (aB S T.vw (ia cm n o.dst) o.op env.tm env.bx)⟩ env:=by
       simp only [cM.put,Env.apply,ht,om]
       rw [EV]
      rw [he] at h4
      obtain ⟨es,g1,g2,g3⟩:=uo l (n+1) _ _ h4 jM
      exact ⟨_::es,⟨_,_,rfl,⟨rfl, .inr ⟨hw,rfl,h2,V,h1, .inr ⟨t,x,ht,IG,rfl⟩⟩⟩,g1⟩,g2,g3⟩
theorem mR.at {cm:Nat} {ops:Array Oper} : ∀ {l:List Oper} {n:Nat} {env:Env S.C} {es:List (cM S)},mR T af cm ops l n env es→es.length=l.length∧ ∀ j o,l[j]? =some o→
 ∃ e,es[j]? =some e∧Spec T af cm ops (bA (fun i=>Nat.blt i (n+j)) es n env) (n+j) o e
 | [],n,env,es,h=>by cases h; exact ⟨rfl,fun j o hj=>by simp at hj⟩
 | o::l,n,env,es,⟨e,r,he,h1,h2⟩=>by
  subst he
  obtain ⟨h3,h4⟩:=mR.at h2
  refine ⟨by simp [h3],fun j o' hj=> ?_⟩
  cases j with
  | zero=>
   simp at hj
   subst hj
   refine ⟨e,rfl, ?_⟩
   rw [Bq _ _ _ fun i hi=> ?_]
   · exact h1
   · cases hb:Nat.blt i (n+0) with
     | false=>rfl
     | true=>have :=Nat.le_of_ble_eq_true hb; omega
  | succ j=>
   obtain ⟨e',h5,h6⟩:=h4 j o' (by simpa using hj)
   refine ⟨e',by simpa using h5, ?_⟩
   simp only [bA]
   rw [show Nat.blt n (n+(j+1))=true from Nat.ble_eq_true_of_le (by omega),cond_true,show n+(j+1)=n+1+j from by omega]
   exact h6
def vC (ops:Array Oper) (c_:Array Nat) (i j:Nat) (fi fj:Option (List Nat×List Nat)):Prop:=
 (c_.getD j 0).testBit i=true∨(Oper.apart ops (ops.getD i default) (ops.getD j default)=true∧ ∀ a b,fi=some a→fj=some b→meets a b=false)
theorem Ap {ops:Array Oper} {c_:Array Nat} : ∀ (es:List (cM S)) (n:Nat) (cx:List (Nat×Option (List Nat×List Nat))),jF ops c_ (pM es n cx)=true→
 (∀ i j ei ej,i<j→es[i]? =some ei→es[j]? =some ej→vC ops c_ (n+i) (n+j) ei.fp ej.fp)∧(∀ p ∈ cx, ∀ j ej,es[j]? =some ej→vC ops c_ p.1 (n+j) p.2 ej.fp)∧jF ops c_ cx=true
 | [],n,cx,h=>⟨fun i j ei ej _ h1=>by simp at h1,fun p _ j ej h1=>by simp at h1,h⟩
 | e::es,n,cx,h=>by
  obtain ⟨h1,h2,h3⟩:=Ap es (n+1) ((n,e.fp)::cx) h
  simp only [jF,Bool.and_eq_true] at h3
  have h4: ∀ p ∈ cx,vC ops c_ p.1 n p.2 e.fp:=fun p hp=>by
   have :=List.all_eq_true.1 h3.2 p hp
   rw [Bool.or_eq_true,Bool.and_eq_true] at this
   refine this.imp id fun h=>⟨h.1,fun a b ha hb=> ?_⟩
   have h2:=h.2
   rw [ha,hb] at h2
   simpa using h2
  refine ⟨fun i j ei ej hij hi hj=> ?_,fun p hp j ej hj=> ?_,h3.1⟩
  · cases j with
    | zero=>omega
    | succ j=>
     rw [show n+(j+1)=n+1+j from by omega]
     cases i with
     | zero=>
      simp at hi
      subst hi
      exact h2 (n,e.fp) (by simp) j ej (by simpa using hj)
     | succ i=>
      rw [show n+(i+1)=n+1+i from by omega]
      exact h1 i j ei ej (by omega) (by simpa using hi) (by simpa using hj)
  · cases j with
    | zero=>
     simp at hj
     subst hj
     exact h4 p hp
    | succ j=>
     rw [show n+(j+1)=n+1+j from by omega]
     exact h2 p (by simp [hp]) j ej (by simpa using hj)
theorem nR {e:cM S} {env:Env S.C} {t:Nat} (h:e.dst≠some t):(e.put env).tm t=env.tm t:=by
 unfold cM.put Env.apply om
 cases hd:e.dst with
 | none=>rfl
 | some d=>exact aY _ _ fun he=>h (by rw [hd,he])
theorem nS {e:cM S} {env:Env S.C} {t:Nat} (h:e.dst=some t):(e.put env).tm t=e.W:=by
 unfold cM.put Env.apply om
 rw [h]
 exact aL _ _ _
theorem qE {e:cM S} {env:Env S.C} {b:Nat} (h: ∀ u ∈ e.us,u.1≠b):(e.put env).bx b=env.bx b:=oC _ _ h
theorem Br {D D':Nat→Bool} {t:Nat} : ∀ {es:List (cM S)} {n:Nat} {env env':Env S.C},env.tm t=env'.tm t→(∀ i e,es[i]? =some e→e.dst=some t→D (n+i)=D' (n+i))→(bA D es n env).tm t=(bA D' es n env').tm t
 | [],_,_,_,h,_=>h
 | e::es,n,env,env',h,hd=>by
  refine Br (es:=es) (n:=n+1) ?_ fun i e' hi he=>by
   have :=hd (i+1) e' (by simpa using hi) he
   rw [show n+1+i=n+(i+1) from by omega]; exact this
  by_cases he:e.dst=some t
  · have :=hd 0 e rfl he
    rw [Nat.add_zero] at this
    rw [this]
    cases D' n with
    | true=>rw [cond_true,cond_true,nS he,nS he]
    | false=>exact h
  · cases D n <;> cases D' n <;> simp only [cond_true,cond_false,nR he] <;> exact h
theorem Bp {D D':Nat→Bool} {b:Nat} : ∀ {es:List (cM S)} {n:Nat} {env env':Env S.C},env.bx b=env'.bx b→(∀ i e,es[i]? =some e→(∃ u ∈ e.us,u.1=b)→D (n+i)=D' (n+i))→(bA D es n env).bx b=(bA D' es n env').bx b
 | [],_,_,_,h,_=>h
 | e::es,n,env,env',h,hd=>by
  refine Bp (es:=es) (n:=n+1) ?_ fun i e' hi he=>by
   have :=hd (i+1) e' (by simpa using hi) he
   rw [show n+1+i=n+(i+1) from by omega]; exact this
  by_cases he: ∃ u ∈ e.us,u.1=b
  · have :=hd 0 e rfl he
    rw [Nat.add_zero] at this
    rw [this]
    cases D' n with
    | true=>exact (lz e.us h.symm).symm
    | false=>exact h
  · have he: ∀ u ∈ e.us,u.1≠b:=fun u hu e'=>he ⟨u,hu,e'⟩
    cases D n <;> cases D' n <;> simp only [cond_true,cond_false,qE he] <;> exact h
theorem Env.ext' {e e':Env S.C} (h1: ∀ t,e.tm t=e'.tm t) (h2: ∀ b,e.bx b=e'.bx b) (h3:e.df=e'.df):e=e':=by
 cases e; cases e'
 congr
 · funext t; exact h1 t
 · funext b; exact h2 b
theorem G7 {D:Nat→Bool} {es:List (cM S)} {j:Nat} {ej:cM S} {env:Env S.C} (hj:es[j]? =some ej) (hD:D j=false)
 (p6: ∀ i e,j<i→es[i]? =some e→D i=true→(∀ t,ej.dst=some t→e.dst≠some t)∧ ∀ u ∈ ej.us, ∀ u' ∈ e.us,u'.1≠u.1):
 bA (ah D j true) es 0 env=ej.put (bA D es 0 env):=by
 have IK: ∀ (es:List (cM S)) (n:Nat) (env:Env S.C),(∀ i e,es[i]? =some e→D (n+i)=true→(∀ t,ej.dst=some t→e.dst≠some t)∧ ∀ u ∈ ej.us, ∀ u' ∈ e.us,u'.1≠u.1)→bA D es n (ej.put env)=ej.put (bA D es n env):=by
  intro es
  induction es with
  | nil=>intro n env _; rfl
  | cons e es ih=>
   intro n env h
   simp only [bA]
   rw [← ih (n+1) _ fun i e' hi hd=>by
    have :=h (i+1) e' (by simpa using hi)
    rw [show n+(i+1)=n+1+i from by omega] at this
    exact this hd]
   congr 1
   cases hn:D n with
   | false=>rfl
   | true=>
    simp only [cond_true]
    obtain ⟨c1,c2⟩:=h 0 e rfl (by rw [Nat.add_zero]; exact hn)
    refine Env.ext' (fun t=> ?_) (fun b=> ?_) rfl
    · by_cases h1:ej.dst=some t
      · rw [nR (c1 t h1),nS h1,nS h1]
      · rw [nR h1]
        by_cases h2:e.dst=some t
        · rw [nS h2,nS h2]
        · rw [nR h2,nR h2,nR h1]
    · by_cases h1: ∃ u ∈ ej.us,u.1=b
      · obtain ⟨u,hu,rfl⟩:=h1
        have h2: ∀ u' ∈ e.us,u'.1≠u.1:=c2 u hu
        rw [qE h2]
        exact lz ej.us (qE h2).symm
      · have h1: ∀ u ∈ ej.us,u.1≠b:=fun u hu e'=>h1 ⟨u,hu,e'⟩
        rw [qE h1]
        exact lz e.us (qE h1)
 have key: ∀ (es:List (cM S)) (n:Nat) (env:Env S.C),n≤j→es[j - n]? =some ej→(∀ i e,j<n+i→es[i]? =some e→D (n+i)=true→(∀ t,ej.dst=some t→e.dst≠some t)∧ ∀ u ∈ ej.us, ∀ u' ∈ e.us,u'.1≠u.1)→
  bA (ah D j true) es n env=ej.put (bA D es n env):=by
  intro es
  induction es with
  | nil=>intro n env _ h; simp at h
  | cons e es ih=>
   intro n env hn h hl
   simp only [bA]
   by_cases e':n=j
   · subst e'
     rw [Nat.sub_self] at h
     simp at h
     subst h
     rw [aL,hD,cond_true,cond_false]
     rw [← IK es (n+1) env fun i e hi hd=>hl (i+1) e (by omega) (by simpa using hi) (by rw [show n+(i+1)=n+1+i from by omega]; exact hd)]
     have : ∀ (es:List (cM S)) (m:Nat) (env:Env S.C),n<m→bA (ah D n true) es m env=bA D es m env:=by
      intro es
      induction es with
      | nil=>intro m env _; rfl
      | cons e es ih=>
       intro m env hm
       simp only [bA]
       rw [aY _ _ (by omega)]
       exact ih (m+1) _ (by omega)
     exact this es (n+1) _ (by omega)
   · rw [aY _ _ e']
     refine ih (n+1) _ (by omega) ?_ fun i e hi he hd=>hl (i+1) e (by omega) (by simpa using he) (by rw [show n+(i+1)=n+1+i from by omega]; exact hd)
     rw [show j - n=(j - (n+1))+1 from by omega] at h
     simpa using h
 exact key es 0 env (Nat.zero_le _) (by simpa using hj) fun i e hi he hd=>p6 i e (by omega) he (by simpa using hd)
end
end Go.Sy
