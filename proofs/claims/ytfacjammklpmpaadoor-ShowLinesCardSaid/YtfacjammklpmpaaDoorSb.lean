import Derived.Lib.Strings
import Derived.Laws.MakeOwn
import Derived.Great.BuildSlice
import Derived.Deep.Upon
import Derived.Laws.StructEq
import Derived.Stop.IfaceNil
import Derived.Laws.Entries
import Derived.Test.YtfacjammklpmpaaDoorSa
set_option linter.unusedVariables false
set_option linter.unusedSimpArgs false
namespace Go.Sy
section
variable {P:Program} {S:aK} {af:Nat→Nat}
variable {w0:World} {M0 s0:St} {dq:List Deferred} {env:Env S.C} {a:Act} {w:World} {μ:Nat→Loc} {K:Act→World→Prop} {Q:Exit→Act→World→Prop} {o:Oper} {V:V S.C} {us:aA S.C}
theorem IJ (s:List UInt8) (i j:Nat):(⟨s.toArray⟩:ByteArray).extract i j=⟨((s.take j).drop i).toArray⟩:=by
 apply ByteArray.ext
 apply Array.ext'
 rw [Lib.extract_data]
 simp [List.drop_take]
theorem FN (s:List UInt8):ByteArray.size ⟨s.toArray⟩=s.length:=by show s.toArray.size=_; simp
theorem oL {k:IntKind} {i:Int} {y:Nat} (code:BoundsCode) (h0:0≤i) (h1:i≤(y:Int)) (w:World):(Instr.sliceBound (.int k i) y code).run P w= .ok i.toNat w:=by
 simp [Instr.sliceBound,asIntOf,h0,h1]
theorem D_ (h:Inv P S w0 M0 s0 dq env a w μ) {x:Option Operand} {l:Option (Sy.V S.C)} (hx:iN S env.tm x=some l):
 (x=none∧l=none)∨ ∃ y v,x=some y∧l=some v∧RV P S w (ay S w0 M0 s0 env.bx μ w) μ env.bx v (a.eval y):=by
 cases x with
 | none=>cases hx; exact .inl ⟨rfl,rfl⟩
 | some y=>
  simp only [iN] at hx
  obtain ⟨v,hv,hx⟩:=Option.bind_eq_some_iff.1 hx
  cases hx
  exact .inr ⟨y,v,rfl,rfl,(aW h hv).1⟩
theorem ou {s:St} {bx:Bx S.C} {V:Sy.V S.C} {v:Value} {n:Int} (h:RV P S w s μ bx V v) (hi:mc S V=some n): ∃ k,v= .int k n:=by
 unfold mc at hi
 cases e:V.int? with
 | none=>rw [e] at hi; cases hi
 | some p=>
  rw [e] at hi
  cases hi
  exact ⟨p.1,iK h e⟩
theorem nP (h:Inv P S w0 M0 s0 dq env a w μ) {lo hi:Option Operand} {l hh:Option (Sy.V S.C)} (hlo:iN S env.tm lo=some l) (hhi:iN S env.tm hi=some hh) {n cap:Nat} (hcap:n≤cap)
 {gs:List Gd} {i j:Int} (hb:bounds S n l hh=some (gs,i,j)) (hg: ∀ g ∈ gs,g.p) (KH:Bool):
 (Instr.sliceBounds KH n cap (lo.map a.eval) (hi.map a.eval) none).run P w= .ok (i.toNat,j.toNat,cap) w∧0≤i∧i≤j∧j≤(n:Int)∧(hh=none→j=n):=by
 rcases D_ h hlo with ⟨rfl,rfl⟩ | ⟨x,v,rfl,rfl,hv⟩ <;> rcases D_ h hhi with ⟨rfl,rfl⟩ | ⟨y,u,rfl,rfl,hu⟩
 · cases hb
   exact ⟨by simp [Instr.sliceBounds],by omega,by omega,by omega,fun _=>rfl⟩
 · simp only [bounds] at hb
   obtain ⟨m,hm,hb⟩:=Option.bind_eq_some_iff.1 hb
   cases hb
   obtain ⟨k,hk⟩:=ou hu hm
   have g0:0≤j:=hg ⟨0≤j,inferInstance⟩ (by simp [gd])
   have g1:j≤(n:Int):=hg ⟨j≤(n:Int),inferInstance⟩ (by simp [gd])
   refine ⟨?_,by omega,by omega,g1,fun h=>by cases h⟩
   simp only [Option.map,hk,Instr.sliceBounds]
   simp [oL (P:=P) _ g0 (show j≤(cap:Int) by omega)]
 · simp only [bounds] at hb
   obtain ⟨m,hm,hb⟩:=Option.bind_eq_some_iff.1 hb
   cases hb
   obtain ⟨k,hk⟩:=ou hv hm
   have g0:0≤i:=hg ⟨0≤i,inferInstance⟩ (by simp [gd])
   have g1:i≤(n:Int):=hg ⟨i≤(n:Int),inferInstance⟩ (by simp [gd])
   refine ⟨?_,g0,g1,by omega,fun _=>rfl⟩
   simp only [Option.map,hk,Instr.sliceBounds]
   simp [oL (P:=P) _ g0 g1]
 · simp only [bounds] at hb
   obtain ⟨m,hm,hb⟩:=Option.bind_eq_some_iff.1 hb
   obtain ⟨p,hp,hb⟩:=Option.bind_eq_some_iff.1 hb
   cases hb
   obtain ⟨k,hk⟩:=ou hv hm
   obtain ⟨k',hk'⟩:=ou hu hp
   have g0:0≤j:=hg ⟨0≤j,inferInstance⟩ (by simp [gd])
   have g1:j≤(n:Int):=hg ⟨j≤(n:Int),inferInstance⟩ (by simp [gd])
   have g2:0≤i:=hg ⟨0≤i,inferInstance⟩ (by simp [gd])
   have g3:i≤j:=hg ⟨i≤j,inferInstance⟩ (by simp [gd])
   refine ⟨?_,g2,g3,g1,fun h=>by cases h⟩
   simp only [Option.map,hk,hk',Instr.sliceBounds]
   simp [oL (P:=P) _ g0 (show j≤(cap:Int) by omega),oL (P:=P) .sliceB g2 (show i≤(j.toNat:Int) by omega)]
def jO (ad:Option Addr) (cap lo sz:Nat):Option Addr:=if cap=lo then ad else ad.map (·.add (lo*sz))
theorem Nc (hP:aL P S af) {t:Nat} {e:Ty} (ht:S.ty t=some (.sl e)) {ad:Option Addr} {n cap i j:Nat} {lo hi:Option Value}
 (hb:(Instr.sliceBounds true n cap lo hi none).run P w= .ok (i,j,cap) w):(Instr.sliceAt t (.slice ad n cap) lo hi none).run P w= .ok (.slice (jO ad cap i (Ty.sz S e)) (j - i) (cap - i)) w:=by
 obtain ⟨te,ie,z,hu,he,_⟩:=hP.sl ht
 simp [Instr.sliceAt,Instr.slice,run_underlying hu,hb,hP.size he,jO]
theorem xH {α:Type} (l:List α) {i j:Int} {hh:Option (Sy.V S.C)} (h0:0≤i) (h1:i≤j) (h2:j≤(l.length:Int)) (hn:hh=none→j=(l.length:Int)):
 iW S l i j hh=(l.take j.toNat).drop i.toNat:=by
 cases hh with
 | none=>
  have :=hn rfl
  show l.drop i.toNat=_
  rw [this,show ((l.length:Int)).toNat=l.length from by omega,List.take_length]
 | some v=>rfl
theorem LF {R:(t:Ty)→t.den S.C→List Value→Prop} {s:St} {e:Ty} {b o':Nat} {l:List (e.den S.C)} (h:q_ S R w s e b o' l) (i j:Nat):q_ S R w s e b (o'+i*Ty.sz S e) ((l.take j).drop i):=fun k x hk=>by
 have hk':l[i+k]? =some x:=by
  rw [List.getElem?_drop,List.getElem?_take] at hk
  split at hk
  · exact hk
  · cases hk
 obtain ⟨ds,d1,d2,d3⟩:=h (i+k) x hk'
 refine ⟨ds,d1, ?_,d3⟩
 rw [show o'+i*Ty.sz S e+k*Ty.sz S e=o'+(i+k)*Ty.sz S e from by rw [Nat.add_mul]; omega]
 exact d2
theorem Bb {s:St} {e:Ty} {l:List (e.den S.C)} {ad:Option Addr} {cap:Nat} (h:bV S w s (.sl e) l (.slice ad l.length cap)) {i j:Nat} (h1:i≤j) (h2:j≤l.length):
 bV S w s (.sl e) ((l.take j).drop i) (.slice (jO ad cap i (Ty.sz S e)) (j - i) (cap - i)):=by
 obtain ⟨iV,cap',he,hle,hel⟩:=jl h
 cases he
 have hlen:((l.take j).drop i).length=j - i:=by rw [List.length_drop,List.length_take]; omega
 rcases hel with hel | ⟨b,o',n,rfl,hel⟩
 · exact ⟨rfl,1,_,_,by rw [hlen]; rfl,by rw [hlen]; omega, .inl (by rw [hlen]; omega)⟩
 · by_cases hc:cap=i
   · exact ⟨rfl,1,_,_,by rw [hlen]; rfl,by rw [hlen]; omega, .inl (by rw [hlen]; omega)⟩
   · refine ⟨rfl,n+1,_,_,by rw [hlen]; rfl,by rw [hlen]; omega, .inr ⟨b,o'+i*Ty.sz S e, ?_,LF hel i j⟩⟩
     rw [jO,if_neg hc]
     simp [Addr.add_mid]
theorem Nf {t:Nat} (hu:P.underlying t=some .string) (s:List UInt8) {i j:Nat} {lo hi:Option Value}
 (hb:(Instr.sliceBounds false s.length s.length lo hi none).run P w= .ok (i,j,s.length) w):(Instr.sliceAt t (.string ⟨s.toArray⟩) lo hi none).run P w= .ok (.string ⟨((s.take j).drop i).toArray⟩) w:=by
 have e1:=IJ s i j
 have hsz:=FN s
 simp [Instr.sliceAt,Instr.slice,run_underlying hu,hsz,hb,e1]
theorem HH {n:Nat} {hh:Option (Sy.V S.C)} {gs:List Gd} {i j:Int} (hb:bounds S n none hh=some (gs,i,j)):i=0:=by
 cases hh with
 | none=>cases hb; rfl
 | some u=>
  simp only [bounds] at hb
  obtain ⟨m,hm,hb⟩:=Option.bind_eq_some_iff.1 hb
  cases hb; rfl
theorem Bf {s':St} {bx:Bx S.C} {k:Nat} {e:Ty} {l:List (e.den S.C)} (hb:bx k=some (.arr e l)) {ad:Option Addr} {n cap:Nat} (ha:gL (μ k) ad n cap (Ty.sz S e)) {N:Nat} {lo hh:Option (Sy.V S.C)} {gs:List Gd} {i j:Int}
 (hbd:bounds S N lo hh=some (gs,i,j)) (h0:0≤i) (h1:i≤j) (h2:j≤(l.length:Int)) (h3:j≤(cap:Int)):
 RV P S w s' μ bx (mD S k i j lo) (.slice (jO ad cap i.toNat (Ty.sz S e)) (j.toNat - i.toNat) (cap - i.toNat)):=by
 have hn: ∀ e' (l':List (e'.den S.C)),bx k=some (.arr e' l')→e'=e∧l'.length=l.length∧Ty.sz S e'=Ty.sz S e:=by
  intro e' l' h
  rw [hb] at h
  cases h
  exact ⟨rfl,rfl,rfl⟩
 cases lo with
 | none=>
  have :=HH hbd
  subst this
  refine ⟨⟨_,_,_,rfl⟩,fun e' l' hb'=> ?_⟩
  obtain ⟨_,q2,q3⟩:=hn e' l' hb'
  rw [q2,q3]
  have hs:jO ad cap 0 (Ty.sz S e)=ad:=by
   unfold jO
   split
   · rfl
   · rw [ha.addr]
     split
     · rfl
     · simp [Addr.add_mid]
  refine ⟨h1,by omega,ad,cap, ?_,ha.addr,ha.dW,ha.cells,ha.isNil,by omega⟩
  rw [show (0:Int).toNat=0 from rfl,hs]; rfl
 | some u=>
  refine ⟨⟨_,_,_,rfl⟩,fun e' l' hb'=> ?_⟩
  obtain ⟨_,q2,q3⟩:=hn e' l' hb'
  rw [q2,q3]
  refine ⟨h0,by omega,by omega,_,_,by rw [show (j - i).toNat=j.toNat - i.toNat from by omega],by omega, ?_⟩
  by_cases hz:(j - i).toNat=0
  · exact .inl hz
  · refine .inr ?_
    have fD:(μ k).nil=false:=by
     cases hn:(μ k).nil with
     | false=>rfl
     | true=>have :=ha.isNil hn; have :=ha.dW; omega
    unfold jO
    rw [if_neg (by omega),ha.addr,fD]
    simp [Addr.add_mid]
theorem NF (hP:aL P S af) (h:Inv P S w0 M0 s0 dq env a w μ) (hd: ∀ d,o.dst=some d→d<a.tmps.size) {t:TypeId} {x:Operand} {lo hi:Option Operand} {ids:List Nat} {vw:Bool} (ho:o.op= .slice t x lo hi none)
 (hl:(match S.ty t,aE S env.tm x,iN S env.tm lo,iN S env.tm hi with
  | some T,some v,some l,some h=>A4 S vw T (restrict S env.bx ids) l h v
  | _,_,_,_=> .fail).leaf (V,us)) (hK:Goal P S w0 M0 s0 dq env a o.dst V us K):o.wp P a w K Q:=by
 split at hl
 · rename_i T v l hh ht hx hlo hhi
   obtain ⟨hv,cT⟩:=aW h hx
   have run: ∀ (e:Ty) (ad:Option Addr) (n cap i j:Nat),S.ty t=some (.sl e)→a.eval x= .slice ad n cap→(Instr.sliceBounds true n cap (lo.map a.eval) (hi.map a.eval) none).run P w= .ok (i,j,cap) w→
    (execOp a.eval o).run P w= .ok (.value (.slice (jO ad cap i (Ty.sz S e)) (j - i) (cap - i))) w:=by
    intro e ad n cap i j ht he hb
    unfold execOp
    simp only [ho,he]
    simp [Nc hP ht hb]
   have data: ∀ (e:Ty) (s:List (e.den S.C)),bV S w (ay S w0 M0 s0 env.bx μ w) (.sl e) s (a.eval x)→(if T= .sl e then match bounds S s.length l hh with
    | some (gs,a,b)=>Tr.gd gs (ax S (.d (.sl e) (iW S s a b hh)) [])
    | none=> .fail else .fail:Rt S).leaf (V,us)→o.wp P a w K Q:=by
    intro e s hr bD
    clear hl
    split at bD
    · rename_i hT
      subst hT
      split at bD
      · rename_i gs i j hb
        obtain ⟨hg,rfl,rfl⟩:=ee bD
        obtain ⟨ad,cap,he,hcap,_⟩:=jl hr
        obtain ⟨b1,b2,b3,b4,b5⟩:=nP h hlo hhi hcap hb hg true
        rw [he] at hr
        refine wp_pure (V:= .d (.sl e) (iW S s i j hh)) h (run e ad _ cap _ _ ht he b1) hd ?_ (by simp [aq,ak]) hK
        show bV S w _ (.sl e) (iW S s i j hh) _
        rw [xH s b2 b3 b4 b5]
        exact Bb hr (by omega) (by omega)
      · exact bD.elim
    · exact bD.elim
   unfold A4 at hl
   split at hl
   · rename_i s
     split at hl
     · rename_i hT
       subst hT
       split at hl
       · rename_i gs i j hb
         obtain ⟨hg,rfl,rfl⟩:=ee hl
         have he:=nK hv
         obtain ⟨b1,b2,b3,b4,b5⟩:=nP h hlo hhi (Nat.le_refl _) hb hg false
         have hu:P.underlying t=some .string:=(hP.ty t _ ht).2
         refine wp_pure (V:= .d .str (iW S s i j hh)) h (v:= .string ⟨((List.take j.toNat s).drop i.toNat).toArray⟩) ?_ hd ?_ (by simp [aq,ak]) hK
         · unfold execOp
           simp only [ho,he]
           rw [Sem.run_bind,show Option.map a.eval none=none from rfl,Nf hu s b1]
           rfl
         · show bV S w _ .str (iW S s i j hh) _
           rw [xH s b2 b3 b4 b5]
           exact tT ..
       · exact hl.elim
     · exact hl.elim
   · exact data _ _ hv hl
   · rename_i k e s
     split at hl
     · rename_i hT
       subst hT
       split at hl
       · rename_i gs i j hb
         obtain ⟨hg,rfl,rfl⟩:=ee hl
         obtain ⟨ad,cap,he,hcap,_⟩:=jl hv.1
         obtain ⟨b1,b2,b3,b4,b5⟩:=nP h hlo hhi hcap hb hg true
         have hr:=hv.1
         rw [he] at hr
         have hsub:=Bb hr (show i.toNat≤j.toNat by omega) (by omega)
         cases hh with
         | some eg=>
          refine wp_pure (V:= .d (.sl e) (cut s i j)) h (run e ad _ cap _ _ ht he b1) hd hsub (by simp [aq,ak]) hK
         | none=>
          have hj:=b5 rfl
          have C7:cutFrom s i=(s.take j.toNat).drop i.toNat:=by
           show s.drop i.toNat=_
           rw [hj,show ((s.length:Int)).toNat=s.length from by omega,List.take_length]
          refine wp_pure (V:= .aP k e (cutFrom s i)) h (run e ad _ cap _ _ ht he b1) hd ⟨by rw [C7]; exact hsub,fun hb'=> ?_⟩ (fun i hi=>cT i hi) hK
          have hlen:(cutFrom s i).length=j.toNat - i.toNat:=by rw [C7,List.length_drop,List.length_take]; omega
          obtain ⟨iV,cap',he',sK⟩:=hv.2 hb'
          rw [he] at he'
          cases he'
          refine ⟨_,_,by rw [hlen], ?_⟩
          rw [hlen]
          rcases sK with ⟨rfl,rfl,hn⟩ | ⟨b,o',rfl,t1,t2⟩
          · exact .inl ⟨by unfold jO; split <;> rfl,by omega,hn⟩
          · by_cases hc:cap=i.toNat
            · refine .inr ⟨b,o',by rw [jO,if_pos hc], ?_,fun hlt=>by omega⟩
              rw [t1]; congr 1; omega
            · refine .inr ⟨b,o'+i.toNat*Ty.sz S e,by rw [jO,if_neg hc]; simp [Addr.add_mid], ?_,fun hlt=> ?_⟩
              · rw [t1]; congr 1; omega
              · obtain ⟨t2,t3⟩:=t2 (by omega)
                refine ⟨t2, ?_⟩
                rw [t3]
                have :s.length*Ty.sz S e=i.toNat*Ty.sz S e+(j.toNat - i.toNat)*Ty.sz S e:=by rw [← Nat.add_mul]; congr 1; omega
                omega
       · exact hl.elim
     · exact hl.elim
   · rename_i k
     split at hl
     · rename_i e s hb
       have hb:=dG hb
       split at hl
       · rename_i hT
         subst hT
         split at hl
         · rename_i gs i j hbd
           cases vw with
           | true=>
            obtain ⟨hg,rfl,rfl⟩:=ee hl
            obtain ⟨ad,cap,he,hao⟩:=hv.2 e s (.inl hb)
            obtain ⟨b1,b2,b3,b4,b5⟩:=nP h hlo hhi hao.fits hbd hg true
            have hfit:=hao.fits
            refine wp_pure (V:=mD S k i j l) h (run e ad _ cap _ _ ht he b1) hd (Bf hb hao hbd b2 b3 b4 (by omega)) (fun q hq=> ?_) hK
            have :q=k:=by cases l <;> simpa [mD,aq,ak] using hq
            rw [this,hb]; simp
           | false=>
           have hl:(Tr.gd gs (ax S (.d (.sl e) (iW S s i j hh)) [(k, .bn e s)]):Rt S).leaf (V,us):=hl
           obtain ⟨hg,rfl,rfl⟩:=ee hl
           have eU:Tk S env.bx (ah env.bx [(k, .bn e s)]):=Tk.Be (by rw [hb]; exact .arr e s)
           obtain ⟨ad,cap,he,hao⟩:=hv.2 e s (.inl hb)
           obtain ⟨b1,b2,b3,b4,b5⟩:=nP h hlo hhi hao.fits hbd hg true
           refine OX (V:= .d (.sl e) (iW S s i j hh)) hP.tob6 h (run e ad _ cap _ _ ht he b1) hd eU (fun hI=> ?_) (by simp [aq,ak]) hK
           have hr:=yh hP.tob6 hI (Tk.refl S _) (aI env.bx k (some (.bn e s))) (bl.step P S (F1 eU) (fun i B0 bA=> ?_) (fun j hj=>cT j hj) hv)
           · rw [he] at hr
             show bV S w _ (.sl e) (iW S s i j hh) _
             rw [xH s b2 b3 b4 b5]
             have hr':bV S w (bC S w0 M0 s0 (ah env.bx [(k, .bn e s)]) (ah env.bx [(k, .bn e s)]) μ w) (.sl e) s (.slice ad s.length cap):=⟨rfl,hr⟩
             refine bV.mono S (fun b o ⟨h1,h2,h3⟩=>⟨⟨h1,h2,fun i hi=> ?_⟩,rfl⟩) (Bb hr' (show i.toNat≤j.toNat by omega) (by omega))
             rcases h3 i hi with ⟨e',l',hf⟩ | hf
             · unfold live at hi; rw [hf] at hi; exact hi.elim
             · exact hf
           · rcases eU i with e1 | ⟨e1,_⟩ | ⟨e',l',e1,e2⟩
             · exact ⟨B0,e1.trans bA,cl.refl S _ _⟩
             · exact ⟨_,e1,by cases B0 <;> rfl⟩
             · rw [bA] at e1; cases e1 <;> exact ⟨_,e2,rfl,rfl,rfl⟩
         · exact hl.elim
       · exact hl.elim
     · rename_i e s hb
       have hb:=dG hb
       refine data e s ?_ hl
       obtain ⟨n,hn⟩:=yh hP.tob6 h (Tk.refl S _) hb hv
       obtain ⟨ad,cap,he,hao⟩:=hv.2 e s (.inr hb)
       rw [he] at hn ⊢
       refine ⟨rfl,n,hn.mono S (fun b o ⟨h1,h2,h3⟩=>⟨⟨h1,h2,fun i hi=> ?_⟩,rfl⟩) (Nat.le_refl _)⟩
       rcases h3 i hi with ⟨e',l',hf⟩ | hf
       · unfold live at hi; rw [hf] at hi; exact hi.elim
       · exact hf
     · exact hl.elim
   · rename_i k n
     split at hl
     · rename_i e s hb
       have hb:=dG hb
       obtain ⟨hn0,hnl,ad,cap,he,hao⟩:=hv.2 e s hb
       obtain ⟨g1,g2,g3,g4,g5⟩:=h.bw k _ hb
       have hcap:=hao.dW
       have hfit:=hao.fits
       have ids: ∀ i j, ∀ q ∈ aq S (mD S k i j l),env.bx q≠none:=fun i j q hq=>by
        have :q=k:=by cases l <;> simpa [mD,aq,ak] using hq
        rw [this,hb]; simp
       split at hl
       · rename_i hT
         subst hT
         cases hh with
         | none=>
          dsimp only at hl
          split at hl
          · rename_i gs i j hbd
            obtain ⟨hg,rfl,rfl⟩:=ee hl
            obtain ⟨b1,b2,b3,b4,b5⟩:=nP h hlo hhi hao.fits hbd hg true
            exact wp_pure (V:=mD S k i j l) h (run e ad _ cap _ _ ht he b1) hd (Bf hb hao hbd b2 b3 (by omega) (by omega)) (ids i j) hK
          · exact hl.elim
         | some u=>
          dsimp only at hl
          split at hl
          · rename_i gs i j hbd
            obtain ⟨hg,rfl,rfl⟩:=ee hl
            obtain ⟨b1,b2,b3,b4,b5⟩:=nP (cap:=cap) h hlo hhi (show s.length≤cap by omega) hbd hg true
            obtain ⟨hi',JI⟩: ∃ y,hi=some y:=by
             cases hi with
             | none=>cases hhi
             | some y=>exact ⟨y,rfl⟩
            subst JI
            have Hv:(Instr.sliceBounds true n.toNat cap (lo.map a.eval) ((some hi').map a.eval) none).run P w= .ok (i.toNat,j.toNat,cap) w:=b1
            exact wp_pure (V:=mD S k i j l) h (run e ad _ cap _ _ ht he Hv) hd (Bf hb hao hbd b2 b3 b4 (by omega)) (ids i j) hK
          · exact hl.elim
       · exact hl.elim
     · exact hl.elim
   · exact hl.elim
 · exact hl.elim
theorem K2 (hP:aL P S af) (h:Inv P S w0 M0 s0 dq env a w μ) (hd: ∀ d,o.dst=some d→d<a.tmps.size) {c:Call} (ho:o.op= .call c) (hc:c.callee= .builtin .len) {args:List (Sy.V S.C)} {ids:List Nat}
 (hargs:c.args.toList.mapM (aE S env.tm)=some args)
 (hl:(match args,(c.argTypes[0]?).bind S.ty with
  | [v],some T=>zv S T (restrict S env.bx ids) v
  | _,_=> .fail).leaf (V,us)) (hK:Goal P S w0 M0 s0 dq env a o.dst V us K):o.wp P a w K Q:=by
 split at hl
 · rename_i v T CZ
   obtain ⟨t,ht,hT⟩:=Option.bind_eq_some_iff.1 CZ
   clear CZ
   have hone: ∃ x,c.args= #[x]∧aE S env.tm x=some v:=by
    cases e:c.args.toList with
    | nil=>rw [e] at hargs; simp at hargs
    | cons x r=>
     rw [e] at hargs
     cases r with
     | nil=>
      refine ⟨x, ?_, ?_⟩
      · have :c.args=c.args.toList.toArray:=by simp
        rw [this,e]
      · simp at hargs
        cases hx:aE S env.tm x with
        | none=>rw [hx] at hargs; simp at hargs
        | some v'=>rw [hx] at hargs; simp at hargs; rw [hargs]
     | cons y r=>
      simp at hargs
      cases hx:aE S env.tm x with
      | none=>rw [hx] at hargs; simp at hargs
      | some v'=>
       rw [hx] at hargs
       cases hy:aE S env.tm y with
       | none=>rw [hy] at hargs; simp at hargs
       | some u'=>
        rw [hy] at hargs
        cases hr:List.mapM (aE S env.tm) r with
        | none=>rw [hr] at hargs; simp at hargs
        | some q=>rw [hr] at hargs; simp at hargs
   obtain ⟨x,hx,DJ⟩:=hone
   have hv:=(aW h DJ).1
   clear hargs DJ
   have fin: ∀ (n:Nat),(Builtin.len_ c.argTypes o.type #[a.eval x]).run P w= .ok (goInt n) w→V= .d (.int .i64) (n:Int)→us= []→o.wp P a w K Q:=by
    rintro n hr rfl rfl
    refine wp_pure (V:= .d (.int .i64) (n:Int)) h (v:=goInt n) ?_ hd (iu ..) (by simp [aq,ak]) hK
    unfold execOp
    simp only [ho]
    simp [resolve,hc,hx,invoke,builtin,hr]
   have slc: ∀ (e:Ty) (n cap:Nat) (ad:Option Addr),T= .sl e→a.eval x= .slice ad n cap→(Builtin.len_ c.argTypes o.type #[a.eval x]).run P w= .ok (goInt n) w:=by
    rintro e n cap ad rfl he
    obtain ⟨te,ie,z,hu,_⟩:=hP.sl hT
    rw [he]
    simp [Builtin.len_,ht,run_underlying hu]
   unfold zv at hl
   split at hl
   · rename_i s
     split at hl
     · rename_i gq
       subst gq
       obtain ⟨e1,e2⟩:=bg hl
       refine fin _ ?_ e1 e2
       have hu:P.underlying t=some .string:=(hP.ty t _ hT).2
       rw [nK hv]
       simp only [Builtin.len_,ht]
       simp [run_underlying hu]
       exact congrArg (fun n:Nat=>goInt n) (FN s)
     · exact hl.elim
   · split at hl
     · rename_i e
       obtain ⟨e1,e2⟩:=bg hl
       exact fin 0 (slc e 0 0 none rfl hv) e1 e2
     · exact hl.elim
   · rename_i e l
     split at hl
     · rename_i gq
       obtain ⟨e1,e2⟩:=bg hl
       obtain ⟨ad,cap,he,_⟩:=jl hv
       exact fin _ (slc e _ cap ad gq he) e1 e2
     · exact hl.elim
   · rename_i k e l
     split at hl
     · rename_i gq
       obtain ⟨e1,e2⟩:=bg hl
       obtain ⟨ad,cap,he,_⟩:=jl hv.1
       exact fin _ (slc e _ cap ad gq he) e1 e2
     · exact hl.elim
   · rename_i k
     have own: ∀ (e:Ty) (l:List (e.den S.C)),(env.bx k=some (.arr e l)∨env.bx k=some (.bn e l))→(if T= .sl e then ax S (.d (.int .i64) (l.length:Int)) [] else .fail:Rt S).leaf (V,us)→o.wp P a w K Q:=by
      intro e l hb bD
      split at bD
      · rename_i gq
        obtain ⟨e1,e2⟩:=bg bD
        obtain ⟨ad,cap,he,_⟩:=hv.2 e l hb
        exact fin _ (slc e _ cap ad gq he) e1 e2
      · exact bD.elim
     split at hl
     · rename_i hb; exact own _ _ (.inl (dG hb)) hl
     · rename_i hb; exact own _ _ (.inr (dG hb)) hl
     · rename_i u l q hb
       have hb:=dG hb
       split at hl
       · rename_i gq
         obtain ⟨e1,e2⟩:=bg hl
         obtain ⟨ad,cap,he,_⟩:=hv.1.2 u l q hb
         exact fin _ (slc (.st u) _ cap ad gq he) e1 e2
       · exact hl.elim
     · exact hl.elim
   · rename_i b n
     split at hl
     · rename_i e l hb
       have hb:=dG hb
       split at hl
       · rename_i gq
         obtain ⟨e1,e2⟩:=bg hl
         obtain ⟨hn0,hnl,ad,cap,he,_⟩:=hv.2 e l hb
         refine fin _ (slc e _ cap ad gq he) ?_ e2
         rw [e1,show ((n.toNat:Nat):Int)=n from by omega]
       · exact hl.elim
     · exact hl.elim
   · exact hl.elim
 · exact hl.elim
theorem Nd (hP:aL P S af) {t:Nat} {e:Ty} (ht:S.ty t=some (.sl e)) {ad:Option Addr} {n cap:Nat} {k1 k2 k3:IntKind} {i j m:Int} (h0:0≤i) (h1:i≤j) (h2:j≤m) (h3:m≤(cap:Int)):
 ∃ v,(Instr.sliceAt t (.slice ad n cap) (some (.int k1 i)) (some (.int k2 j)) (some (.int k3 m))).run P w= .ok v w:=by
 obtain ⟨te,ie,z,hu,he,_⟩:=hP.sl ht
 refine ⟨.slice (if m.toNat=i.toNat then ad else ad.map (·.add (i.toNat*Ty.sz S e))) (j.toNat - i.toNat) (m.toNat - i.toNat), ?_⟩
 simp [Instr.sliceAt,Instr.slice,run_underlying hu,Instr.sliceBounds,oL (P:=P) _ (show 0≤m by omega) h3,oL (P:=P) (i:=j) (y:=m.toNat) _ (by omega) (by omega),oL (P:=P) (i:=i) (y:=j.toNat) _ (by omega) (by omega),hP.size he]
theorem ND (hP:aL P S af) (h:Inv P S w0 M0 s0 dq env a w μ) (hd: ∀ d,o.dst=some d→d<a.tmps.size) {t:TypeId} {x lo hi mx:Operand} {ids:List Nat} (ho:o.op= .slice t x (some lo) (some hi) (some mx))
 (hl:(match S.ty t,aE S env.tm x,aE S env.tm lo,aE S env.tm hi,aE S env.tm mx with
  | some T,some v,some l,some h,some m=>A3 S T (restrict S env.bx ids) l h m v
  | _,_,_,_,_=> .fail).leaf (V,us)) (hK:Goal P S w0 M0 s0 dq env a o.dst V us K):o.wp P a w K Q:=by
 split at hl
 · rename_i T v l hh m ht hx hlo hhi J0
   obtain ⟨hv,cT⟩:=aW h hx
   unfold A3 at hl
   split at hl
   · rename_i k
     split at hl
     · rename_i e s hb
       have hb:=dG hb
       split at hl
       · rename_i hT
         subst hT
         split at hl
         · rename_i i j c e1 e2 e3
           obtain ⟨hg,rfl,rfl⟩:=ee hl
           have g0:0≤i:=hg ⟨0≤i,inferInstance⟩ (by simp [gd])
           have g1:i≤j:=hg ⟨i≤j,inferInstance⟩ (by simp [gd])
           have g2:j≤c:=hg ⟨j≤c,inferInstance⟩ (by simp [gd])
           have g3:c≤(s.length:Int):=hg ⟨c≤(s.length:Int),inferInstance⟩ (by simp [gd])
           obtain ⟨ad,cap,he,hao⟩:=hv.2 e s (.inl hb)
           have hfit:=hao.fits
           obtain ⟨k1,q1⟩:=ou (aW h hlo).1 e1
           obtain ⟨k2,q2⟩:=ou (aW h hhi).1 e2
           obtain ⟨k3,q3⟩:=ou (aW h J0).1 e3
           obtain ⟨r,hr⟩:=Nd (P:=P) (w:=w) hP ht (ad:=ad) (n:=s.length) (cap:=cap) (k1:=k1) (k2:=k2) (k3:=k3) g0 g1 g2 (by omega)
           refine wp_pure (V:= .undef) h (v:=r) ?_ hd trivial (by simp [aq,ak]) hK
           unfold execOp
           simp only [ho,he,Option.map,q1,q2,q3]
           simp [hr]
         · exact hl.elim
       · exact hl.elim
     · exact hl.elim
   · exact hl.elim
 · exact hl.elim
end
end Go.Sy
namespace Go.Sy
section
variable {P:Program} {S:aK} {af:Nat→Nat}
variable {w0:World} {M0 s0:St} {dq:List Deferred} {env:Env S.C} {a:Act} {w:World} {μ:Nat→Loc} {K:Act→World→Prop} {Q:Exit→Act→World→Prop} {o:Oper} {V:V S.C} {us:aA S.C}
theorem aB.map {w w':World} {s s':St} {μ μ':Nat→Loc} {bx aa:Bx S.C} (h: ∀ V v,bl P S w s μ bx V v→(∀ j ∈ ak S V,bx j≠none)→bl P S w' s' μ' aa V v):
 ∀ {vs:List (Sy.V S.C)} {cs:List Value},(∀ v ∈ vs, ∀ j ∈ ak S v,bx j≠none)→aB P S w s μ bx vs cs→aB P S w' s' μ' aa vs cs
 | [],_,_,h'=>h'
 | v::vs,_,hr,⟨c,r,h1,h2,h3⟩=>⟨c,r,h1,h _ _ h2 (hr v (by simp)),aB.map h (fun v hv=>hr v (by simp [hv])) h3⟩
theorem KG {v:Value} (h:isAgg v=false):v.cells.toList= [v]:=av.jZ (t:= .bool) h rfl
theorem FQ {s:St} {bx:Bx S.C} {V:Sy.V S.C} {v:Value} (hs:bH S V=true) (h:bl P S w s μ bx V v):isAgg v=false∧v.oneCell'=true:=by
 cases V with
 | d t x=>
  obtain ⟨ha,n,hn⟩:=h
  cases t with
  | st u=>simp [bH] at hs
  | int k=>rw [mM (w:=w) (s:=s) ⟨ha,n,hn⟩]; exact ⟨rfl,rfl⟩
  | bool=>rw [nJ (w:=w) (s:=s) ⟨ha,n,hn⟩]; exact ⟨rfl,rfl⟩
  | str=>rw [nK (w:=w) (s:=s) ⟨ha,n,hn⟩]; exact ⟨rfl,rfl⟩
  | pt=>
   cases n with
   | zero=>exact hn.elim
   | succ n=>
    have hn:v.cells.toList= [.pointer none]:=hn
    rw [av.jZ (t:= .pt) ha rfl] at hn
    cases hn
    exact ⟨rfl,rfl⟩
  | sl e=>obtain ⟨a,cap,he,_⟩:=jl (w:=w) (s:=s) ⟨ha,n,hn⟩; rw [he]; exact ⟨rfl,rfl⟩
 | pr p i=>cases h; exact ⟨rfl,rfl⟩
 | aP b e l=>obtain ⟨a,cap,he,_⟩:=jl h.1; rw [he]; exact ⟨rfl,rfl⟩
 | az b=>obtain ⟨⟨⟨a,n,c,rfl⟩,_⟩,_⟩:=h; exact ⟨rfl,rfl⟩
 | ptr b off=>cases h; exact ⟨rfl,rfl⟩
 | cI b i off=>obtain ⟨⟨⟨p,rfl⟩,_⟩,_⟩:=h; exact ⟨rfl,rfl⟩
 | cJ t x=>obtain ⟨b,o',ds,rfl,_⟩:=h; exact ⟨rfl,rfl⟩
 | nil=>cases h; exact ⟨rfl,rfl⟩
 | b_=>cases h; exact ⟨rfl,rfl⟩
 | fv A R g=>obtain ⟨f,first,cap,rfl,_⟩:=h; exact ⟨rfl,rfl⟩
 | undef=>simp [bH] at hs
 | skip=>simp [bH] at hs
 | pre b n=>simp [bH] at hs
 | win b i n=>simp [bH] at hs
 | cm b n=>simp [bH] at hs
 | split b c=>simp [bH] at hs
 | jc c=>simp [bH] at hs
 | err b=>simp [bH] at hs
 | fh f vs=>simp [bH] at hs
 | agg u vs=>simp [bH] at hs
 | gI vs=>simp [bH] at hs
theorem qQ {s:St} {bx:Bx S.C} : ∀ {vs:List (Sy.V S.C)} {cs:List Value},vs.all (bH S)=true→aB P S w s μ bx vs cs→ ∀ c ∈ cs,c.oneCell'=true
 | [],_,_,h,c,hc=>by cases h; simp at hc
 | V::vs,_,hs,⟨c,r,h1,h2,h3⟩,d,hd=>by
  subst h1
  simp only [List.all_cons,Bool.and_eq_true] at hs
  rcases List.mem_cons.1 hd with rfl | hd
  · exact (FQ hs.1 h2).2
  · exact qQ hs.2 h3 d hd
theorem xo (hS:b6 S) {s:St} {bx:Bx S.C} {V:Sy.V S.C} {v:Value} (hs:(cellsOf S V).all (bH S)=true) (h:RV P S w s μ bx V v):
 aB P S w s μ bx (cellsOf S V) v.cells.toList∧ ∀ u ∈ cellsOf S V, ∀ j ∈ ak S u,j ∈ aq S V:=by
 have one: ∀ (W:Sy.V S.C),V=W→cellsOf S V= [W]→bl P S w s μ bx W v→(∀ j ∈ ak S W,j ∈ aq S V)→aB P S w s μ bx (cellsOf S V) v.cells.toList∧ ∀ u ∈ cellsOf S V, ∀ j ∈ ak S u,j ∈ aq S V:=by
  intro W hW he h1 h2
  rw [he] at hs
  simp only [List.all_cons,Bool.and_eq_true] at hs
  refine ⟨?_,fun u hu j hj=> ?_⟩
  · rw [he,KG (FQ hs.1 h1).1]
    exact ⟨v,[],rfl,h1,rfl⟩
  · rw [he] at hu
    simp at hu
    subst hu
    exact h2 j hj
 cases V with
 | d t x=>
  obtain ⟨ha,n,hn⟩:=h
  obtain ⟨h1,h2,h3⟩:=kQ (P:=P) hS μ bx hn
  exact ⟨h1,fun u hu j hj=>by rw [h3 u hu] at hj; simp at hj⟩
 | agg u vs=>
  obtain ⟨cs,rfl,_,_,hvs⟩:=h
  exact ⟨hvs,fun v hv j hj=>by simp only [aq,List.mem_flatMap]; exact ⟨v,hv,hj⟩⟩
 | gI vs=>simp [cellsOf,bH] at hs
 | fh f vs=>simp [cellsOf,bH] at hs
 | undef=>simp [cellsOf,bH] at hs
 | skip=>simp [cellsOf,bH] at hs
 | pr p i=>exact one _ rfl rfl h (fun j hj=>hj)
 | aP b e l=>exact one _ rfl rfl h (fun j hj=>hj)
 | az b=>exact one _ rfl rfl h (fun j hj=>hj)
 | pre b n=>simp [cellsOf,bH] at hs
 | win b i n=>simp [cellsOf,bH] at hs
 | cm b n=>simp [cellsOf,bH] at hs
 | split b c=>simp [cellsOf,bH] at hs
 | jc c=>simp [cellsOf,bH] at hs
 | err b=>simp [cellsOf,bH] at hs
 | ptr b off=>exact one _ rfl rfl h (fun j hj=>hj)
 | cI b i off=>exact one _ rfl rfl h (fun j hj=>hj)
 | cJ t x=>exact one _ rfl rfl h (fun j hj=>hj)
 | nil=>exact one _ rfl rfl h (fun j hj=>hj)
 | b_=>exact one _ rfl rfl h (fun j hj=>hj)
 | fv A R g=>exact one _ rfl rfl h (fun j hj=>hj)
theorem x_ {vs:List (Sy.V S.C)} {n:Nat} (h:fits S vs n=true):vs.length=n∧vs.all (bH S)=true:=by
 unfold fits at h
 rw [Bool.and_eq_true] at h
 exact ⟨Nat.eq_of_beq_eq_true h.1,h.2⟩
theorem ld {w:World} {cs:Array Value} {t:TypeId} :(w.alloc (.cells cs t)).there w.heap.size 0 cs.size∧(w.alloc (.cells cs t)).rangeAt w.heap.size 0 cs.toList:=by
 refine ⟨fun j hj=> ?_,fun j v hv=> ?_⟩
 · rw [Nat.zero_add]
   simp [hj]
 · rw [Nat.zero_add]
   simpa using hv
theorem Gw (hP:aL P S af) (h:Inv P S w0 M0 s0 dq env a w μ) (hd: ∀ d,o.dst=some d→d<a.tmps.size) {B:Nat} {t:TypeId} {cells:Array Value} {vs:List (Sy.V S.C)}
 (hrun:(execOp a.eval o).run P w= .ok (.value (.pointer (some ⟨w.heap.size,0,none⟩))) (w.alloc (.cells cells t))) (hB:env.bx B=none)
 (hs:vs.all (bH S)=true) (hv:aB P S w (ay S w0 M0 s0 env.bx μ w) μ env.bx vs cells.toList) (hr: ∀ v ∈ vs, ∀ j ∈ ak S v,env.bx j≠none)
 (hK:Goal P S w0 M0 s0 dq env a o.dst (.ptr B 0) [(B, .cells vs)] K):o.wp P a w K Q:=by
 have hlen:=aB.length P S hv
 refine nC (i:=B) (B:= .cells vs) (V:= .ptr B 0) (L:=⟨w.heap.size,0,vs.length,0,false,fun _ _=>False⟩) h hrun hd (aO.alloc w _ _) hB (fun b o' hf=>Nat.le_of_eq hf.1.symm) (fun _ _ h3=>⟨⟨hs,rfl, ?_,cells.toList,ld.2, ?_⟩, ?_⟩)
  (fun vs' hvs v hv j hj=> ?_) (fun j hj=> .inl (by simpa [aq,ak] using hj)) hK
 · have :=(ld (w:=w) (cs:=cells) (t:=t)).1
   rw [show cells.size=vs.length from by rw [← hlen]; simp] at this
   exact this
 · exact aB.map h3 hr hv
 · show Value.pointer _=_
   rw [aI]
 · rcases hvs with hvs | hvs
   · cases hvs; exact hr v hv j hj
   · cases hvs
theorem OW (hP:aL P S af) (h:Inv P S w0 M0 s0 dq env a w μ) (hd: ∀ d,o.dst=some d→d<a.tmps.size) {B c:Nat} {t:TypeId} {cells:Array Value} {vs:List (Sy.V S.C)}
 (hrun:(execOp a.eval o).run P w= .ok (.value (.pointer (some ⟨w.heap.size,0,none⟩))) (w.alloc (.cells cells t))) (hB:env.bx B=none)
 (hs:(Sy.V.ptr c 0::vs).all (bH S)=true) (hv:aB P S w (ay S w0 M0 s0 env.bx μ w) μ env.bx (.ptr c 0::vs) cells.toList) (hr: ∀ v ∈ Sy.V.ptr c 0::vs, ∀ j ∈ ak S v,env.bx j≠none)
 (hK:Goal P S w0 M0 s0 dq env a o.dst (.split B c) [(B, .cells vs)] K):o.wp P a w K Q:=by
 obtain ⟨u,r,hcs,hu,hv⟩:=hv
 have hlen:=aB.length P S hv
 have hc0:env.bx c≠none:=hr (.ptr c 0) (by simp) c (by simp [ak])
 have Jp:c≠B:=fun e=>hc0 (e▸hB)
 have hu:u= .pointer (some ⟨(μ c).b,(μ c).o,none⟩):=hu
 have hsz:cells.size=vs.length+1:=by rw [← Array.length_toList,hcs,List.length_cons,hlen]
 simp only [List.all_cons,Bool.and_eq_true] at hs
 refine nC (i:=B) (B:= .cells vs) (V:= .split B c) (L:=⟨w.heap.size,1,vs.length,0,false,fun _ _=>False⟩) h hrun hd (aO.alloc w _ _) hB (fun b o' hf=>Nat.le_of_eq hf.1.symm) (fun _ _ h3=>⟨⟨hs.2,rfl, ?_,r, ?_, ?_⟩, ?_⟩)
  (fun vs' hvs v hv j hj=> ?_) (fun j hj=> ?_) hK
 · intro j hj
   have :=(ld (w:=w) (cs:=cells) (t:=t)).1 (1+j) (by have :j<vs.length:=hj; omega)
   rw [Nat.zero_add] at this
   exact this
 · intro j v hj
   have :=(ld (w:=w) (cs:=cells) (t:=t)).2 (1+j) v (by rw [hcs,Nat.add_comm]; simpa using hj)
   rw [Nat.zero_add] at this
   exact this
 · exact aB.map h3 (fun v hv=>hr v (by simp [hv])) hv
 · refine ⟨w.heap.size,0,rfl,fun j v hj=> ?_,by rw [aI],by rw [aI]⟩
   have hj0:j=0∧v= .pointer (some ⟨(ai μ B ⟨w.heap.size,1,vs.length,0,false,fun _ _=>False⟩ c).b,(ai μ B ⟨w.heap.size,1,vs.length,0,false,fun _ _=>False⟩ c).o,none⟩):=by
    cases j with
    | zero=>exact ⟨rfl,by simpa using hj.symm⟩
    | succ j=>simp at hj
   obtain ⟨rfl,rfl⟩:=hj0
   rw [aY _ _ Jp]
   refine ⟨?_,by simp, .inr (.inr h.gN.size),fun i hi hf=> ?_⟩
   · have :=(ld (w:=w) (cs:=cells) (t:=t)).2 0 u (by rw [hcs]; rfl)
     rw [Nat.zero_add] at this
     rw [← hu]
     exact this
   · by_cases e:i=B
     · subst e
       rw [aI] at hf
       have h1:1≤0+0:=(Loc.ig (fun _ _ h=>h) hf).2.1
       omega
     · have hl:=(dD S (show ai env.bx B (some (.cells vs)) i=env.bx i from aY _ _ e)).1 hi
       rw [aY _ _ e] at hf
       have :=(jy P S (h.bw i) (h.ext i hl) hl hf).1
       omega
 · rcases hvs with hvs | hvs
   · cases hvs; exact hr v (by simp [hv]) j hj
   · cases hvs
 · have hj:j ∈ [B,c]:=hj
   simp only [List.mem_cons,List.not_mem_nil,or_false] at hj
   rcases hj with rfl | rfl
   · exact .inl rfl
   · exact .inr hc0
theorem pg {s:St} {bx:Bx S.C} : ∀ (ts:List Ty),ts.all (fun t=> !aZ t)=true→aB P S w s μ bx (ts.map (zeroCell S)) (ts.map qV)∧(ts.map (zeroCell S)).all (bH S)=true∧ ∀ v ∈ ts.map (zeroCell S),ak S v= []
 | [],_=>⟨rfl,rfl,by simp⟩
 | t::ts,h=>by
  simp only [List.all_cons,Bool.and_eq_true,Bool.not_eq_true'] at h
  obtain ⟨h1,h2,h3⟩:=pg ts h.2
  refine ⟨⟨_,_,rfl, ?_,h1⟩, ?_, ?_⟩
  · cases t with
    | int k=>exact iu ..
    | bool=>exact lR ..
    | str=>exact tT ..
    | pt=>rfl
    | sl e=>rfl
    | st u=>simp [aZ] at h
  · simp only [List.map_cons,List.all_cons,Bool.and_eq_true]
    exact ⟨by cases t <;> first | rfl | simp [aZ] at h,h2⟩
  · intro v hv
    simp only [List.map_cons,List.mem_cons] at hv
    rcases hv with rfl | hv
    · cases t <;> rfl
    · exact h3 v hv
theorem GK (hS:b6 S) {s:St} {bx:Bx S.C} (T:Ty):aB P S w s μ bx (zeroCells S T) (pn S T)∧(zeroCells S T).all (bH S)=true∧ ∀ v ∈ zeroCells S T,ak S v= []:=by
 cases T with
 | st u=>exact pg (S.F u) (hS.flat u)
 | int k=>exact pg [.int k] rfl
 | bool=>exact pg [.bool] rfl
 | str=>exact pg [.str] rfl
 | pt=>exact pg [.pt] rfl
 | sl e=>exact pg [.sl e] rfl
theorem HC (hP:aL P S af) (h:Inv P S w0 M0 s0 dq env a w μ) (hd: ∀ d,o.dst=some d→d<a.tmps.size) {B:Nat} {t:TypeId} (ho:o.op= .alloc t)
 (hnew: ∀ u ∈ ([(B+1, .buf []),(B, .aQ (B+1))]:aA S.C),B≤u.1→u.1<B+16→env.bx u.1=none) (hb:sW S t=true)
 (hK:Goal P S w0 M0 s0 dq env a o.dst (.ptr B 0) [(B+1, .buf []),(B, .aQ (B+1))] K):o.wp P a w K Q:=by
 obtain ⟨T,e,dx,rfl⟩: ∃ T e,S.bt=some (T,e)∧t=T:=by
  unfold sW at hb
  split at hb
  · rename_i u hu
    exact ⟨u.1,u.2,hu,(Nat.eq_of_beq_eq_true hb).symm⟩
  · cases hb
 obtain ⟨_,i,z,h1,h2,h3⟩:=hP.bt _ dx
 have n1:=hnew (B+1, .buf []) (by simp) (by show B≤B+1; omega) (by show B+1<B+16; omega)
 have n0:=hnew (B, .aQ (B+1)) (by simp) (Nat.le_refl _) (by show B<B+16; omega)
 have hrow:kH S w ⟨0,0,0,0,true,fun _ _=>False⟩ []:=⟨rfl,rfl,fun _=>rfl,_,_,dx,World.ownsRowF_nil ..⟩
 obtain ⟨hI,_,_⟩:=h.zE (aO.refl w _) n1 (B:= .buf []) (L:=⟨0,0,0,0,true,fun _ _=>False⟩) (fun b o' hf=>by have h1:o'<0+0:=hf.2.2; omega) (fun _ _ _=>hrow) (fun vs hvs=>by rcases hvs with hvs | hvs <;> cases hvs) (fun _ _ h=>h)
 have hne: ∀ (i:Nat) (B0:Option (b9 S.C)),i=B→ai env.bx (B+1) (some (.buf [])) i=env.bx i:=fun i _ e=>aY _ _ (by omega)
 refine nC (env:= { env with bx:=ai env.bx (B+1) (some (.buf [])) }) (i:=B) (B:= .aQ (B+1)) (V:= .ptr B 0) (v:= .pointer (some ⟨w.heap.size,0,none⟩)) (w':=w.alloc (.cells #[.pointer none, .slice none 0 0] t)) (L:=⟨w.heap.size,0,2,0,false,fun _ _=>False⟩) hI ?_ hd (aO.alloc w _ _) ((hne B none rfl).trans n0) (fun b o' hf=>Nat.le_of_eq hf.1.symm)
  (fun _ _ _=>⟨⟨rfl,rfl, ?_, .slice none 0 0,⟨t,e, .pointer none,dx,(by show (w.heap.push _)[w.heap.size]? =some _; simp), .inl rfl⟩,fun l hl=> ?_⟩, ?_⟩) (fun vs hvs=>by rcases hvs with hvs | hvs <;> cases hvs) (fun j hj=> .inl (by simpa [aq,ak] using hj)) hK
 · unfold execOp
   simp only [ho]
   simp [Instr.alloc,zeroValue,typeInfo,h1,h2,h3,newVar,newRow]
 · rw [aY _ _ (show B+1≠B by omega)]
   show ai env.bx (B+1) (some (.buf [])) (B+1)≠none
   rw [aI]; simp
 · rw [aY _ _ (show B+1≠B by omega)] at hl
   have hl:ai env.bx (B+1) (some (.buf [])) (B+1)=some (.buf l):=hl
   rw [aI] at hl
   cases hl
   rw [aY _ _ (show B+1≠B by omega),aI]
   rfl
 · show Value.pointer _=_
   rw [aI]
theorem G_ (hP:aL P S af) (h:Inv P S w0 M0 s0 dq env a w μ) (hd: ∀ d,o.dst=some d→d<a.tmps.size) {B:Nat} {t:TypeId} (ho:o.op= .alloc t)
 (hnew: ∀ u ∈ us,B≤u.1→u.1<B+16→env.bx u.1=none)
 (hl:(match S.ty t with
  | some u=>ax S (.ptr B 0) [(B, .cells (zeroCells S u))]
  | none=>cond (sW S t) (ax S (.ptr B 0) [(B+1, .buf []),(B, .aQ (B+1))]) .fail).leaf (V,us)) (hK:Goal P S w0 M0 s0 dq env a o.dst V us K):o.wp P a w K Q:=by
 split at hl
 · rename_i T ht
   obtain ⟨rfl,rfl⟩:=bg hl
   obtain ⟨⟨i,z,h1,h2,h3,h4,h5⟩,_⟩:=hP.ty t T ht
   obtain ⟨z1,z2,z3⟩:=GK (P:=P) (w:=w) (μ:=μ) hP.tob6 (s:=ay S w0 M0 s0 env.bx μ w) (bx:=env.bx) T
   refine Gw hP h hd (cells:=z.cells) (t:=t) ?_ (hnew (B, .cells (zeroCells S T)) (List.mem_singleton.2 rfl) (Nat.le_refl _) (by show B<B+16; omega)) z2 (by rw [h5]; exact z1) (fun v hv j hj=>by rw [z3 v hv] at hj; simp at hj) hK
   unfold execOp
   simp only [ho]
   simp [Instr.alloc,zeroValue,typeInfo,h1,h3,newVar,newRow]
 · cases hb:sW S t with
   | false=>rw [hb] at hl; exact hl.elim
   | true=>
    rw [hb] at hl
    obtain ⟨rfl,rfl⟩:=bg hl
    exact HC hP h hd ho hnew hb hK
theorem HJ (hP:aL P S af) (h:Inv P S w0 M0 s0 dq env a w μ) (hd: ∀ d,o.dst=some d→d<a.tmps.size) {B:Nat} {t:TypeId} {x:Operand} (ho:o.op= .box t x)
 (hnew: ∀ u ∈ us,B≤u.1→u.1<B+16→env.bx u.1=none)
 (hl:(match S.ty t,aE S env.tm x with
  | some u,some v=>cond (fits S (cellsOf S v) (Ty.sz S u)) (match S.sp t with
   | false=>ax S (.ptr (B) 0) [(B, .cells (cellsOf S v))]
   | true=>match cellsOf S v with
    | .ptr c 0::vs=>ax S (.split B c) [(B, .cells vs)]
    | _=> .fail) .fail
  | _,_=> .fail).leaf (V,us)) (hK:Goal P S w0 M0 s0 dq env a o.dst V us K):o.wp P a w K Q:=by
 split at hl
 · rename_i T v ht hx
   cases hf:fits S (cellsOf S v) (Ty.sz S T) with
   | false=>rw [hf] at hl; exact hl.elim
   | true=>
    rw [hf,cond_true] at hl
    obtain ⟨f1,f2⟩:=x_ hf
    obtain ⟨hv,cT⟩:=aW h hx
    obtain ⟨c1,c2⟩:=xo hP.tob6 f2 hv
    split at hl
    rotate_left
    · split at hl
      · rename_i c vs hcs
        obtain ⟨rfl,rfl⟩:=bg hl
        rw [hcs] at f2 c1 c2
        refine OW hP h hd (cells:=(a.eval x).cells) (t:=t) ?_ (hnew (B, .cells vs) (List.mem_singleton.2 rfl) (Nat.le_refl _) (by show B<B+16; omega)) f2 c1 (fun v hv j hj=>cT j (c2 v hv j hj)) hK
        unfold execOp
        simp only [ho]
        simp [Instr.box,newVar,newRow]
      · exact hl.elim
    obtain ⟨rfl,rfl⟩:=bg hl
    refine Gw hP h hd (cells:=(a.eval x).cells) (t:=t) ?_ (hnew (B, .cells (cellsOf S v)) (List.mem_singleton.2 rfl) (Nat.le_refl _) (by show B<B+16; omega)) f2 c1 (fun v hv j hj=>cT j (c2 v hv j hj)) hK
    unfold execOp
    simp only [ho]
    simp [Instr.box,newVar,newRow]
 · exact hl.elim
end
end Go.Sy
namespace Go.Sy
theorem m5 {w:World} {b o b' o':Nat} {cs vals:List Value} (h:w.rangeAt b' o' cs) (hd:b'≠b∨o'+cs.length≤o∨o+vals.length≤o'):(w.setCells b o vals).rangeAt b' o' cs:=fun j v hj=>by
 have hjl:=(List.getElem?_eq_some_iff.1 hj).1
 rw [World.cell?_setCells_out b vals o w ⟨b',o'+j,none⟩ fun hb _=>by
  have hb:b'=b:=hb
  show o'+j<o∨o+vals.length≤o'+j
  rcases hd with hd | hd | hd
  · exact absurd hb hd
  · omega
  · omega]
 exact h j v hj
theorem EI {w:World} {b o:Nat} {cs vals:List Value} (h:w.rangeAt b o cs) (k:Nat) (hk:k+vals.length≤cs.length):(w.setCells b (o+k) vals).rangeAt b o (cs.take k++vals++cs.drop (k+vals.length)):=fun j v hj=>by
 have hin:=World.cell?_setCells_in b vals (o+k) w (fun i hi=>by
  have :(cs[k+i]?).isSome=true:=by rw [List.getElem?_eq_getElem (by omega)]; rfl
  obtain ⟨u,hu⟩:=Option.isSome_iff_exists.1 this
  rw [Nat.add_assoc,h _ _ hu]; rfl)
 by_cases h1:j<k
 · rw [List.append_assoc,List.getElem?_append_left (by simp; omega),List.getElem?_take,if_pos h1] at hj
   rw [World.cell?_setCells_out b vals (o+k) w ⟨b,o+j,none⟩ fun _ _=> .inl (by show o+j<o+k; omega)]
   exact h j v hj
 · by_cases h2:j<k+vals.length
   · rw [List.append_assoc,List.getElem?_append_right (by simp; omega),List.getElem?_append_left (by simp; omega)] at hj
     have hlen:(List.take k cs).length=k:=by simp; omega
     rw [hlen] at hj
     have :=hin (j - k) (by omega)
     rw [show o+k+(j - k)=o+j from by omega] at this
     rw [this, ← hj,List.getElem?_eq_getElem]
   · rw [List.append_assoc,List.getElem?_append_right (by simp; omega),List.getElem?_append_right (by simp; omega),List.getElem?_drop] at hj
     have hlen:(List.take k cs).length=k:=by simp; omega
     rw [hlen] at hj
     rw [World.cell?_setCells_out b vals (o+k) w ⟨b,o+j,none⟩ fun _ _=> .inr (by show o+k+vals.length≤o+j; omega)]
     rw [show k+vals.length+(j - k - vals.length)=j from by omega] at hj
     exact h j v hj
theorem qm {w:World} {b o:Nat} {vals:List Value} (ht:w.there b o vals.length):(w.setCells b o vals).rangeAt b o vals:=fun j v hj=>by
 have hjl:=(List.getElem?_eq_some_iff.1 hj).1
 rw [World.cell?_setCells_in b vals o w (fun i hi=>(ht i hi).1) j hjl, ← hj,List.getElem?_eq_getElem]
theorem nv {w:World} {b o n b' o':Nat} {vals:List Value} (h:w.there b o n) (hs:w.there b' o' vals.length):(w.setCells b' o' vals).there b o n:=fun j hj=>by
 have hc:=aO.setCells w b' o' vals hs
 have hlt:b<w.heap.size:=by
  obtain ⟨v,hv⟩:=Option.isSome_iff_exists.1 (h j hj).1
  exact World.block_lt_of_cell? w _ hv
 exact ⟨hc.some _ _ hlt (h j hj).1,(World.frozen?_setCells ..).trans (h j hj).2⟩
section
variable {P:Program} {S:aK} {af:Nat→Nat}
variable {w0:World} {M0 s0:St} {dq:List Deferred} {env:Env S.C} {a:Act} {w:World} {μ:Nat→Loc} {K:Act→World→Prop} {Q:Exit→Act→World→Prop} {o:Oper} {V:V S.C} {us:aA S.C}
theorem K_ {s:St} {bx:Bx S.C} {i:Nat} {L:Loc} {B:b9 S.C} (hb:bx i=some B) (hl:live S bx i) (hB: ∀ l,B≠ .buf l) (h:RB P S w s μ bx L B):w.there L.b L.o L.n:=by
 unfold live at hl
 rw [hb] at hl
 cases B with
 | cells vs=>exact h.2.2.1
 | arr e l=>exact h.2.2.2.1
 | aF u l q=>exact h.2.2.2.1
 | tail=>exact h
 | bI vs=>exact hl.elim
 | bn e l=>exact hl.elim
 | dead=>exact hl.elim
 | aQ j=>
  obtain ⟨h1,h2,_,v,⟨T,e,p,_,h3,_⟩,_⟩:=h
  intro k hk
  rw [h1,h2] at *
  rw [Lib.cell_of_heap h3,Lib.frozen_of_heap h3]
  refine ⟨by simp; omega,rfl⟩
 | buf l=>exact absurd rfl (hB l)
theorem Inv.write (h:Inv P S w0 M0 s0 dq env a w μ) {i:Nat} {B0 B':b9 S.C} (hi:env.bx i=some B0) (hl0:live S env.bx i) (I8: ∀ l,B0≠ .buf l) {o':Nat} {vals:List Value}
 (h1:(μ i).o≤o') (h2:o'+vals.length≤(μ i).o+(μ i).n) (hc:cl S (μ i) (μ i) B0 B')
 (hb:aV w (ay S w0 M0 s0 env.bx μ w) (w.setCells (μ i).b o' vals) (ay S w0 M0 s0 (ai env.bx i (some B')) μ (w.setCells (μ i).b o' vals))→
  (∀ V v,bl P S w (ay S w0 M0 s0 env.bx μ w) μ env.bx V v→(∀ j ∈ ak S V,env.bx j≠none)→
   bl P S (w.setCells (μ i).b o' vals) (ay S w0 M0 s0 (ai env.bx i (some B')) μ (w.setCells (μ i).b o' vals)) μ (ai env.bx i (some B')) V v)→
  RB P S (w.setCells (μ i).b o' vals) (ay S w0 M0 s0 (ai env.bx i (some B')) μ (w.setCells (μ i).b o' vals)) μ (ai env.bx i (some B')) (μ i) B')
 (hr: ∀ vs,(B'= .cells vs∨B'= .bI vs)→ ∀ v ∈ vs, ∀ j ∈ ak S v,env.bx j≠none):
 Inv P S w0 M0 s0 dq { env with bx:=ai env.bx i (some B') } a (w.setCells (μ i).b o' vals) μ:=by
 have p9:=jQ (K_ hi hl0 I8 (h.bw i B0 hi)) h1 h2
 have hU: ∀ j, ¬ j=i→ai env.bx i (some B') j=env.bx j∧μ j=μ j:=fun j hj=>⟨aY _ _ hj,rfl⟩
 have hT: ∀ b o,(b=(μ i).b∧o'≤o∧o<o'+vals.length)→b<w.heap.size→ ∃ j,j=i∧live S env.bx j∧(μ j).au b o:=fun b o sr _=>
  ⟨i,rfl,hl0, .inl ⟨sr.1,by omega,by omega⟩⟩
 have hf: ∀ j,j=i→live S (ai env.bx i (some B')) j→ ∀ b o,(μ j).au b o→w.heap.size≤b∨ ∃ k,k=i∧live S env.bx k∧(μ k).au b o:=by
  rintro j rfl _ b o hfo
  exact .inr ⟨j,rfl,hl0,hfo⟩
 have j8: ∀ j B0,env.bx j=some B0→ ∃ B1,ai env.bx i (some B') j=some B1∧cl S (μ j) (μ j) B0 B1:=by
  intro j B1 hj
  by_cases e:j=i
  · subst e
    rw [hi] at hj
    cases hj
    exact ⟨B',aI _ _ _,hc⟩
  · exact ⟨B1,by rw [aY _ _ e]; exact hj,cl.refl S _ _⟩
 have hw:=aO.setCells w (μ i).b o' vals p9
 have hl:=h.later (U:=fun j=>j=i) hw hT hU hf
 refine h.step (U:=fun j=>j=i) hw hT hU hf j8 ?_ ?_ ?_ ?_
 · rintro j k rfl rfl hne; exact absurd rfl hne
 · rintro j B1 rfl jr
   rw [aI] at jr
   cases jr
   exact hb hl fun V v hv hr=>bl.step P S hl j8 hr hv
 · rintro j vs rfl hvs v hv k hk
   rw [aI] at hvs
   have h0:=hr vs (by rcases hvs with hvs | hvs <;> · cases hvs; simp) v hv k hk
   obtain ⟨B1,jr⟩:=Option.ne_none_iff_exists'.1 h0
   obtain ⟨B2,I7,_⟩:=j8 k B1 jr
   rw [I7]; simp
 · rintro j rfl sA
   have sA:live S (ai env.bx j (some B')) j:=sA
   rw [aI]
   have hx:=h.ext j hl0
   rw [hi] at hx
   rcases hx with hx | hx
   · cases B0 <;> simp only [kY] at hx
     cases B' <;> simp only [cl] at hc <;> first | exact .inl trivial | (unfold live at sA; rw [aI] at sA; exact sA.elim)
   · exact .inr hx
theorem run_store (hP:aL P S af) {t:Nat} {T:Ty} (ht:S.ty t=some T) {b o':Nat} {v:Value} (hs:v.cells.size=Ty.sz S T) (bX:w.there b o' v.cells.toList.length) (h1: ∀ c ∈ v.cells.toList,c.oneCell'=true):
 (Instr.storeAt t (.pointer (some ⟨b,o',none⟩)) v).run P w= .ok () (w.setCells b o' v.cells.toList):=by
 obtain ⟨⟨i,z,hi,hsz,_⟩,_⟩:=hP.ty t T ht
 have h2:=run_storeAt_mid (P:=P) w b o' t v.cells (by simpa using bX) (by rw [hi]; simp [hsz,hs]) (Array.all_eq_true_iff_forall_mem.2 fun c hc=>h1 c (by simpa using hc))
 exact h2
theorem Gz (h:Inv P S w0 M0 s0 dq env a w μ) (hd: ∀ d,o.dst=some d→d<a.tmps.size) {w':World} {us:aA S.C}
 (hrun:(execOp a.eval o).run P w= .ok .skip w') (hI:Inv P S w0 M0 s0 dq { env with bx:=ah env.bx us } a w' μ)
 (hK:Goal P S w0 M0 s0 dq env a o.dst .skip us K):o.wp P a w K Q:=by
 unfold Oper.wp
 rw [hrun]
 refine hK _ w' μ (hI.put hd (V:= .skip) (v:=undef) rfl (by simp [aq,ak])) ?_
 cases o.dst <;> simp [Act.put]
theorem FC {vs ws:List (Sy.V S.C)} {off:Nat} {p:Sy.V S.C→Bool} (h1:vs.all p=true) (h2:ws.all p=true):(setCells S vs off ws).all p=true:=by
 unfold Sy.setCells
 rw [List.all_eq_true] at *
 intro x hx
 simp only [List.mem_append] at hx
 rcases hx with (hx | hx) | hx
 · exact h1 x (List.mem_of_mem_take hx)
 · exact h2 x hx
 · exact h1 x (List.mem_of_mem_drop hx)
theorem FE {vs ws:List (Sy.V S.C)} {off:Nat} {x:Sy.V S.C} (hx:x ∈ setCells S vs off ws):x ∈ vs∨x ∈ ws:=by
 unfold Sy.setCells at hx
 simp only [List.mem_append] at hx
 rcases hx with (hx | hx) | hx
 · exact .inl (List.mem_of_mem_take hx)
 · exact .inr hx
 · exact .inl (List.mem_of_mem_drop hx)
theorem FD {vs ws:List (Sy.V S.C)} {off:Nat} (h:off+ws.length≤vs.length):(setCells S vs off ws).length=vs.length:=by
 unfold Sy.setCells; simp; omega
theorem AZ {s:St} {bx:Bx S.C} {vs ws:List (Sy.V S.C)} {cs ds:List Value} {off:Nat} (h1:aB P S w s μ bx vs cs) (h2:aB P S w s μ bx ws ds):
 aB P S w s μ bx (setCells S vs off ws) (cs.take off++ds++cs.drop (off+ds.length)):=by
 unfold Sy.setCells
 rw [aB.length P S h2]
 exact aB.append P S (aB.append P S (h1.take P S off) h2) (h1.drop P S _)
theorem rO {bx aa:Bx S.C} {t:Ty} {V:Sy.V S.C} (h: ∀ i ∈ aq S V,aa i=bx i):datum S aa t V=datum S bx t V∧cS S aa V=cS S bx V:=by
 have pH: ∀ (W:Sy.V S.C) (t:Ty),(∀ i ∈ ak S W,aa i=bx i)→cH S aa t W=cH S bx t W:=by
  intro W t hW
  cases W with
  | az b=>simp only [cH]; rw [hW b (by simp [ak])]
  | _=>rfl
 have CM: ∀ (W:Sy.V S.C),(∀ i ∈ ak S W,aa i=bx i)→cu S aa W=cu S bx W:=by
  intro W hW
  cases W with
  | az b=>simp only [cu]; rw [hW b (by simp [ak])]
  | _=>rfl
 have N0: ∀ (ts:List Ty) (vs:List (Sy.V S.C)),(∀ v ∈ vs, ∀ i ∈ ak S v,aa i=bx i)→gJ S aa ts vs=gJ S bx ts vs:=by
  intro ts
  induction ts with
  | nil=>intro vs _; rfl
  | cons t ts ih=>
   intro vs hvs
   cases vs with
   | nil=>rfl
   | cons v vs=>
    simp only [gJ]
    rw [pH v t (hvs v (by simp)),ih vs fun v hv=>hvs v (by simp [hv])]
 have imp_eq: ∀ (t:Ty) (vs:List (Sy.V S.C)),(∀ v ∈ vs, ∀ i ∈ ak S v,aa i=bx i)→gT S aa t vs=gT S bx t vs:=by
  intro t vs hvs
  cases t with
  | st u=>simp only [gT]; rw [N0 _ vs hvs]
  | _=>
   cases vs with
   | nil=>rfl
   | cons v vs=>exact pH v _ (hvs v (by simp))
 cases V with
 | agg u vs=>
  have hvs: ∀ v ∈ vs, ∀ i ∈ ak S v,aa i=bx i:=fun v hv i hi=>h i (by simp only [aq,List.mem_flatMap]; exact ⟨v,hv,hi⟩)
  refine ⟨?_, ?_⟩
  · cases t <;> simp only [datum]
    rw [imp_eq _ vs hvs]
  · simp only [cS]
    clear h
    induction vs with
    | nil=>rfl
    | cons v vs ih=>
     simp only [List.flatMap_cons]
     rw [CM v (hvs v (by simp)),ih fun v hv=>hvs v (by simp [hv])]
 | az b=>exact ⟨by cases t <;> first | rfl | exact pH (.az b) _ h,CM (.az b) h⟩
 | _=>exact ⟨by cases t <;> rfl,rfl⟩
theorem FT (hP:aL P S af) (h:Inv P S w0 M0 s0 dq env a w μ) (hd: ∀ d,o.dst=some d→d<a.tmps.size) {t:TypeId} {x y:Operand} {ids:List Nat} (ho:o.op= .store t x y)
 (cE: ∀ V,aE S env.tm y=some V→ ∀ i ∈ aq S V,restrict S env.bx ids i=env.bx i)
 (hl:(match S.ty t,aE S env.tm x,aE S env.tm y with
  | some u,some p,some v=>tS S u (restrict S env.bx ids) v p
  | _,_,_=> .fail).leaf (V,us)) (hK:Goal P S w0 M0 s0 dq env a o.dst V us K):o.wp P a w K Q:=by
 split at hl
 · rename_i T p v ht hx hy
   obtain ⟨hp,_⟩:=aW h hx
   obtain ⟨hv,cT⟩:=aW h hy
   cases p with
   | ptr b off=>
    simp only [tS] at hl
    split at hl
    · rename_i vs hb
      have hb:=dG hb
      cases hf:fits S (cellsOf S v) (Ty.sz S T)&&Nat.ble (off+Ty.sz S T) vs.length with
      | false=>rw [hf] at hl; exact hl.elim
      | true=>
       rw [hf] at hl
       obtain ⟨rfl,rfl⟩:=bg hl
       rw [Bool.and_eq_true] at hf
       obtain ⟨f1,f2⟩:=x_ hf.1
       have f3:=Nat.le_of_ble_eq_true hf.2
       obtain ⟨c1,c2⟩:=xo hP.tob6 f2 hv
       have Ig:=aB.length P S c1
       obtain ⟨b1,b2,b3,cs,b4,b5⟩:=h.bw b _ hb
       have OZ:=aB.length P S b5
       have bp:live S env.bx b:=by unfold live; rw [hb]; trivial
       have hle:off+(a.eval y).cells.toList.length≤cs.length:=by omega
       have bX:w.there (μ b).b ((μ b).o+off) (a.eval y).cells.toList.length:=jQ b3 (by omega) (by omega)
       have hp:a.eval x= .pointer (some ⟨(μ b).b,(μ b).o+off,none⟩):=hp
       have hrun:(execOp a.eval o).run P w= .ok .skip (w.setCells (μ b).b ((μ b).o+off) (a.eval y).cells.toList):=by
        unfold execOp
        simp only [ho,hp]
        have :=run_store hP ht (b:=(μ b).b) (o':=(μ b).o+off) (v:=a.eval y) (w:=w) (by rw [← f1, ← Ig]; simp) bX (qQ f2 c1)
        simp [this]
       refine Gz h hd hrun ?_ hK
       show Inv P S w0 M0 s0 dq { env with bx:=ai env.bx b (some (.cells (setCells S vs off (cellsOf S v)))) } a _ μ
       refine h.write hb bp (fun _ e=>nomatch e) (by omega) (by omega) rfl (fun hl lU=>⟨FC b1 f2,by rw [FD (by omega)]; exact b2,nv b3 bX,_,EI b4 off hle, ?_⟩) fun ws ij u hu j hj=> ?_
       · refine AZ (aB.map lU (fun v hv=>h.jF b vs (.inl hb) v hv) b5) (aB.map lU (fun u hu j hj=>cT j (c2 u hu j hj)) c1)
       · rcases ij with ij | ij
         · cases ij
           rcases FE hu with hu | hu
           · exact h.jF b vs (.inl hb) u hu j hj
           · exact cT j (c2 u hu j hj)
         · cases ij
    · exact hl.elim
   | cI b i off=>
    simp only [tS] at hl
    split at hl
    · rename_i e l hb
      have hb:=dG hb
      split at hl
      · rename_i z hz
        obtain ⟨d1,d2⟩:=rO (t:=T) (cE v hy)
        rw [d1] at hz
        rw [d2] at hl
        cases hf:Nat.ble (off+Ty.sz S T) (Ty.sz S e)&&(cS S env.bx v).all (fun u=> !Nat.beq u.1 b) with
        | false=>rw [hf] at hl; exact hl.elim
        | true=>
         rw [hf,cond_true] at hl
         rw [Bool.and_eq_true] at hf
         split at hl
         · rename_i e' he'
           obtain ⟨rfl,rfl⟩:=bg hl
           have f3:=Nat.le_of_ble_eq_true hf.1
           obtain ⟨k1,r1⟩:=uL hP.tob6 h (Tk.refl S env.bx) hv hz
           have h1:=h.tk hP.tob6 k1
           have cD:ah env.bx (cS S env.bx v) b=some (.arr e l):=by
            rw [o7 _ _ fun u hu=> ?_]
            · exact hb
            · have :=List.all_eq_true.1 hf.2 u hu
              intro e
              rw [e,Nat.beq_refl] at this
              cases this
           obtain ⟨_,sH⟩:=h1.iT 0 |> fun _=>(show RV P S w (ay S w0 M0 s0 env.bx μ w) μ env.bx (.cI b i off) (a.eval x) from hp)
           obtain ⟨i0,i1,sI⟩:=sH e l (.inl hb)
           obtain ⟨g1,g2,g3,g4,g5⟩:=h1.bw b _ cD
           have n_:l[i.toNat]? =some (gm S e l i):=nV i0 (by omega)
           obtain ⟨ds,Iq,Cg,n,Ir⟩:=g5 _ _ n_
           have r2:bV S w (ay S w0 M0 s0 (ah env.bx (cS S env.bx v)) μ w) T z (a.eval y):=by
            refine r1.mono S fun b' o' ⟨q1,q2,q3⟩=>⟨⟨q1,q2,fun j hj=> ?_⟩,rfl⟩
            rcases q3 j ((dD S (k1.c_ hj)).1 hj) with ⟨_,_,hq⟩ | hq
            · unfold live at hj; rw [hq] at hj; exact hj.elim
            · exact hq
           obtain ⟨m,r3⟩:=r2.2
           have hvl:=r3.length S
           have hrow:(i.toNat+1)*Ty.sz S e≤(μ b).cap*Ty.sz S e:=Nat.mul_le_mul_right _ (by omega)
           rw [Nat.add_mul,Nat.one_mul] at hrow
           have bp:live S (ah env.bx (cS S env.bx v)) b:=by unfold live; rw [cD]; trivial
           have bX:w.there (μ b).b ((μ b).o+(i.toNat*Ty.sz S e+off)) (a.eval y).cells.toList.length:=jQ g4 (by omega) (by omega)
           obtain ⟨x1,x2,x3⟩:=kQ (P:=P) hP.tob6 μ (ah env.bx (cS S env.bx v)) r3
           obtain ⟨y1,y2,y3⟩:=kQ (P:=P) hP.tob6 μ (ah env.bx (cS S env.bx v)) Ir
           have Pr:=aB.length P S x1
           have Pt:=aB.length P S y1
           have hrun:(execOp a.eval o).run P w= .ok .skip (w.setCells (μ b).b ((μ b).o+(i.toNat*Ty.sz S e+off)) (a.eval y).cells.toList):=by
            unfold execOp
            rw [show (μ b).o+i.toNat*Ty.sz S e+off=(μ b).o+(i.toNat*Ty.sz S e+off) from by omega] at sI
            simp only [ho,sI]
            have :=run_store hP ht (b:=(μ b).b) (o':=(μ b).o+(i.toNat*Ty.sz S e+off)) (v:=a.eval y) (w:=w) (by rw [← hvl]; simp) bX (qQ x2 x1)
            simp [this]
           refine Gz h hd hrun ?_ hK
           rw [fA]
           show Inv P S w0 M0 s0 dq { env with bx:=ai (ah env.bx (cS S env.bx v)) b (some (.arr e (l.set i.toNat e'))) } a _ μ
           refine h1.write (B':= .arr e (l.set i.toNat e')) cD bp (fun _ e=>nomatch e) (by omega) (by omega) ⟨rfl,rfl,by simp⟩ (fun hl lU=>⟨g1,g2,by simpa using g3,nv g4 bX,fun k q hk=> ?_⟩) fun ws ij=>by rcases ij with ij | ij <;> cases ij
           by_cases ek:i.toNat=k
           · subst ek
             rw [List.getElem?_set_self (by omega)] at hk
             cases hk
             rw [show (μ b).o+(i.toNat*Ty.sz S e+off)=(μ b).o+i.toNat*Ty.sz S e+off from by omega] at hl ⊢
             refine ⟨_, ?_,EI (cs:=ds) (vals:=(a.eval y).cells.toList) Cg off (by omega), ?_⟩
             · rw [List.length_append,List.length_append,List.length_take,List.length_drop]; omega
             · obtain ⟨q,hq⟩:=DL (P:=P) hP.tob6 (AZ (off:=off) y1 x1) he'
               refine ⟨q, ?_⟩
               have :=hq.mono S hl (Nat.le_refl _)
               rw [List.take_of_length_le (by rw [List.length_append,List.length_append,List.length_take,List.length_drop]; omega)] at this
               exact this
           · rw [List.getElem?_set_ne ek] at hk
             obtain ⟨ds',p1,p2,p3,p4⟩:=g5 k q hk
             refine ⟨ds',p1,m5 p2 (.inr ?_),p3,p4.mono S hl (Nat.le_refl _)⟩
             rcases Nat.lt_or_gt_of_ne ek with hlt | hlt
             · right
               have :(i.toNat+1)*Ty.sz S e≤k*Ty.sz S e:=Nat.mul_le_mul_right _ (by omega)
               rw [Nat.add_mul,Nat.one_mul] at this
               omega
             · left
               have :(k+1)*Ty.sz S e≤i.toNat*Ty.sz S e:=Nat.mul_le_mul_right _ (by omega)
               rw [Nat.add_mul,Nat.one_mul] at this
               omega
         · exact hl.elim
      · exact hl.elim
    · exact hl.elim
   | _=>exact hl.elim
 · exact hl.elim
end
end Go.Sy
namespace Go.Sy
section
variable {P:Program} {S:aK} {af:Nat→Nat}
variable {w0:World} {M0 s0:St} {dq:List Deferred} {env:Env S.C} {a:Act} {w:World} {μ:Nat→Loc} {K:Act→World→Prop} {Q:Exit→Act→World→Prop} {o:Oper} {V:V S.C} {us:aA S.C}
theorem k7 {α β:Type} {f:α→Option β} {x:α} {r:List α} {ys:List β} (h:(x::r).mapM f=some ys): ∃ y zs,f x=some y∧r.mapM f=some zs∧ys=y::zs:=by
 rw [List.mapM_cons] at h
 cases hx:f x with
 | none=>rw [hx] at h; cases h
 | some y=>
  rw [hx] at h
  cases hr:r.mapM f with
  | none=>rw [hr] at h; cases h
  | some zs=>rw [hr] at h; cases h; exact ⟨y,zs,rfl,rfl,rfl⟩
def uu (P:Program) (S:aK) (w:World) (s:St) (μ:Nat→Loc) (bx:Bx S.C):List (Nat×Sy.V S.C)→List (Nat×Value)→Prop
 | [],qs=>qs= []
 | p::ps,qs=> ∃ v r,qs=(p.1,v)::r∧RV P S w s μ bx p.2 v∧uu P S w s μ bx ps r
theorem zQ (h:Inv P S w0 M0 s0 dq env a w μ): ∀ {parts:List (Nat×Operand)} {ps:List (Nat×Sy.V S.C)},parts.mapM (fun (p:Nat×Operand)=>(aE S env.tm p.2).map fun v=>(p.1,v))=some ps→
 uu P S w (ay S w0 M0 s0 env.bx μ w) μ env.bx ps (parts.map fun (i,x)=>(i,a.eval x))∧ ∀ p ∈ ps, ∃ x i,(i,x) ∈ parts∧aE S env.tm x=some p.2
 | [],ps,hp=>by cases hp; exact ⟨rfl,by simp⟩
 | (i,x)::r,ps,hp=>by
  obtain ⟨y,zs,h1,h2,rfl⟩:=k7 hp
  obtain ⟨h3,h4⟩:=zQ h h2
  cases hx:aE S env.tm x with
  | none=>rw [hx] at h1; cases h1
  | some v=>
   rw [hx] at h1
   cases h1
   refine ⟨⟨a.eval x,_,rfl,(aW h hx).1,h3⟩,fun p hp=> ?_⟩
   rcases List.mem_cons.1 hp with rfl | hp
   · exact ⟨x,i,by simp,hx⟩
   · obtain ⟨x',i',h5,h6⟩:=h4 p hp
     exact ⟨x',i',by simp [h5],h6⟩
theorem ux (h:Inv P S w0 M0 s0 dq env a w μ): ∀ {xs:List Operand} {vs:List (Sy.V S.C)},xs.mapM (aE S env.tm)=some vs→
 dL P S w (ay S w0 M0 s0 env.bx μ w) μ env.bx vs (xs.map a.eval)∧ ∀ v ∈ vs, ∃ x ∈ xs,aE S env.tm x=some v
 | [],vs,hp=>by cases hp; exact ⟨rfl,by simp⟩
 | x::r,ps,hp=>by
  obtain ⟨y,zs,h1,h2,rfl⟩:=k7 hp
  obtain ⟨h3,h4⟩:=ux h h2
  refine ⟨⟨a.eval x,_,rfl,(aW h h1).1,h3⟩,fun p hp=> ?_⟩
  rcases List.mem_cons.1 hp with rfl | hp
  · exact ⟨x,by simp,h1⟩
  · obtain ⟨x',h5,h6⟩:=h4 p hp
    exact ⟨x',by simp [h5],h6⟩
theorem CL (off:Nat): ∀ (l:List Value) (k:Nat) (cells:Array Value),off+k+l.length≤cells.size→
 ((l.zipIdx k).foldl (fun cs p=>cs.setIfInBounds (off+p.2) p.1) cells).toList=cells.toList.take (off+k)++l++cells.toList.drop (off+k+l.length)
 | [],k,cells,h=>by simp
 | v::l,k,cells,h=>by
  simp only [List.zipIdx_cons,List.foldl_cons]
  simp only [List.length_cons] at h
  rw [CL off l (k+1) _ (by simp; omega)]
  have hc:(cells.setIfInBounds (off+k) v).toList=cells.toList.set (off+k) v:=by simp
  have hlen:cells.toList.length=cells.size:=by simp
  rw [hc,show off+(k+1)=off+k+1 from rfl,List.drop_set_of_lt (by omega)]
  have ht:(cells.toList.set (off+k) v).take (off+k+1)=cells.toList.take (off+k)++ [v]:=by
   rw [List.take_add_one,List.take_set_of_le (Nat.le_refl _),List.getElem?_set_self (by omega)]
   rfl
  rw [ht,List.length_cons]
  simp [show off+k+1+l.length=off+k+(l.length+1) from by omega]
theorem xZ (place:Nat→Option (Nat×Nat)) {i off size:Nat} (hp:place i=some (off,size)) {v:Value} (hv:v.cells.size=size) {cells:Array Value} (hle:off+size≤cells.size) (rest:List (Nat×Value)):
 ∃ cells',cells'.toList=cells.toList.take off++v.cells.toList++cells.toList.drop (off+v.cells.toList.length)∧Instr.fill place cells ((i,v)::rest)=Instr.fill place cells' rest:=by
 refine ⟨v.cells.zipIdx.foldl (fun cs (c,j)=>cs.setIfInBounds (off+j) c) cells, ?_, ?_⟩
 · have :=CL off v.cells.toList 0 cells (by simp; omega)
   simp only [Nat.add_zero] at this
   rw [← this]
   congr 1
   rw [← Array.foldl_toList]
   simp
 · simp only [Instr.fill,hp]
   rw [if_neg]
   simp only [hv]
   simp
   omega
theorem CE (hS:b6 S) {s:St} {bx:Bx S.C} {u:Nat} {place:Nat→Option (Nat×Nat)} (hp: ∀ f o T,S.eR u f=some (o,T)→place f=some (o,Ty.sz S T)):
 ∀ {ps:List (Nat×Sy.V S.C)} {qs:List (Nat×Value)} {vs vs':List (Sy.V S.C)} {cells:Array Value},uu P S w s μ bx ps qs→aB P S w s μ bx vs cells.toList→vs.all (bH S)=true→rX S u vs ps=some vs'→
 ∃ cells',Instr.fill place cells qs=some cells'∧aB P S w s μ bx vs' cells'.toList∧vs'.all (bH S)=true∧vs'.length=vs.length∧ ∀ v ∈ vs',v ∈ vs∨ ∃ p ∈ ps, ∀ j ∈ ak S v,j ∈ aq S p.2
 | [],qs,vs,vs',cells,h1,h2,h3,h4=>by
  cases h1; cases h4
  exact ⟨cells,rfl,h2,h3,rfl,fun v hv=> .inl hv⟩
 | (i,W)::ps,qs,vs,vs',cells,⟨v,r,hq,hv,hr⟩,h2,h3,h4=>by
  subst hq
  simp only [rX] at h4
  split at h4
  · rename_i off T hf
    cases hc:fits S (cellsOf S W) (Ty.sz S T)&&Nat.ble (off+Ty.sz S T) vs.length with
    | false=>rw [hc] at h4; cases h4
    | true=>
     rw [hc,cond_true] at h4
     rw [Bool.and_eq_true] at hc
     obtain ⟨f1,f2⟩:=x_ hc.1
     have f3:=Nat.le_of_ble_eq_true hc.2
     obtain ⟨c1,c2⟩:=xo hS f2 hv
     have l1:=aB.length P S c1
     have l2:=aB.length P S h2
     obtain ⟨cells',e1,e2⟩:=xZ place (hp _ _ _ hf) (v:=v) (cells:=cells) (by rw [← f1, ← l1]; simp) (by rw [← l2] at f3; simpa using f3) r
     obtain ⟨xm,g1,g2,g3,g4,g5⟩:=CE hS hp (cells:=cells') hr (by rw [e1]; exact AZ h2 c1) (FC h3 f2) h4
     refine ⟨xm,by rw [e2]; exact g1,g2,g3,by rw [g4,FD (by omega)],fun v hv=> ?_⟩
     rcases g5 v hv with hv | ⟨p,hp,hv⟩
     · rcases FE hv with hv | hv
       · exact .inl hv
       · exact .inr ⟨(i,W),by simp,c2 v hv⟩
     · exact .inr ⟨p,by simp [hp],hv⟩
  · cases h4
theorem HM (hP:aL P S af) (h:Inv P S w0 M0 s0 dq env a w μ) (hd: ∀ d,o.dst=some d→d<a.tmps.size) {t:TypeId} {parts:Array (Nat×Operand)} (ho:o.op= .build t parts)
 (hl:(match S.ty t with
  | some (.st u)=>match parts.toList.mapM (fun (p:Nat×Operand)=>(aE S env.tm p.2).map fun v=>(p.1,v)) with
   | some ps=>match rX S u (zeroCells S (.st u)) ps with
    | some vs=>ax S (.agg u vs) []
    | none=> .fail
   | none=> .fail
  | _=> .fail).leaf (V,us)) (hK:Goal P S w0 M0 s0 dq env a o.dst V us K):o.wp P a w K Q:=by
 split at hl
 · rename_i u ht
   split at hl
   · rename_i ps hps
     split at hl
     · rename_i vs hvs
       obtain ⟨rfl,rfl⟩:=bg hl
       obtain ⟨p1,p2⟩:=zQ h hps
       obtain ⟨⟨i,z,h1,h2,h3,h4,h5⟩,⟨Pg,Jn⟩,vo⟩:=hP.ty t _ ht
       obtain ⟨b0,hb0⟩:=Option.isSome_iff_exists.1 Jn
       obtain ⟨z1,z2,z3⟩:=GK (P:=P) (w:=w) (μ:=μ) hP.tob6 (s:=ay S w0 M0 s0 env.bx μ w) (bx:=env.bx) (.st u)
       have Jo: ∃ place:Nat→Option (Nat×Nat),(∀ qs,P.built t qs=Instr.fill place z.cells qs)∧ ∀ f o T,S.eR u f=some (o,T)→place f=some (o,Ty.sz S T):=by
        cases har:S.ar t with
        | some p=>
         rw [har] at vo
         obtain ⟨te,hu,hte,_,hfl⟩:=vo
         obtain ⟨⟨ie,ze,e1,e2,_⟩,_⟩:=hP.ty te _ hte
         refine ⟨fun i=>some (i*ie.size,ie.size),fun qs=> ?_,fun f o' T hf=> ?_⟩
         · unfold Program.built
           simp only [h1,hu,h3,e1]
         · obtain ⟨rfl,rfl,_⟩:=hfl f o' T hf
           simp [e2]
        | none=>
        rw [har] at vo
        obtain ⟨fs,hu,lX⟩:=vo
        unfold Program.built at hb0
        simp only [h1,hu,h3] at hb0
        cases iZ:fs.toList.mapM (fun f=>(P.info? f.type).map fun i=>(f.offset,i.size)) with
        | none=>rw [iZ] at hb0; cases hb0
        | some places=>
         refine ⟨(places.toArray[·]?),fun qs=> ?_,fun f o' T hf=> ?_⟩
         · unfold Program.built
           simp only [h1,hu,h3,iZ]
         · obtain ⟨fd,d1,d2,d3,d4,d5⟩:=lX f o' T hf
           obtain ⟨⟨i',z',e1,e2,_⟩,_⟩:=hP.ty _ _ d3
           have gD: ∀ (l:List Field) (ys:List (Nat×Nat)) (k:Nat) (fd:Field),l.mapM (fun f=>(P.info? f.type).map fun i=>(f.offset,i.size))=some ys→l[k]? =some fd→ ∃ y,ys[k]? =some y∧(P.info? fd.type).map (fun i=>(fd.offset,i.size))=some y:=by
            intro l
            induction l with
            | nil=>intro ys k fd _ hk; simp at hk
            | cons x l ih=>
             intro ys k fd hys hk
             obtain ⟨y,zs,q1,q2,rfl⟩:=k7 hys
             cases k with
             | zero=>simp at hk; subst hk; exact ⟨y,by simp,q1⟩
             | succ k=>
              obtain ⟨y',q3,q4⟩:=ih zs k fd q2 (by simpa using hk)
              exact ⟨y',by simpa using q3,q4⟩
           obtain ⟨y,q1,q2⟩:=gD fs.toList places f fd iZ (by simpa using d1)
           rw [e1] at q2
           simp at q2
           simp [q1, ← q2,d2,e2]
       obtain ⟨place,g1,g2⟩:=Jo
       obtain ⟨cells',k1,k2,k3,k4,k5⟩:=CE hP.tob6 g2 (cells:=z.cells) p1 (by rw [h5]; exact z1) z2 hvs
       refine wp_pure (V:= .agg u vs) h (v:= .agg cells') ?_ hd ⟨cells',rfl, ?_,k3,k2⟩ (fun j hj=> ?_) hK
       · unfold execOp
         simp only [ho]
         have :=run_build (P:=P) w t (parts.map fun (i,x)=>(i,a.eval x)) cells' (by rw [g1,Array.toList_map]; exact k1)
         simp [this]
       · rw [k4]; simp [zeroCells]
       · simp only [aq,List.mem_flatMap] at hj
         obtain ⟨v,hv,hj⟩:=hj
         rcases k5 v hv with hv | ⟨p,hp,hv⟩
         · rw [z3 v hv] at hj; simp at hj
         · obtain ⟨x,i',_,hx⟩:=p2 p hp
           exact (aW h hx).2 j (hv j hj)
     · exact hl.elim
   · exact hl.elim
 · exact hl.elim
end
end Go.Sy
namespace Go.Sy
section
variable {P:Program} {S:aK} {af:Nat→Nat}
variable {w0:World} {M0 s0:St} {dq:List Deferred} {env:Env S.C} {a:Act} {w:World} {μ:Nat→Loc} {K:Act→World→Prop} {Q:Exit→Act→World→Prop} {o:Oper} {V:V S.C} {us:aA S.C}
def cG (bx:Bx S.C) (us:aA S.C):Prop:= ∀ u ∈ us, ∃ e l,u.2= .bn e l∧cQ S (bx u.1) e l
theorem cG.append {bx:Bx S.C} {us vs:aA S.C} (h1:cG bx us) (h2:cG bx vs):cG bx (us++vs):=fun u hu=>(List.mem_append.1 hu).elim (h1 u) (h2 u)
theorem cG.at {bx:Bx S.C} : ∀ {us:aA S.C} (aa:Bx S.C),cG bx us→ ∀ i,(ah aa us i=aa i∧ ∀ u ∈ us,u.1≠i)∨((∃ u ∈ us,u.1=i)∧ ∃ e l,cQ S (bx i) e l∧ah aa us i=some (.bn e l))
 | [],aa,_,i=> .inl ⟨rfl,by simp⟩
 | u::us,aa,h,i=>by
  rcases cG.at (us:=us) (ai aa u.1 (some u.2)) (fun v hv=>h v (by simp [hv])) i with ⟨h1,h2⟩ | ⟨⟨v,hv,h1⟩,h2⟩
  · by_cases e:u.1=i
    · right
      refine ⟨⟨u,by simp,e⟩, ?_⟩
      obtain ⟨e',l,h3,h4⟩:=h u (by simp)
      refine ⟨e',l,e▸h4, ?_⟩
      show ah (ai aa u.1 (some u.2)) us i=_
      rw [h1, ← e,aI,h3]
    · left
      refine ⟨?_,fun v hv=> ?_⟩
      · show ah (ai aa u.1 (some u.2)) us i=_
        rw [h1,aY _ _ (Ne.symm e)]
      · rcases List.mem_cons.1 hv with rfl | hv
        · exact e
        · exact h2 v hv
  · exact .inr ⟨⟨v,by simp [hv],h1⟩,h2⟩
theorem cG.tk {bx:Bx S.C} {us US:aA S.C} (h:cG bx US) (hs: ∀ u ∈ us,u ∈ US):Tk S (ah bx us) (ah bx US):=by
 intro i
 have h0:cG bx us:=fun u hu=>h u (hs u hu)
 rcases cG.at bx h i with ⟨h1,h2⟩ | ⟨_,e,l,h1,h2⟩
 · rcases cG.at bx h0 i with ⟨h3,_⟩ | ⟨⟨u,hu,h3⟩,_⟩
   · exact .inl (h1.trans h3.symm)
   · exact absurd h3 (h2 u (hs u hu))
 · rcases cG.at bx h0 i with ⟨h3,_⟩ | ⟨_,e',l',h3,h4⟩
   · exact .inr (.inr ⟨e,l,by rw [h3]; exact h1,h2⟩)
   · generalize bx i=X at h1 h3
     cases h1 <;> cases h3 <;> exact .inl (h2.trans h4.symm)
theorem cG.mw {bx:Bx S.C} {US:aA S.C} (h:cG bx US):Tk S bx (ah bx US):=cG.tk (us:= []) h (by simp)
theorem cG.cu (bx:Bx S.C) (V:Sy.V S.C):cG bx (cu S bx V):=by
 cases V with
 | az b=>
  unfold Sy.cu
  dsimp only
  split
  · rename_i e l hb
    intro u hu
    simp at hu
    subst hu
    exact ⟨e,l,rfl,by rw [hb]; exact .arr e l⟩
  · rename_i w l hb
    intro u hu
    simp at hu
    subst hu
    exact ⟨.st w,l,rfl,by rw [hb]; exact .aF w l⟩
  · intro u hu; simp at hu
 | _=>intro u hu; simp [Sy.cu] at hu
theorem cG.cS (bx:Bx S.C) (V:Sy.V S.C):cG bx (cS S bx V):=by
 cases V with
 | agg u vs=>
  intro x hx
  simp only [Sy.cS,List.mem_flatMap] at hx
  obtain ⟨v,_,hx⟩:=hx
  exact cG.cu bx v x hx
 | az b=>exact cG.cu bx (.az b)
 | _=>intro u hu; simp [Sy.cS,Sy.cu] at hu
theorem wD {aa:Bx S.C} (hk:Tk S env.bx aa):aV w (bC S w0 M0 s0 env.bx aa μ w) w (ay S w0 M0 s0 aa μ w):=fun b o ⟨q1,q2,q3⟩=>
 ⟨⟨q1,q2,fun j hj=>by
  rcases q3 j ((dD S (hk.c_ hj)).1 hj) with ⟨_,_,hq⟩ | hq
  · unfold live at hj; rw [hq] at hj; exact hj.elim
  · exact hq⟩,rfl⟩
def cB (w:World) (s:St) (e:Ty) (l:List (e.den S.C)) (cs:List Value):Prop:=
 cs.length=l.length*Ty.sz S e∧ ∀ i x,l[i]? =some x→ ∃ n,av S w s n e x ((cs.drop (i*Ty.sz S e)).take (Ty.sz S e))
theorem cB.nil {s:St} {e:Ty} :cB w s e ([]:List (e.den S.C)) []:=⟨by simp,fun i x h=>by simp at h⟩
theorem cB.later {w':World} {s s':St} (hl:aV w s w' s') {e:Ty} {l:List (e.den S.C)} {cs:List Value} (h:cB w s e l cs):cB w' s' e l cs:=
 ⟨h.1,fun i x hi=>(h.2 i x hi).imp fun _ hr=>hr.mono S hl (Nat.le_refl _)⟩
theorem cB.append {s:St} {e:Ty} {l l':List (e.den S.C)} {cs cs':List Value} (h:cB w s e l cs) (h':cB w s e l' cs'):cB w s e (l++l') (cs++cs'):=by
 refine ⟨by simp [h.1,h'.1,Nat.add_mul],fun i x hi=> ?_⟩
 by_cases hlt:i<l.length
 · rw [List.getElem?_append_left hlt] at hi
   obtain ⟨n,hn⟩:=h.2 i x hi
   refine ⟨n, ?_⟩
   have :(i+1)*Ty.sz S e≤l.length*Ty.sz S e:=Nat.mul_le_mul_right _ (by omega)
   rw [Nat.add_mul,Nat.one_mul, ← h.1] at this
   rw [List.drop_append_of_le_length (by omega),List.take_append_of_le_length (by simp; omega)]
   exact hn
 · rw [List.getElem?_append_right (by omega)] at hi
   obtain ⟨n,hn⟩:=h'.2 _ x hi
   refine ⟨n, ?_⟩
   have h1:i*Ty.sz S e=cs.length+(i - l.length)*Ty.sz S e:=by
    rw [h.1, ← Nat.add_mul]; congr 1; omega
   rw [h1,List.drop_append]
   simp only [List.drop_of_length_le (Nat.le_add_right cs.length _),List.nil_append,Nat.add_sub_cancel_left]
   exact hn
theorem cB.set {s:St} {e:Ty} {l:List (e.den S.C)} {cs:List Value} (h:cB w s e l cs) {i:Nat} (hi:i<l.length) {x:e.den S.C} {n:Nat} {ds:List Value} (hx:av S w s n e x ds):
 cB w s e (l.set i x) (cs.take (i*Ty.sz S e)++ds++cs.drop (i*Ty.sz S e+ds.length)):=by
 have hd:=hx.length S
 have hle:(i+1)*Ty.sz S e≤l.length*Ty.sz S e:=Nat.mul_le_mul_right _ (by omega)
 rw [Nat.add_mul,Nat.one_mul, ← h.1] at hle
 refine ⟨?_,fun k y hk=> ?_⟩
 · rw [List.length_append,List.length_append,List.length_take,List.length_drop,List.length_set, ← h.1]; omega
 · by_cases ek:i=k
   · subst ek
     rw [List.getElem?_set_self hi] at hk
     cases hk
     refine ⟨n, ?_⟩
     rw [List.append_assoc,List.drop_append_of_le_length (by simp; omega),List.drop_of_length_le (by simp; omega),List.nil_append, ← hd,List.take_left]
     exact hx
   · rw [List.getElem?_set_ne ek] at hk
     have hkl:=(List.getElem?_eq_some_iff.1 hk).1
     obtain ⟨m,hm⟩:=h.2 k y hk
     refine ⟨m, ?_⟩
     rcases Nat.lt_or_gt_of_ne ek with hlt | hlt
     · have hki:(i+1)*Ty.sz S e≤k*Ty.sz S e:=Nat.mul_le_mul_right _ (by omega)
       rw [Nat.add_mul,Nat.one_mul] at hki
       have hpre:(cs.take (i*Ty.sz S e)++ds).length=i*Ty.sz S e+ds.length:=by rw [List.length_append,List.length_take]; omega
       rw [show k*Ty.sz S e=(cs.take (i*Ty.sz S e)++ds).length+(k*Ty.sz S e - (i*Ty.sz S e+ds.length)) from by rw [hpre]; omega,List.drop_append]
       simp only [List.drop_of_length_le (Nat.le_add_right _ _),List.nil_append,Nat.add_sub_cancel_left,List.drop_drop]
       rw [show i*Ty.sz S e+ds.length+(k*Ty.sz S e - (i*Ty.sz S e+ds.length))=k*Ty.sz S e from by omega]
       exact hm
     · have hki:(k+1)*Ty.sz S e≤i*Ty.sz S e:=Nat.mul_le_mul_right _ (by omega)
       rw [Nat.add_mul,Nat.one_mul] at hki
       rw [List.append_assoc,List.drop_append_of_le_length (by simp; omega),List.take_append_of_le_length (by simp; omega),List.drop_take,List.take_take]
       rw [show min (Ty.sz S e) (i*Ty.sz S e - k*Ty.sz S e)=Ty.sz S e from by omega]
       exact hm
theorem cB.replicate {s:St} {e:Ty} {x:e.den S.C} {n:Nat} {z:Array Value} (hx:av S w s n e x z.toList) (k:Nat):cB w s e (List.replicate k x) (madeCells z (k*Ty.sz S e)).toList:=by
 have hz:=hx.length S
 have hzs:z.size=Ty.sz S e:=by rw [← hz]; simp
 refine ⟨by simp [size_madeCells],fun i y hi=>⟨n, ?_⟩⟩
 have yN:=(List.getElem?_eq_some_iff.1 hi).1
 rw [List.length_replicate] at yN
 rw [List.getElem?_replicate,if_pos yN] at hi
 cases hi
 have :((madeCells z (k*Ty.sz S e)).toList.drop (i*Ty.sz S e)).take (Ty.sz S e)=z.toList:=by
  apply List.ext_getElem?
  intro j
  rw [List.getElem?_take]
  have hrow:(i+1)*Ty.sz S e≤k*Ty.sz S e:=Nat.mul_le_mul_right _ (by omega)
  rw [Nat.add_mul,Nat.one_mul] at hrow
  by_cases hj:j<Ty.sz S e
  · rw [if_pos hj,List.getElem?_drop]
    have hmod:(i*Ty.sz S e+j) % z.size=j:=by
     rw [hzs,Nat.mul_comm,Nat.mul_add_mod,Nat.mod_eq_of_lt hj]
    simp [madeCells]
    rw [List.getElem?_range (by omega)]
    rw [Option.map_some,hmod]
    simp [hzs,hj]
  · rw [if_neg hj,List.getElem?_eq_none (by omega)]
 rw [this]
 exact hx
theorem Fh {s:St} {e:Ty} {b:Nat} : ∀ {l:List (e.den S.C)} {o':Nat},(∀ i x,l[i]? =some x→ ∃ ds,ds.length=Ty.sz S e∧w.rangeAt b (o'+i*Ty.sz S e) ds∧ ∃ n,av S w s n e x ds)→
 ∃ cs,w.rangeAt b o' cs∧cB w s e l cs
 | [],_,_=>⟨[],fun j v h=>by simp at h,cB.nil⟩
 | x::l,o',h=>by
  obtain ⟨ds,d1,d2,n,d3⟩:=h 0 x rfl
  obtain ⟨cs,c1,c2⟩:=Fh (s:=s) (l:=l) (o':=o'+Ty.sz S e) fun i y hi=>by
   obtain ⟨ds,d1,d2,d3⟩:=h (i+1) y (by simpa using hi)
   refine ⟨ds,d1, ?_,d3⟩
   rw [Nat.add_mul,Nat.one_mul] at d2
   rw [show o'+Ty.sz S e+i*Ty.sz S e=o'+(i*Ty.sz S e+Ty.sz S e) from by omega]
   exact d2
  simp only [Nat.zero_mul,Nat.add_zero] at d2
  refine ⟨ds++cs,fun j v hj=> ?_,cB.append (l:= [x]) (l':=l) ⟨by simp [d1],fun i y hi=> ?_⟩ c2⟩
  · by_cases hlt:j<ds.length
    · rw [List.getElem?_append_left hlt] at hj; exact d2 j v hj
    · rw [List.getElem?_append_right (by omega)] at hj
      have :=c1 _ v hj
      rw [show o'+Ty.sz S e+(j - ds.length)=o'+j from by omega] at this
      exact this
  · cases i with
    | zero=>simp at hi; subst hi; exact ⟨n,by simpa [← d1] using d3⟩
    | succ i=>simp at hi
theorem cB.row {s:St} {e:Ty} {l:List (e.den S.C)} {cs:List Value} (h:cB w s e l cs) {w':World} {b o':Nat} (hr:w'.rangeAt b o' cs):
 ∀ i x,l[i]? =some x→ ∃ ds,ds.length=Ty.sz S e∧w'.rangeAt b (o'+i*Ty.sz S e) ds∧ ∃ n,av S w s n e x ds:=fun i x hi=>by
 obtain ⟨n,hn⟩:=h.2 i x hi
 exact ⟨_,hn.length S,oE hr _ _,n,hn⟩
theorem wF (hP:aL P S af) {t:Nat} {T:Ty} (ht:S.ty t=some T) (s:St): ∃ n,av S w s n T (Ty.zero S T) (pn S T):=by
 have z1: ∀ (T:Ty),aZ T=false→av S w s 1 T (Ty.zero S T) [qV T]:=by
  intro T hT
  cases T with
  | int k=>rfl
  | bool=>rfl
  | str=>rfl
  | pt=>rfl
  | sl e=>exact ⟨none,0,rfl,Nat.le_refl _, .inl rfl⟩
  | st u=>simp [aZ] at hT
 cases T with
 | st u=>
  obtain ⟨_,⟨hz,_⟩,_⟩:=hP.ty t _ ht
  refine ⟨2, ?_⟩
  show a_ S _ (S.F u) (S.ex u (S.z u)) ((S.F u).map qV)
  rw [hz]
  have : ∀ (ts:List Ty),ts.all (fun t=> !aZ t)=true→a_ S (fun t x cs=>av S w s 1 t x cs) ts (nG S ts) (ts.map qV):=by
   intro ts
   induction ts with
   | nil=>intro _; rfl
   | cons t ts ih=>
    intro h
    simp only [List.all_cons,Bool.and_eq_true,Bool.not_eq_true'] at h
    refine ⟨_,_,rfl, ?_, ?_⟩
    · rw [show ag.head (nG S (t::ts))=Ty.zero S t from by cases ts <;> rfl]
      exact z1 t h.1
    · rw [show ag.tail (nG S (t::ts))=nG S ts from by cases ts <;> rfl]
      exact ih h.2
  exact this _ (hP.flat u)
 | int k=>exact ⟨1,z1 _ rfl⟩
 | bool=>exact ⟨1,z1 _ rfl⟩
 | str=>exact ⟨1,z1 _ rfl⟩
 | pt=>exact ⟨1,z1 _ rfl⟩
 | sl e=>exact ⟨1,z1 _ rfl⟩
theorem Bj (hS:b6 S) (h:Inv P S w0 M0 s0 dq env a w μ) (hd: ∀ d,o.dst=some d→d<a.tmps.size) {us:aA S.C} {B:Nat} {e:Ty} {l:List (e.den S.C)} {t:TypeId} {cap:Nat} {cells:Array Value} {cs:List Value}
 (hk:Tk S env.bx (ah env.bx us)) (hB:ah env.bx us B=none) {w1:World} (hw1:w1.heap=w.heap) (y5:w1.os=w.os∧w1.tape=w.tape∧w1.output=w.output)
 (hrun:(execOp a.eval o).run P w= .ok (.value (.slice (some ⟨w.heap.size,0,none⟩) l.length cap)) (w1.alloc (.cells cells t)))
 (hle:l.length≤cap) (hcap:cells.size=cap*Ty.sz S e) (hcs:cB w (ay S w0 M0 s0 (ah env.bx us) μ w) e l cs) (hpre:cs <+: cells.toList)
 (hK:Goal P S w0 M0 s0 dq env a o.dst (.az B) (us++ [(B, .arr e l)]) K):o.wp P a w K Q:=by
 have h1:=h.tk hS hk
 have mV:aO w (w1.alloc (.cells cells t)) (fun _ _=>False):=by
  have c1:aO w w1 (fun _ _=>False):=⟨y5.1,y5.2.1,y5.2.2,by rw [hw1]; exact Nat.le_refl _,fun b _ _=>by rw [hw1],fun b o _ _=>cell_of_heap (by rw [hw1]),fun b o _ h=>by rw [cell_of_heap (by rw [hw1]:w1.heap[b]? =w.heap[b]?)]; exact h,fun b o _ _=>uU (by rw [hw1])⟩
  exact c1.trans (aO.alloc w1 _ (fun _ _=>False)) (fun _ _ h=>h) (fun _ _ _ h=>h)
 have nt:=ld (w:=w1) (cs:=cells) (t:=t)
 rw [hw1] at nt
 have J9:(w1.alloc (.cells cells t)).rangeAt w.heap.size 0 cs:=fun j v hj=>nt.2 j v (by
  obtain ⟨r,hr⟩:=hpre
  rw [← hr,List.getElem?_append_left (List.getElem?_eq_some_iff.1 hj).1]
  exact hj)
 refine nC (env:= { env with bx:=ah env.bx us }) (i:=B) (B:= .arr e l) (V:= .az B) (L:=⟨w.heap.size,0,cap*Ty.sz S e,cap,false,fun _ _=>False⟩) h1 hrun hd mV hB (fun b o' hf=>Nat.le_of_eq hf.1.symm)
  (fun hl _ h3=>⟨⟨rfl,(fun h=>by cases h),hle,(by show World.there _ w.heap.size 0 (cap*Ty.sz S e); rw [← hcap]; exact nt.1),fun i x hi=> ?_⟩,⟨⟨⟨_,_,_,rfl⟩,fun u' l' q' hb=> ?_⟩,fun e' l' hb=> ?_⟩⟩) (fun vs hvs=>by rcases hvs with hvs | hvs <;> cases hvs) (fun j hj=> .inl (by simpa [aq,ak] using hj)) ?_
 · obtain ⟨ds,d1,d2,n,d3⟩:=hcs.row J9 i x hi
   exact ⟨ds,d1,d2,n,d3.mono S hl (Nat.le_refl _)⟩
 · dsimp only at hb
   rw [aI] at hb
   cases hb
 · dsimp only at hb
   rw [aI] at hb
   rcases hb with hb | hb
   · cases hb
     rw [aI]
     exact ⟨_,cap,rfl,rfl,rfl,rfl,(fun h=>by cases h),hle⟩
   · cases hb
 · intro a' w' μ' hI hs
   refine hK a' w' μ' ?_ hs
   have :(env.apply o.dst (.az B) (us++ [(B, .arr e l)]))=(Env.apply { env with bx:=ah env.bx us } o.dst (.az B) [(B, .arr e l)]):=by
    simp only [Env.apply,fA]
   rw [this]
   exact hI
theorem Ln (hP:aL P S af) (h:Inv P S w0 M0 s0 dq env a w μ) (hd: ∀ d,o.dst=some d→d<a.tmps.size) {B:Nat} {t:TypeId} {x y:Operand} (ho:o.op= .makeSlice t x y)
 (hnew: ∀ u ∈ us,B≤u.1→u.1<B+16→env.bx u.1=none)
 (hl:(match dO S t,aE S env.tm x,aE S env.tm y with
  | some e,some v,some w=>match v.int?,w.int? with
   | some (.i64,n),some (.i64,m)=>Tr.gd [gd (0≤n),gd (n≤m),gd (m*af t≤limit)] (ax S (.az (B)) [(B, .arr e (List.replicate n.toNat (Ty.zero S e)))])
   | _,_=>Tr.fail
  | _,_,_=>Tr.fail).leaf (V,us)) (hK:Goal P S w0 M0 s0 dq env a o.dst V us K):o.wp P a w K Q:=by
 split at hl
 · rename_i e v u ht hx hy
   split at hl
   · rename_i n m hn hm
     obtain ⟨hg,rfl,rfl⟩:=ee hl
     have g1:0≤n:=hg (gd (0≤n)) (by simp)
     have g2:n≤m:=hg (gd (n≤m)) (by simp)
     have g3:m*af t≤limit:=hg (gd (m*af t≤limit)) (by simp)
     have ht':=jo ht
     obtain ⟨te,ie,z,hu,hte,hie,hby,cD,_⟩:=hP.sl ht'
     obtain ⟨⟨i,z,h1,h2,h3,h4,h5⟩,_⟩:=hP.ty te _ hte
     rw [hie] at h1
     cases h1
     have e1:=iK (aW h hx).1 hn
     have e2:=iK (aW h hy).1 hm
     have hmn:(m.toNat:Int)=m:=by omega
     have hpos:(af t:Int)≥1:=by omega
     have hml:m≤140737488355328:=by
      have :m*1≤m*(af t:Int):=Int.mul_le_mul_of_nonneg_left hpos (by omega)
      have :limit=140737488355328:=rfl
      omega
     have hrun:=run_make (P:=P) w t te ie z hu hie h3 .i64 .i64 n m g1 g2 (by rw [hby,Int.mul_comm]; have :limit=140737488355328:=rfl; omega) (by omega)
     obtain ⟨q,hq⟩:=wF (w:=w) hP hte (ay S w0 M0 s0 (ah env.bx []) μ w)
     rw [← h5] at hq
     have hB:=hnew _ (List.mem_singleton.2 rfl) (Nat.le_refl _) (by show B<B+16; omega)
     refine Bj (t:=te) (us:= []) (e:=e) (l:=List.replicate n.toNat (Ty.zero S e)) (cap:=m.toNat) (cells:=madeCells z.cells (m.toNat*ie.size)) (cs:=(madeCells z.cells (n.toNat*Ty.sz S e)).toList) (w1:=w) hP.tob6 h hd (Tk.refl S _) hB rfl ⟨rfl,rfl,rfl⟩ ?_ (by simp; omega)
      (by rw [size_madeCells,h2]) (cB.replicate hq _) ?_ hK
     · unfold execOp
       simp only [ho,e1,e2,List.length_replicate]
       simp [hrun]
     · rw [h2]
       simp only [madeCells,Array.toList_map,Array.toList_range]
       have :n.toNat*Ty.sz S e≤m.toNat*Ty.sz S e:=Nat.mul_le_mul_right _ (by omega)
       refine List.IsPrefix.map _ ?_
       exact ⟨(List.range (m.toNat*Ty.sz S e)).drop (n.toNat*Ty.sz S e),by
        conv=>rhs; rw [← List.take_append_drop (n.toNat*Ty.sz S e) (List.range (m.toNat*Ty.sz S e))]
        congr 1
        rw [List.take_range,Nat.min_eq_left this]⟩
   · exact hl.elim
 · exact hl.elim
end
end Go.Sy
namespace Go.Sy
section
variable {P:Program} {S:aK} {af:Nat→Nat}
variable {w0:World} {M0 s0:St} {dq:List Deferred} {env:Env S.C} {a:Act} {w:World} {μ:Nat→Loc} {K:Act→World→Prop} {Q:Exit→Act→World→Prop} {o:Oper} {V:V S.C} {us:aA S.C}
theorem CH {bx aa:Bx S.C} {e:Ty} : ∀ {ps:List (Nat×Sy.V S.C)} {l:List (e.den S.C)},(∀ p ∈ ps, ∀ i ∈ aq S p.2,aa i=bx i)→kU S aa e l ps=kU S bx e l ps
 | [],_,_=>rfl
 | (i,v)::ps,l,h=>by
  obtain ⟨h1,h2⟩:=rO (t:=e) (h (i,v) (by simp))
  simp only [kU,h1,h2]
  congr 1
  cases datum S bx e v with
  | none=>rfl
  | some x=>simp only [Option.bind_some]; rw [CH fun p hp=>h p (by simp [hp])]
theorem CF {bx:Bx S.C} {e:Ty} : ∀ {ps:List (Nat×Sy.V S.C)} {l l':List (e.den S.C)} {us:aA S.C},kU S bx e l ps=some (l',us)→cG bx us∧l'.length=l.length
 | [],_,_,_,h=>by cases h; exact ⟨fun u hu=>by simp at hu,rfl⟩
 | (i,v)::ps,l,l',us,h=>by
  simp only [kU] at h
  cases hi:Nat.blt i (List.length l) with
  | false=>rw [hi] at h; cases h
  | true=>
   rw [hi,cond_true] at h
   obtain ⟨x,hx,h⟩:=Option.bind_eq_some_iff.1 h
   obtain ⟨⟨l2,u2⟩,h2,h⟩:=Option.bind_eq_some_iff.1 h
   cases h
   obtain ⟨g1,g2⟩:=CF h2
   exact ⟨(cG.cS bx v).append g1,by rw [g2,List.length_set]⟩
theorem CG (hS:b6 S) (h:Inv P S w0 M0 s0 dq env a w μ) {e:Ty} {US:aA S.C} (hU:cG env.bx US): ∀ {ps:List (Nat×Sy.V S.C)} {qs:List (Nat×Value)} {l l':List (e.den S.C)} {us:aA S.C} {cells:Array Value},
 uu P S w (ay S w0 M0 s0 env.bx μ w) μ env.bx ps qs→cB w (bC S w0 M0 s0 env.bx (ah env.bx US) μ w) e l cells.toList→kU S env.bx e l ps=some (l',us)→(∀ u ∈ us,u ∈ US)→
 ∃ cells',Instr.fill (fun i=>some (i*Ty.sz S e,Ty.sz S e)) cells qs=some cells'∧cB w (bC S w0 M0 s0 env.bx (ah env.bx US) μ w) e l' cells'.toList
 | [],qs,l,l',us,cells,h1,h2,h3,_=>by
  cases h1; cases h3
  exact ⟨cells,rfl,h2⟩
 | (i,V)::ps,qs,l,l',us,cells,⟨v,r,hq,hv,hr⟩,h2,h3,hs=>by
  subst hq
  simp only [kU] at h3
  cases hi:Nat.blt i (List.length l) with
  | false=>rw [hi] at h3; cases h3
  | true=>
   rw [hi,cond_true] at h3
   have hlt:i<l.length:=by
    have :Nat.ble (i+1) l.length=true:=hi
    exact Nat.le_of_ble_eq_true this
   obtain ⟨x,hx,h3⟩:=Option.bind_eq_some_iff.1 h3
   obtain ⟨⟨l2,u2⟩,h4,h3⟩:=Option.bind_eq_some_iff.1 h3
   cases h3
   obtain ⟨_,d2⟩:=uL hS h (Tk.refl S env.bx) hv hx
   have d3:=d2.mono S (oW S (hU.tk (us:=cS S env.bx V) fun u hu=>hs u (by simp [hu])))
   obtain ⟨n,d4⟩:=d3.2
   have d5:=d4.length S
   have hc:=h2.1
   have hle:(i+1)*Ty.sz S e≤l.length*Ty.sz S e:=Nat.mul_le_mul_right _ (by omega)
   rw [Nat.add_mul,Nat.one_mul, ← hc] at hle
   obtain ⟨cells',e1,e2⟩:=xZ (fun i=>some (i*Ty.sz S e,Ty.sz S e)) (i:=i) rfl (v:=v) (cells:=cells) (by rw [← d5]; simp) (by simpa using hle) r
   obtain ⟨xm,g1,g2⟩:=CG hS h hU (cells:=cells') hr (by rw [e1]; exact h2.set hlt d4) h4 fun u hu=>hs u (by simp [hu])
   exact ⟨xm,by rw [e2]; exact g1,g2⟩
theorem Iv (hP:aL P S af) (h:Inv P S w0 M0 s0 dq env a w μ) (hd: ∀ d,o.dst=some d→d<a.tmps.size) {B:Nat} {t:TypeId} {parts:Array (Nat×Operand)} {e:Ty} (ho:o.op= .buildSlice t 0 parts) (ht:dO S t=some e)
 (hnew: ∀ u ∈ us,B≤u.1→u.1<B+16→env.bx u.1=none)
 (hl:(match parts.toList with
  | []=>ax S (.aP B e []) [(B, .tail)]
  | _=> .fail:Rt S).leaf (V,us)) (hK:Goal P S w0 M0 s0 dq env a o.dst V us K):o.wp P a w K Q:=by
 split at hl
 · rename_i hps
   obtain ⟨rfl,rfl⟩:=bg hl
   have hp:parts= #[]:=by
    have :parts=parts.toList.toArray:=by simp
    rw [this,hps]
   subst hp
   have hB:=hnew (B, .tail) (by simp) (Nat.le_refl _) (by show B<B+16; omega)
   have ht':=jo ht
   obtain ⟨te,ie,z,hu,hte,hie,hby,cD,_⟩:=hP.sl ht'
   have hrun:(execOp a.eval o).run P w= .ok (.value (.slice (some ⟨w.heap.size,0,none⟩) 0 0)) (w.alloc (.cells #[] te)):=by
    unfold execOp
    simp only [ho]
    simp [Instr.buildSlice,run_underlying hu,sizeOf,typeInfo,hie,Array.range_zero',Instr.fill,newRow]
   refine nC (i:=B) (B:= .tail) (V:= .aP B e []) (L:=⟨0,0,0,0,true,fun _ _=>False⟩) h hrun hd (aO.alloc w _ _) hB (fun b o hf=> ?_) (fun _ _ _=>⟨fun j hj=>absurd hj (Nat.not_lt_zero j), ?_⟩) (by simp) (fun j hj=> .inl (by simpa [aq,ak] using hj)) hK
   · have h1:=hf.2.1; have h2:=hf.2.2; simp at h2
   · refine ⟨⟨rfl,1,_,0,rfl,Nat.le_refl _, .inl rfl⟩,fun _=>⟨_,0,rfl, ?_⟩⟩
     rw [aI]
     exact .inr ⟨_,_,rfl,by simp,fun h=>absurd h (Nat.lt_irrefl 0)⟩
 · exact hl.elim
theorem HL (hP:aL P S af) (h:Inv P S w0 M0 s0 dq env a w μ) (hd: ∀ d,o.dst=some d→d<a.tmps.size) {B:Nat} {t:TypeId} {len:Nat} {parts:Array (Nat×Operand)} {ids:List Nat} (ho:o.op= .buildSlice t len parts)
 (cE: ∀ i x,(i,x) ∈ parts.toList→ ∀ V,aE S env.tm x=some V→ ∀ i ∈ aq S V,restrict S env.bx ids i=env.bx i)
 (hnew: ∀ u ∈ us,B≤u.1→u.1<B+16→env.bx u.1=none)
 (hl:(match dO S t with
  | some e=>match parts.toList.mapM (fun (p:Nat×Operand)=>(aE S env.tm p.2).map fun v=>(p.1,v)) with
   | some ps=>cond (Nat.ble (len*Ty.sz S e) 16777216) (match kU S (restrict S env.bx ids) e (List.replicate len (Ty.zero S e)) ps with
    | some (l,us)=>ax S (.az (B)) (us++ [(B,b9.arr e l)])
    | none=>Tr.fail) Tr.fail
   | none=>Tr.fail
  | none=>Tr.fail).leaf (V,us)) (hK:Goal P S w0 M0 s0 dq env a o.dst V us K):o.wp P a w K Q:=by
 split at hl
 · rename_i e ht
   split at hl
   · rename_i ps hps
     cases cN:Nat.ble (len*Ty.sz S e) 16777216 with
     | false=>rw [cN] at hl; exact hl.elim
     | true=>
      rw [cN,cond_true] at hl
      obtain ⟨p1,p2⟩:=zQ h hps
      rw [CH (bx:=env.bx) fun p hp i hi=>by
       obtain ⟨x,k,hm,hx⟩:=p2 p hp
       exact cE k x hm p.2 hx i hi] at hl
      split at hl
      · rename_i l fz Di
        obtain ⟨rfl,rfl⟩:=bg hl
        obtain ⟨f1,f2⟩:=CF Di
        rw [List.length_replicate] at f2
        have ht':=jo ht
        obtain ⟨te,ie,z,hu,hte,hie,hby,cD,_⟩:=hP.sl ht'
        obtain ⟨⟨i,z,h1,h2,h3,h4,h5⟩,_⟩:=hP.ty te _ hte
        rw [hie] at h1
        cases h1
        obtain ⟨q,hq⟩:=wF (w:=w) hP hte (bC S w0 M0 s0 env.bx (ah env.bx fz) μ w)
        rw [← h5] at hq
        obtain ⟨cells,c1,c2⟩:=CG hP.tob6 h f1 (cells:=madeCells z.cells (len*Ty.sz S e)) p1 (cB.replicate hq len) Di fun u hu=>hu
        have bA:=hnew (B,b9.arr e l) (by simp) (Nat.le_refl _) (by show B<B+16; omega)
        have hB:ah env.bx fz B=none:=by
         rcases cG.at env.bx f1 B with ⟨e1,_⟩ | ⟨_,e',l',e2,_⟩
         · rw [e1]; exact bA
         · rw [show env.bx B=none from bA] at e2; cases e2
        refine Bj (t:=te) (us:=fz) (e:=e) (l:=l) (cap:=len) (cells:=cells) (cs:=cells.toList) (w1:=w) hP.tob6 h hd f1.mw hB rfl ⟨rfl,rfl,rfl⟩ ?_ (by omega) (by have :=c2.1; rw [f2] at this; simpa using this)
         (c2.later (wD f1.mw)) (List.prefix_refl _) hK
        unfold execOp
        simp only [ho,f2]
        have hrun:(Instr.buildSlice t len (parts.map fun (i,x)=>(i,a.eval x))).run P w= .ok (.slice (some ⟨w.heap.size,0,none⟩) len len) (w.alloc (.cells cells te)):=by
         have cN:=Nat.le_of_ble_eq_true cN
         rw [← h2] at cN c1
         by_cases h0:len*ie.size=0
         · rw [h0] at c1
           have hm:madeCells z.cells 0= #[]:=by simp [madeCells]
           rw [hm] at c1
           have uE:Instr.fill (fun i=>some (i*ie.size,ie.size)) #[] (parts.toList.map fun x=>(x.1,a.eval x.2))=some cells:=c1
           simp [Instr.buildSlice,run_underlying hu,sizeOf,typeInfo,hie,h0,Array.range_zero',uE,newRow]
         · refine run_buildSlice w t te len _ cells ie z hu hie h3 (by omega) h0 ?_
           rw [Array.toList_map,h2]
           rw [h2] at c1
           exact c1
        simp [hrun]
      · exact hl.elim
   · exact hl.elim
 · exact hl.elim
end
end Go.Sy
namespace Go.Sy
section
variable {P:Program} {S:aK} {af:Nat→Nat}
variable {w0:World} {M0 s0:St} {dq:List Deferred} {env:Env S.C} {a:Act} {w:World} {μ:Nat→Loc} {K:Act→World→Prop} {Q:Exit→Act→World→Prop} {o:Oper} {V:V S.C} {us:aA S.C}
theorem MN (P:Program) (hS:b6 S) {s:St} {n:Nat} {e:Ty} {x:e.den S.C} {cs:List Value} (h:av S w s n e x cs): ∀ u ∈ cs,u.oneCell'=true:=by
 obtain ⟨h1,h2,_⟩:=kQ (P:=P) hS (fun _=>⟨0,0,0,0,true,fun _ _=>False⟩) (fun _=>none) h
 exact qQ h2 h1
theorem B8 (P:Program) (hS:b6 S) {s:St} {e:Ty} {l:List (e.den S.C)} {cs:List Value} (h:cB w s e l cs): ∀ u ∈ cs,u.oneCell'=true:=by
 intro u hu
 obtain ⟨k,hk,JP⟩:=List.getElem_of_mem hu
 have h0:0<Ty.sz S e:=by
  rcases Nat.eq_zero_or_pos (Ty.sz S e) with h0 | h0
  · have :=h.1; rw [h0,Nat.mul_zero] at this; omega
  · exact h0
 have hkl:k<l.length*Ty.sz S e:=by rw [← h.1]; exact hk
 have hi:k / Ty.sz S e<l.length:=Nat.div_lt_of_lt_mul (by rw [Nat.mul_comm]; exact hkl)
 obtain ⟨n,hn⟩:=h.2 (k / Ty.sz S e) _ (List.getElem?_eq_getElem hi)
 refine MN P hS hn u ?_
 have hd:k / Ty.sz S e*Ty.sz S e+k % Ty.sz S e=k:=by rw [Nat.mul_comm]; exact Nat.div_add_mod k _
 refine List.mem_iff_getElem?.2 ⟨k % Ty.sz S e, ?_⟩
 rw [List.getElem?_take,if_pos (Nat.mod_lt _ h0),List.getElem?_drop,hd,List.getElem?_eq_getElem hk,JP]
def Read (S:aK) (w:World) (s:St) (e:Ty) (l:List (e.den S.C)) (v:Value):Prop:=
 ∃ ad cap,v= .slice ad l.length cap∧l.length≤cap∧(l.length=0∨ ∃ b o,ad=some ⟨b,o,none⟩∧ ∀ i x,l[i]? =some x→ ∃ ds,ds.length=Ty.sz S e∧w.rangeAt b (o+i*Ty.sz S e) ds∧ ∃ n,av S w s n e x ds)
theorem bV.read {s:St} {e:Ty} {l:List (e.den S.C)} {v:Value} (h:bV S w s (.sl e) l v):Read S w s e l v:=by
 obtain ⟨ad,cap,h1,h2,h3⟩:=jl h
 refine ⟨ad,cap,h1,h2,h3.imp id fun ⟨b,o,n,h4,h5⟩=>⟨b,o,h4,fun i x hi=> ?_⟩⟩
 obtain ⟨ds,d1,d2,d3⟩:=h5 i x hi
 exact ⟨ds,d1,d2.range,n,d3⟩
theorem gL.read {s:St} {e:Ty} {l:List (e.den S.C)} {v:Value} {L:Loc} {ad:Option Addr} {cap:Nat} (hv:v= .slice ad l.length cap) (h:gL L ad l.length cap (Ty.sz S e))
 (hr: ∀ i x,l[i]? =some x→ ∃ ds,ds.length=Ty.sz S e∧w.rangeAt L.b (L.o+i*Ty.sz S e) ds∧ ∃ n,av S w s n e x ds):Read S w s e l v:=by
 refine ⟨ad,cap,hv,h.fits, ?_⟩
 cases hn:L.nil with
 | true=>
  left
  have h1:=h.isNil hn
  have h2:=h.fits
  have h3:=h.dW
  omega
 | false=>
  right
  have h1:=h.addr
  rw [hn] at h1
  exact ⟨L.b,L.o,h1,hr⟩
theorem zz (h:Inv P S w0 M0 s0 dq env a w μ) {b:Nat} {e:Ty} {l:List (e.den S.C)} {v:Value} (hb:env.bx b=some (.arr e l)∨env.bx b=some (.bn e l)) (hv:RV P S w (ay S w0 M0 s0 env.bx μ w) μ env.bx (.az b) v):
 Read S w (ay S w0 M0 s0 env.bx μ w) e l v:=by
 obtain ⟨_,hv⟩:=hv
 obtain ⟨ad,cap,h1,h2⟩:=hv e l hb
 refine h2.read h1 ?_
 rcases hb with hb | hb
 · exact (h.bw b _ hb).2.2.2.2
 · intro i x hi
   obtain ⟨ds,d1,d2,d3⟩:=(h.bw b _ hb).2.2 i x hi
   exact ⟨ds,d1,d2.range,d3⟩
theorem xK (h:Inv P S w0 M0 s0 dq env a w μ) {e:Ty} {X:Sy.V S.C} {x:Value} {y:List (e.den S.C)} (hx:RV P S w (ay S w0 M0 s0 env.bx μ w) μ env.bx X x) (hy:datum S env.bx (.sl e) X=some y) (hn:rowAt S env.bx X=none):
 Read S w (ay S w0 M0 s0 env.bx μ w) e y x:=by
 cases X with
 | d u z=>
  obtain ⟨rfl,rfl⟩:=dn hy
  exact bV.read hx
 | aP b e' l=>
  obtain ⟨e1,rfl⟩:=dn hy
  cases e1
  exact bV.read hx.1
 | b_=>
  cases hy
  exact ⟨none,0,hx,Nat.le_refl _, .inl rfl⟩
 | az b=>
  have hy:cH S env.bx (.sl e) (.az b)=some y:=hy
  simp only [cH] at hy
  split at hy
  · rename_i e' l hb
    obtain ⟨e1,rfl⟩:=dn hy
    cases e1
    exact zz h (.inl hb) hx
  · rename_i e' l hb
    obtain ⟨e1,rfl⟩:=dn hy
    cases e1
    exact zz h (.inr hb) hx
  · rename_i u l hb
    simp only [rowAt,hb] at hn
    cases hn
  · cases hy
 | _=>cases hy
theorem Read.cells {s:St} {e:Ty} {l:List (e.den S.C)} {v:Value} (h:Read S w s e l v): ∃ ad cap cs,v= .slice ad l.length cap∧l.length≤cap∧cB w s e l cs∧
 (l.length=0∧cs= []∨ ∃ b o,ad=some ⟨b,o,none⟩∧w.rangeAt b o cs):=by
 obtain ⟨ad,cap,h1,h2,h3⟩:=h
 rcases h3 with h3 | ⟨b,o,h3,h4⟩
 · have :l= []:=List.length_eq_zero_iff.1 h3
   subst this
   exact ⟨ad,cap,[],h1,h2,cB.nil, .inl ⟨rfl,rfl⟩⟩
 · obtain ⟨cs,c1,c2⟩:=Fh h4
   exact ⟨ad,cap,cs,h1,h2,c2, .inr ⟨b,o,h3,c1⟩⟩
theorem Read.src (hP:aL P S af) {s:St} {e:Ty} {l:List (e.den S.C)} {v:Value} (h:Read S w s e l v) {tx:Nat} (ht:S.ty tx=some (.sl e)): ∃ news,Src P (Ty.sz S e) tx v l.length news w∧cB w s e l news:=by
 obtain ⟨te,ie,z,hu,_⟩:=hP.sl ht
 obtain ⟨ad,cap,cs,h1,h2,h3,h4⟩:=h.cells
 refine ⟨cs, ?_,h3⟩
 subst h1
 rcases h4 with ⟨h4,rfl⟩ | ⟨b,o,rfl,h4⟩
 · cases ad with
   | none=>rw [h4]; exact Src.ofNil w hu cap
   | some ad=>exact Src.ofSlice w hu ad _ cap [] h3.1 (fun j u hj=>by simp at hj) (fun u hu=>by simp at hu)
 · exact Src.ofSlice w hu _ _ cap cs h3.1 (fun j u hj=>by rw [Addr.add_mid]; exact h4 j u hj) (B8 P hP.tob6 h3)
theorem Read.old {s:St} {e:Ty} {l:List (e.den S.C)} {ad:Option Addr} {cap:Nat} (P:Program) (h:Read S w s e l (.slice ad l.length cap)): ∃ olds,(Builtin.firstCells (Ty.sz S e) l.length (.slice ad l.length cap)).run P w.drew= .ok olds.toArray w.drew∧cB w s e l olds∧
 (l.length=0∨ ∃ b o,ad=some ⟨b,o,none⟩∧w.rangeAt b o olds):=by
 obtain ⟨iV,cap',cs,h1,h2,h3,h4⟩:=h.cells
 cases h1
 refine ⟨cs, ?_,h3,h4.imp (·.1) id⟩
 rcases h4 with ⟨h4,rfl⟩ | ⟨b,o,rfl,h4⟩
 · cases ad with
   | none=>exact run_firstCells_none _ _ _ _ _
   | some ad=>exact run_firstCells_some _ _ _ ad _ cap [] h3.1 (fun j u hj=>by simp at hj)
 · exact run_firstCells_some _ _ _ _ _ cap cs h3.1 (fun j u hj=>by rw [Addr.add_mid]; simpa using h4 j u hj)
theorem tE (hP:aL P S af) {t tx ty:Nat} {e:Ty} (ht:S.ty t=some (.sl e)) {n m cap:Nat} {base:Option Addr} {x:Value} {news olds:List Value} (hs:Src P (Ty.sz S e) tx x m news w)
 (hold:(Builtin.firstCells (Ty.sz S e) n (.slice base n cap)).run P w.drew= .ok olds.toArray w.drew) (Dv:olds.length=n*Ty.sz S e) (hle:n≤cap) (cN:(n+m)*af t≤limit):
 (m=0∧(Builtin.append_ #[t,tx] ty #[.slice base n cap,x]).run P w= .ok (.slice base n cap) w)∨
 (0<m∧n+m≤cap∧ ∀ b off,base=some ⟨b,off,none⟩→w.there b (off+n*Ty.sz S e) news.length→(Builtin.append_ #[t,tx] ty #[.slice base n cap,x]).run P w= .ok (.slice base (n+m) cap) (w.setCells b (off+n*Ty.sz S e) news))∨
 (∃ c' te cells,cap<n+m∧n+m≤c'∧Array.size cells=c'*Ty.sz S e∧(olds++news) <+: cells.toList∧
  (Builtin.append_ #[t,tx] ty #[.slice base n cap,x]).run P w= .ok (.slice (some ⟨w.heap.size,0,none⟩) (n+m) c') (w.drew.alloc (.cells cells te))):=by
 obtain ⟨te,ie,_,hu,hte,hie,hby,cD,_⟩:=hP.sl ht
 obtain ⟨⟨i,z,h1,h2,h3,h4,h5⟩,_⟩:=hP.ty te _ hte
 rw [hie] at h1
 cases h1
 rw [← h2] at hs hold Dv ⊢
 rcases Nat.eq_zero_or_pos m with h0 | h0
 · left
   subst h0
   have hn:news= []:=by have :=hs.newsLen; rw [Nat.zero_mul] at this; exact List.length_eq_zero_iff.1 this
   subst hn
   exact ⟨rfl,run_append_nothing w t tx ty te ie hu hie base n cap hle x hs⟩
 · right
   by_cases hroom:n+m≤cap
   · left
     refine ⟨h0,hroom, ?_⟩
     rintro b off rfl bX
     exact run_append_room_src w t tx ty te ie hu hie b off n cap x m news hs hroom (fun j hj=>(bX j hj).1) (fun j hj=>(bX j hj).2)
   · right
     have Pb:limit=140737488355328:=rfl
     have h63:((n+m:Nat):Int)≤9223372036854775807:=by
      have :(n+m)*1≤(n+m)*af t:=Nat.mul_le_mul_left _ cD
      omega
     refine ⟨_,te,_,by omega,grownCap_ge w (n+m) cap te, ?_, ?_,run_append_grow_src w t tx ty te ie z hu hie h3 base n cap olds hold x m news hs (by omega) h63 (growslice_fits (by omega) (by rw [hby]; omega))⟩
     · have hg:=grownCap_ge w (n+m) cap te
       have hzs:z.cells.size=ie.size:=by
        have :=congrArg List.length h5
        rw [Array.length_toList] at this
        rw [this,h2]
        cases e <;> simp [pn,Ty.sz]
       rw [Array.size_append,size_zeroCells,hzs,List.size_toArray,List.length_append,Dv,hs.newsLen, ← Nat.add_mul, ← Nat.add_mul]
       congr 1
       omega
     · rw [Array.toList_append,List.toList_toArray]
       exact List.prefix_append _ _
theorem Inv.swap (h:Inv P S w0 M0 s0 dq env a w μ) {b B:Nat} {B0 BX:b9 S.C} {L:Loc} {w':World} {T:St} (hb:env.bx b=some B0) (bp:live S env.bx b) (hB:env.bx B=none)
 (hw:aO w w' T) (hT: ∀ k o,T k o→(μ b).au k o) (hL: ∀ k o,L.au k o→w.heap.size≤k∨(μ b).au k o) (hnc: ∀ vs,BX≠ .cells vs∧BX≠ .bI vs)
 (yx:aV w (ay S w0 M0 s0 env.bx μ w) w' (ay S w0 M0 s0 (ai (ai env.bx b (some .dead)) B (some BX)) (ai μ B L) w')→
  RB P S w' (ay S w0 M0 s0 (ai (ai env.bx b (some .dead)) B (some BX)) (ai μ B L) w') (ai μ B L) (ai (ai env.bx b (some .dead)) B (some BX)) L BX) (hx:kY S (some BX)∨b8 L.ext):
 Inv P S w0 M0 s0 dq { env with bx:=ai (ai env.bx b (some .dead)) B (some BX) } a w' (ai μ B L)∧
 aV w (ay S w0 M0 s0 env.bx μ w) w' (ay S w0 M0 s0 (ai (ai env.bx b (some .dead)) B (some BX)) (ai μ B L) w')∧
 (∀ k o,((μ b).au k o∨k=w.heap.size)→k<w'.heap.size→ ¬ L.au k o→ay S w0 M0 s0 (ai (ai env.bx b (some .dead)) B (some BX)) (ai μ B L) w' k o):=by
 have hne:b≠B:=fun e=>by rw [e,hB] at hb; cases hb
 have hbd:ai (ai env.bx b (some .dead)) B (some BX) b=some .dead:=by rw [aY _ _ hne,aI]
 have yo:ai (ai env.bx b (some .dead)) B (some BX) B=some BX:=aI _ _ _
 have hU: ∀ i, ¬ (i=b∨i=B)→ai (ai env.bx b (some .dead)) B (some BX) i=env.bx i∧ai μ B L i=μ i:=fun i hi=>by
  rw [aY _ _ fun e=>hi (.inr e),aY _ _ fun e=>hi (.inl e),aY _ _ fun e=>hi (.inr e)]
  exact ⟨rfl,rfl⟩
 have gQ: ¬ live S (ai (ai env.bx b (some .dead)) B (some BX)) b:=fun hl=>by unfold live at hl; rw [hbd] at hl; exact hl
 have hf: ∀ i,(i=b∨i=B)→live S (ai (ai env.bx b (some .dead)) B (some BX)) i→ ∀ k o,(ai μ B L i).au k o→w.heap.size≤k∨ ∃ j,(j=b∨j=B)∧live S env.bx j∧(μ j).au k o:=by
  rintro i (rfl | rfl) hl k o hfo
  · exact absurd hl gQ
  · rw [aI] at hfo
    exact (hL k o hfo).imp id fun hfo=>⟨b, .inl rfl,bp,hfo⟩
 have gq: ∀ k o,T k o→k<w.heap.size→ ∃ i,(i=b∨i=B)∧live S env.bx i∧(μ i).au k o:=fun k o ht _=>⟨b, .inl rfl,bp,hT k o ht⟩
 have hl:=h.later hw gq hU hf
 refine ⟨h.step (U:=fun i=>i=b∨i=B) hw gq hU hf ?_ ?_ ?_ ?_ ?_,hl, ?_⟩
 · intro i B1 hi
   by_cases e1:i=b
   · subst e1
     refine ⟨_,hbd, ?_⟩
     rw [aY _ _ hne]
     cases B1 <;> rfl
   · have e2:i≠B:=fun e=>by rw [e,hB] at hi; cases hi
     rw [aY _ _ e2,aY _ _ e1,aY _ _ e2]
     exact ⟨B1,hi,cl.refl S _ _⟩
 · rintro i j (rfl | rfl) (rfl | rfl) hij li lj
   · exact absurd rfl hij
   · exact absurd li gQ
   · exact absurd lj gQ
   · exact absurd rfl hij
 · rintro i B1 (rfl | rfl) jr
   · rw [hbd] at jr; cases jr; trivial
   · rw [yo] at jr; cases jr
     rw [aI]
     exact yx hl
 · rintro i vs (rfl | rfl) hvs
   · rcases hvs with hvs | hvs <;> · rw [hbd] at hvs; cases hvs
   · rcases hvs with hvs | hvs <;> rw [yo] at hvs
     · exact absurd (Option.some.inj hvs) (hnc vs).1
     · exact absurd (Option.some.inj hvs) (hnc vs).2
 · rintro i (rfl | rfl) n_
   · exact absurd n_ gQ
   · rw [yo,aI]; exact hx
 · intro k o' hk hlt J2
   refine ⟨hlt, ?_,fun i li hfo=> ?_⟩
   · rcases hk with hk | rfl
     · exact (h.own b bp k o' hk).elim (fun h=> .inr (.inr h)) (fun h=> .inr (.inl h))
     · exact .inr (.inr h.gN.size)
   · by_cases e1:i=b
     · subst e1; exact gQ li
     · by_cases e2:i=B
       · subst e2; rw [aI] at hfo; exact J2 hfo
       · have hu:=hU i fun e=>e.elim e1 e2
         rw [dD S hu.1] at li
         rw [hu.2] at hfo
         rcases hk with hk | rfl
         · exact h.cO i b e1 li bp _ _ hfo hk
         · exact absurd (jy P S (h.bw i) (h.ext i li) li hfo).1 (Nat.lt_irrefl _)
end
end Go.Sy
namespace Go.Sy
section
variable {P:Program} {S:aK} {af:Nat→Nat}
variable {w0:World} {M0 s0:St} {dq:List Deferred} {env:Env S.C} {a:Act} {w:World} {μ:Nat→Loc} {K:Act→World→Prop} {Q:Exit→Act→World→Prop} {o:Oper} {V:V S.C} {us:aA S.C}
theorem A5 {s:St} {e:Ty} {l:List (e.den S.C)} {b o' cap:Nat} (hle:l.length≤cap)
 (hall: ∀ (i:Nat) (x:e.den S.C),l[i]? =some x→ ∃ ds,ds.length=Ty.sz S e∧At w s b (o'+i*Ty.sz S e) ds∧ ∃ n,av S w s n e x ds):bV S w s (.sl e) l (.slice (some ⟨b,o',none⟩) l.length cap):=by
 have : ∀ m,m≤l.length→ ∃ n, ∀ (i:Nat) (x:e.den S.C),i<m→l[i]? =some x→ ∃ ds,ds.length=Ty.sz S e∧At w s b (o'+i*Ty.sz S e) ds∧av S w s n e x ds:=by
  intro m
  induction m with
  | zero=>exact fun _=>⟨0,fun i x hi=>by omega⟩
  | succ m ih=>
   intro hm
   obtain ⟨n,hn⟩:=ih (by omega)
   obtain ⟨ds,h1,h2,n',h3⟩:=hall m l[m] (by simp)
   refine ⟨max n n',fun i x hi hx=> ?_⟩
   by_cases e:i=m
   · subst e
     have :x=l[i]:=by simpa [List.getElem?_eq_getElem (show i<l.length by omega)] using hx.symm
     subst this
     exact ⟨ds,h1,h2,h3.up S (by omega)⟩
   · obtain ⟨ds,h1,h2,h3⟩:=hn i x (by omega) hx
     exact ⟨ds,h1,h2,h3.up S (by omega)⟩
 obtain ⟨n,hn⟩:=this l.length (Nat.le_refl _)
 exact ⟨rfl,n+1,_,cap,rfl,hle, .inr ⟨b,o',rfl,fun i x hx=>hn i x (List.getElem?_eq_some_iff.1 hx).1 hx⟩⟩
theorem cB.at {s:St} {e:Ty} {l:List (e.den S.C)} {cs:List Value} (h:cB w s e l cs) {b o':Nat} (hr:At w s b o' cs):
 ∀ i x,l[i]? =some x→ ∃ ds,ds.length=Ty.sz S e∧At w s b (o'+i*Ty.sz S e) ds∧ ∃ n,av S w s n e x ds:=fun i x hi=>by
 obtain ⟨n,hn⟩:=h.2 i x hi
 exact ⟨_,hn.length S,hr.part _ _,n,hn⟩
theorem Hh {s:St} {e:Ty} {l l':List (e.den S.C)} {b o':Nat}
 (h1: ∀ i x,l[i]? =some x→ ∃ ds,ds.length=Ty.sz S e∧At w s b (o'+i*Ty.sz S e) ds∧ ∃ n,av S w s n e x ds)
 (h2: ∀ i x,l'[i]? =some x→ ∃ ds,ds.length=Ty.sz S e∧At w s b (o'+l.length*Ty.sz S e+i*Ty.sz S e) ds∧ ∃ n,av S w s n e x ds):
 ∀ i x,(l++l')[i]? =some x→ ∃ ds,ds.length=Ty.sz S e∧At w s b (o'+i*Ty.sz S e) ds∧ ∃ n,av S w s n e x ds:=fun i x hi=>by
 by_cases hlt:i<l.length
 · rw [List.getElem?_append_left hlt] at hi; exact h1 i x hi
 · rw [List.getElem?_append_right (by omega)] at hi
   have :=h2 _ x hi
   rw [Nat.add_assoc, ← Nat.add_mul,show l.length+(i - l.length)=i from by omega] at this
   exact this
theorem rC {s:St} {e:Ty} {l l':List (e.den S.C)} {b o':Nat}
 (h1: ∀ i x,l[i]? =some x→ ∃ ds,ds.length=Ty.sz S e∧w.rangeAt b (o'+i*Ty.sz S e) ds∧ ∃ n,av S w s n e x ds)
 (h2: ∀ i x,l'[i]? =some x→ ∃ ds,ds.length=Ty.sz S e∧w.rangeAt b (o'+l.length*Ty.sz S e+i*Ty.sz S e) ds∧ ∃ n,av S w s n e x ds):
 ∀ i x,(l++l')[i]? =some x→ ∃ ds,ds.length=Ty.sz S e∧w.rangeAt b (o'+i*Ty.sz S e) ds∧ ∃ n,av S w s n e x ds:=fun i x hi=>by
 by_cases hlt:i<l.length
 · rw [List.getElem?_append_left hlt] at hi; exact h1 i x hi
 · rw [List.getElem?_append_right (by omega)] at hi
   have :=h2 _ x hi
   rw [Nat.add_assoc, ← Nat.add_mul,show l.length+(i - l.length)=i from by omega] at this
   exact this
theorem nD (h:Inv P S w0 M0 s0 dq env a w μ) (hd: ∀ d,o.dst=some d→d<a.tmps.size) {b B:Nat} {B0 BX:b9 S.C} {L:Loc} {w':World} {T:St} {v:Value} (hb:env.bx b=some B0) (bp:live S env.bx b) (hB:env.bx B=none)
 (hrun:(execOp a.eval o).run P w= .ok (.value v) w')
 (hw:aO w w' T) (hT: ∀ k o,T k o→(μ b).au k o) (hL: ∀ k o,L.au k o→w.heap.size≤k∨(μ b).au k o) (hnc: ∀ vs,BX≠ .cells vs∧BX≠ .bI vs)
 (yx: ∀ s',aV w (ay S w0 M0 s0 env.bx μ w) w' s'→RB P S w' s' (ai μ B L) (ai (ai env.bx b (some .dead)) B (some BX)) L BX)
 (hV: ∀ s',aV w (ay S w0 M0 s0 env.bx μ w) w' s'→(∀ k o,((μ b).au k o∨k=w.heap.size)→k<w'.heap.size→ ¬ L.au k o→s' k o)→
  RV P S w' s' (ai μ B L) (ai (ai env.bx b (some .dead)) B (some BX)) V v)
 (js: ∀ i ∈ aq S V,i=B) (hK:Goal P S w0 M0 s0 dq env a o.dst V [(b, .dead),(B,BX)] K) (Kr:kY S (some BX)∨b8 L.ext:=by first | exact .inr (fun _ _ h=>h) | exact .inr (by assumption)):o.wp P a w K Q:=by
 obtain ⟨hI,hl,hm⟩:=h.swap hb bp hB hw hT hL hnc (yx _) Kr
 unfold Oper.wp
 rw [hrun]
 refine hK _ w' _ (hI.put hd (hV _ hl hm) fun i hi=> ?_) ?_
 · rw [js i hi]
   show ai (ai env.bx b (some .dead)) B (some BX) B≠none
   rw [aI]; simp
 · cases o.dst <;> simp [Act.put]
theorem w_ {f:Operand→Option (Sy.V S.C)} {xs:List Operand} {v u:Sy.V S.C} (h:xs.mapM f=some [v,u]): ∃ x y,xs= [x,y]∧f x=some v∧f y=some u:=by
 cases xs with
 | nil=>cases h
 | cons x r=>
  obtain ⟨y,zs,h1,h2,h3⟩:=k7 h
  cases h3
  cases r with
  | nil=>cases h2
  | cons x' r'=>
   obtain ⟨y',zs',h4,h5,h6⟩:=k7 h2
   cases h6
   cases r' with
   | nil=>exact ⟨x,x',rfl,h1,h4⟩
   | cons x'' r''=>
    obtain ⟨y',zs',h7,h8,h9⟩:=k7 h5
    cases h9
theorem aO.grown {w:World} {cells:Array Value} {t:TypeId} (T:St):aO w (w.drew.alloc (.cells cells t)) T:=
 (aO.drew w T).trans (aO.alloc w.drew _ T) (fun _ _ h=>h) (fun _ _ _ h=>h)
theorem ym {w:World} {cells:Array Value} {t:TypeId} :(w.drew.alloc (.cells cells t)).there w.heap.size 0 cells.size∧(w.drew.alloc (.cells cells t)).rangeAt w.heap.size 0 cells.toList∧w.heap.size<(w.drew.alloc (.cells cells t)).heap.size:=by
 obtain ⟨h1,h2⟩:=ld (w:=w.drew) (cs:=cells) (t:=t)
 exact ⟨h1,h2,by simp⟩
theorem vM {w:World} {b o':Nat} {cs ds:List Value} (h:w.rangeAt b o' ds) (hp:cs <+: ds):w.rangeAt b o' cs:=fun j v hj=>by
 obtain ⟨r,rfl⟩:=hp
 exact h j v (by rw [List.getElem?_append_left (List.getElem?_eq_some_iff.1 hj).1]; exact hj)
theorem Ls {α:Type} (l:List α) {n i m:Int} (h0:0≤n) (h1:n≤i) (h2:0≤m) (h3:i.toNat+m.toNat≤l.length):(k8 l n i m).length=l.length:=by
 unfold k8
 simp only [List.length_append,List.length_take,List.length_drop]
 omega
theorem Hi (hP:aL P S af) (h:Inv P S w0 M0 s0 dq env a w μ) (hd: ∀ d,o.dst=some d→d<a.tmps.size) {c:Call} (ho:o.op= .call c) (hc:c.callee= .builtin .append) {args:List (Sy.V S.C)} {ids:List Nat} {B:Nat}
 (hargs:c.args.toList.mapM (aE S env.tm)=some args) (cE: ∀ V ∈ args, ∀ i ∈ aq S V,restrict S env.bx ids i=env.bx i)
 (hnew: ∀ u ∈ us,B≤u.1→u.1<B+16→env.bx u.1=none) (hrows: ∀ s V,args= [s,V]→rowAt S env.bx V=none)
 (hl:(match args,c.argTypes.toList with
  | [s,x],[t,u]=>match dO S t,dO S u with
   | some e,some e'=>if e=e' then pG S B (af t) e (restrict S env.bx ids) x s else .fail
   | _,_=> .fail
  | _,_=> .fail).leaf (V,us)) (hK:Goal P S w0 M0 s0 dq env a o.dst V us K):o.wp P a w K Q:=by
 split at hl
 · rename_i Vs Vx t tx mY
   split at hl
   · rename_i e e' het pY
     split at hl
     · rename_i hee
       subst hee
       obtain ⟨xs,xx,hxs,ke,hex⟩:=w_ hargs
       obtain ⟨hs,_⟩:=aW h ke
       obtain ⟨hx,_⟩:=aW h hex
       have ht:=jo het
       have lZ:=jo pY
       have cw:c.argTypes= #[t,tx]:=by
        have :c.argTypes=c.argTypes.toList.toArray:=by simp
        rw [this,mY]
       have har:c.args= #[xs,xx]:=by
        have :c.args=c.args.toList.toArray:=by simp
        rw [this,hxs]
       have hrun: ∀ {v:Value} {w':World},(Builtin.append_ #[t,tx] o.type #[a.eval xs,a.eval xx]).run P w= .ok v w'→(execOp a.eval o).run P w= .ok (.value v) w':=by
        intro v w' hr
        unfold execOp
        simp only [ho]
        simp [resolve,hc,har,cw,invoke,builtin,hr]
       have uW: ∀ BX,(B,BX) ∈ us→env.bx B=none:=fun BX hm=>hnew _ hm (Nat.le_refl _) (by show B<B+16; omega)
       have pX: ∀ y,datum S (restrict S env.bx ids) (.sl e) Vx=some y→datum S env.bx (.sl e) Vx=some y:=fun y hy=>by
        rw [← (rO (t:= .sl e) (cE Vx (by simp))).1]; exact hy
       cases Vs with
       | aP b e' l=>
        simp only [pG] at hl
        split at hl
        · rename_i hb
          have hb:=dG hb
          split at hl
          · rename_i l' hl'
            obtain ⟨e1,e2⟩:=dn hl'
            cases e1
            dsimp only at e2
            subst e2
            split at hl
            · rename_i y hy
              obtain ⟨hg,rfl,rfl⟩:=ee hl
              have cN:(l.length+y.length)*af t≤limit:=hg (gd ((l.length+y.length)*af t≤limit)) (by simp)
              have hB:=uW .tail (by simp)
              obtain ⟨i_,hown⟩:=hs
              obtain ⟨ad,cap,fE,DG⟩:=hown hb
              obtain ⟨news,hsrc,hnews⟩:=(xK h hx (pX y hy) (hrows _ Vx rfl)).src hP lZ
              have hread:=i_.read
              rw [fE] at hread
              have hle:l.length≤cap:=by obtain ⟨_,_,q1,q2,_⟩:=hread; cases q1; exact q2
              obtain ⟨olds,hold,holds,_⟩:=hread.old P
              have bp:live S env.bx b:=by unfold live; rw [hb]; trivial
              have yI:b8 (μ b).ext:=(h.ext b bp).resolve_left (by rw [hb]; exact id)
              have bX:w.there (μ b).b (μ b).o (μ b).n:=h.bw b _ hb
              have js: ∀ i ∈ aq S (.aP B e (List.append l y):Sy.V S.C),i=B:=fun i hi=>by simpa [aq,ak] using hi
              rcases tE (ty:=o.type) hP ht hsrc hold holds.1 hle cN with ⟨h0,hr⟩ | ⟨h0,hroom,hr⟩ | ⟨c',te,cells,hcap,fY,n6,hpre,hr⟩
              · have :y= []:=List.length_eq_zero_iff.1 h0
                subst this
                rw [← fE] at hr
                refine nD (V:= .aP B e (List.append l [])) (BX:= .tail) (L:=μ b) h hd hb bp hB (hrun hr) (aO.refl w (fun _ _=>False)) (fun _ _ h=>h.elim) (fun _ _ h=> .inr h) (fun vs=>⟨by simp,by simp⟩) (fun s' hl=>bX) (fun s' hl _=>⟨?_,fun _=>⟨ad,cap, ?_, ?_⟩⟩) js hK
                · rw [show List.append l []=l from List.append_nil l]; exact i_.mono S hl
                · rw [show List.append l []=l from List.append_nil l]; exact fE
                · rw [show List.append l []=l from List.append_nil l,aI]; exact DG
              · have hnl:=hsrc.newsLen
                rcases DG with ⟨_,hc0,_⟩ | ⟨b0,off,rfl,hn,hlt⟩
                · omega
                · obtain ⟨q1,q2⟩:=hlt (by omega)
                  have hmul:y.length*Ty.sz S e≤(cap - l.length)*Ty.sz S e:=Nat.mul_le_mul_right _ (by omega)
                  have hsplit:(cap - l.length)*Ty.sz S e=y.length*Ty.sz S e+(cap - (l.length+y.length))*Ty.sz S e:=by rw [← Nat.add_mul]; congr 1; omega
                  have hsum:(l.length+y.length)*Ty.sz S e=l.length*Ty.sz S e+y.length*Ty.sz S e:=Nat.add_mul ..
                  rw [q1,q2] at bX
                  have eT:w.there b0 (off+l.length*Ty.sz S e) news.length:=jQ bX (Nat.le_refl _) (by omega)
                  have hr:=hr b0 off rfl eT
                  rw [← fE] at hr
                  refine nD (V:= .aP B e (List.append l y)) (BX:= .tail) (L:=⟨b0,off+(l.length+y.length)*Ty.sz S e,(cap - (l.length+y.length))*Ty.sz S e,0,false,fun _ _=>False⟩) h hd hb bp hB (hrun hr) (aO.setCells w b0 _ news eT) (fun k o' hk=> ?_) (fun k o' hk=> .inr ?_) (fun vs=>⟨by simp,by simp⟩)
                   (fun s' hl=> ?_) (fun s' hl hm=>⟨?_,fun _=>⟨some ⟨b0,off,none⟩,cap, ?_, ?_⟩⟩) js hK
                  · exact .inl ⟨by rw [q1]; exact hk.1,by omega,by omega⟩
                  · obtain ⟨k1,k2,k3⟩:=Loc.ig (fun _ _ h=>h) hk
                    dsimp only at k1 k2 k3
                    exact .inl ⟨by rw [q1]; exact k1,by omega,by omega⟩
                  · exact nv (jQ bX (by dsimp only; omega) (by dsimp only; omega)) eT
                  · have hv:a.eval xs= .slice (some ⟨b0,off,none⟩) l.length cap:=fE
                    obtain ⟨_,_,z1,z2,z3⟩:=jl i_
                    rw [hv] at z1
                    cases z1
                    have hel: ∀ i x,l[i]? =some x→ ∃ ds,ds.length=Ty.sz S e∧At (w.setCells b0 (off+l.length*Ty.sz S e) news) s' b0 (off+i*Ty.sz S e) ds∧ ∃ n,av S (w.setCells b0 (off+l.length*Ty.sz S e) news) s' n e x ds:=by
                     intro i x hi
                     rcases z3 with z3 | ⟨b1,o1,n,z4,z5⟩
                     · have :=(List.getElem?_eq_some_iff.1 hi).1; omega
                     · cases z4
                       obtain ⟨ds,d1,d2,d3⟩:=z5 i x hi
                       exact ⟨ds,d1,d2.later hl,n,d3.mono S hl (Nat.le_refl _)⟩
                    have hnew2:At (w.setCells b0 (off+l.length*Ty.sz S e) news) s' b0 (off+l.length*Ty.sz S e) news:=fun j v hj=>by
                     have hjl:=(List.getElem?_eq_some_iff.1 hj).1
                     have jt:=qm eT j v hj
                     refine ⟨jt,hm _ _ (.inl (.inl ⟨by rw [q1],by omega,by omega⟩)) (World.block_lt_of_cell? _ _ jt) fun hf=> ?_⟩
                     have :=(Loc.ig (fun _ _ h=>h) hf).2.1
                     dsimp only at this
                     omega
                    have :=A5 (cap:=cap) (b:=b0) (o':=off) (l:=List.append l y) (by rw [show (List.append l y).length=l.length+y.length from List.length_append]; exact hroom) (Hh hel ((hnews.later hl).at hnew2))
                    rw [show (List.append l y).length=l.length+y.length from List.length_append] at this
                    exact this
                  · show Value.slice _ _ _=_
                    rw [show (List.append l y).length=l.length+y.length from List.length_append]
                  · rw [show (List.append l y).length=l.length+y.length from List.length_append,aI]
                    exact .inr ⟨b0,off,rfl,rfl,fun _=>⟨rfl,rfl⟩⟩
              · rw [← fE] at hr
                obtain ⟨g1,g2,g3⟩:=ym (w:=w) (cells:=cells) (t:=te)
                have hsplit:c'*Ty.sz S e=(l.length+y.length)*Ty.sz S e+(c' - (l.length+y.length))*Ty.sz S e:=by rw [← Nat.add_mul]; congr 1; omega
                refine nD (V:= .aP B e (List.append l y)) (BX:= .tail) (L:=⟨w.heap.size,(l.length+y.length)*Ty.sz S e,(c' - (l.length+y.length))*Ty.sz S e,0,false,fun _ _=>False⟩) h hd hb bp hB (hrun hr) (aO.grown (fun _ _=>False)) (fun _ _ h=>h.elim) (fun k o' hk=> .inl (Nat.le_of_eq (Loc.ig (fun _ _ h=>h) hk).1.symm)) (fun vs=>⟨by simp,by simp⟩)
                 (fun s' hl=>jQ g1 (Nat.zero_le _) (by dsimp only; omega)) (fun s' hl hm=>⟨?_,fun _=>⟨some ⟨w.heap.size,0,none⟩,c', ?_, ?_⟩⟩) js hK
                · have hall:At (w.drew.alloc (.cells cells te)) s' w.heap.size 0 (olds++news):=fun j v hj=>by
                   have hjl:=(List.getElem?_eq_some_iff.1 hj).1
                   rw [List.length_append,holds.1,hnews.1, ← Nat.add_mul] at hjl
                   refine ⟨vM g2 hpre j v hj,hm _ _ (.inr rfl) g3 fun hf=> ?_⟩
                   have :=(Loc.ig (fun _ _ h=>h) hf).2.1
                   dsimp only at this
                   omega
                  have :=A5 (cap:=c') (b:=w.heap.size) (o':=0) (l:=List.append l y) (by rw [show (List.append l y).length=l.length+y.length from List.length_append]; exact fY) (((holds.append hnews).later hl).at hall)
                  rw [show (List.append l y).length=l.length+y.length from List.length_append] at this
                  exact this
                · show Value.slice _ _ _=_
                  rw [show (List.append l y).length=l.length+y.length from List.length_append]
                · rw [show (List.append l y).length=l.length+y.length from List.length_append,aI]
                  exact .inr ⟨_,0,rfl,rfl,fun _=>⟨rfl,by dsimp only; omega⟩⟩
            · exact hl.elim
          · exact hl.elim
        · exact hl.elim
       | az b=>
        simp only [pG] at hl
        split at hl
        · rename_i e' l hb
          have hb:=dG hb
          split at hl
          · rename_i l' hl'
            obtain ⟨e1,e2⟩:=dn hl'
            cases e1
            dsimp only at e2
            subst e2
            split at hl
            · rename_i y hy
              obtain ⟨hg,rfl,rfl⟩:=ee hl
              have cN:(l.length+y.length)*af t≤limit:=hg (gd ((l.length+y.length)*af t≤limit)) (by simp)
              have hB:=uW (.arr e (List.append l y)) (by simp)
              have hread:=zz h (.inl hb) hs
              obtain ⟨ad,cap,fE,fl⟩:=hs.2 e l (.inl hb)
              obtain ⟨news,hsrc,hnews⟩:=(xK h hx (pX y hy) (hrows _ Vx rfl)).src hP lZ
              rw [fE] at hread
              have hle:l.length≤cap:=fl.fits
              obtain ⟨olds,hold,holds,_⟩:=hread.old P
              have bp:live S env.bx b:=by unfold live; rw [hb]; trivial
              have yI:b8 (μ b).ext:=(h.ext b bp).resolve_left (by rw [hb]; exact id)
              obtain ⟨b1,b2,b3,bX,b5⟩:=h.bw b _ hb
              have js: ∀ i ∈ aq S (.az B:Sy.V S.C),i=B:=fun i hi=>by simpa [aq,ak] using hi
              have Jr:=fl.dW
              have cn: ∀ {w':World} {s':St} {μ':Nat→Loc} {L:Loc} {v:Value} {iV:Option Addr} {cap':Nat},v= .slice iV (l.length+y.length) cap'→gL L iV (l.length+y.length) cap' (Ty.sz S e)→μ' B=L→
               RV P S w' s' μ' (ai (ai env.bx b (some .dead)) B (some (.arr e (List.append l y)))) (.az B) v:=by
               rintro w' s' μ' L v iV cap' rfl hok hμ
               refine ⟨⟨⟨_,_,_,rfl⟩,fun u2 l2 q2 h2=>by rw [aI] at h2; cases h2⟩,fun e2 l2 h2=> ?_⟩
               rw [aI] at h2
               rcases h2 with h2 | h2
               · cases h2
                 rw [hμ,show (List.append l y).length=l.length+y.length from List.length_append]
                 exact ⟨iV,cap',rfl,hok⟩
               · cases h2
              rcases tE (ty:=o.type) hP ht hsrc hold holds.1 hle cN with ⟨h0,hr⟩ | ⟨h0,hroom,hr⟩ | ⟨c',te,cells,hcap,fY,n6,hpre,hr⟩
              · have :y= []:=List.length_eq_zero_iff.1 h0
                subst this
                rw [← fE] at hr
                refine nD (V:= .az B) (BX:= .arr e (List.append l [])) (L:=μ b) h hd hb bp hB (hrun hr) (aO.refl w (fun _ _=>False)) (fun _ _ h=>h.elim) (fun _ _ h=> .inr h) (fun vs=>⟨by simp,by simp⟩) (fun s' hl=> ?_) (fun s' hl _=>cn fE fl (aI _ _ _)) js hK
                rw [show List.append l []=l from List.append_nil l]
                refine ⟨b1,b2,b3,bX,fun i x hi=> ?_⟩
                obtain ⟨ds,d1,d2,n,d3⟩:=b5 i x hi
                exact ⟨ds,d1,d2,n,d3.mono S hl (Nat.le_refl _)⟩
              · have hnl:=hsrc.newsLen
                have fD:(μ b).nil=false:=by
                 cases hn:(μ b).nil with
                 | false=>rfl
                 | true=>have :=fl.isNil hn; omega
                have had:=fl.addr
                rw [fD] at had
                have hmul:(l.length+y.length)*Ty.sz S e≤(μ b).cap*Ty.sz S e:=Nat.mul_le_mul_right _ (by omega)
                rw [Nat.add_mul] at hmul
                have eT:w.there (μ b).b ((μ b).o+l.length*Ty.sz S e) news.length:=jQ bX (by omega) (by omega)
                have hr:=hr _ _ had eT
                rw [← fE] at hr
                refine nD (V:= .az B) (BX:= .arr e (List.append l y)) (L:=μ b) h hd hb bp hB (hrun hr) (aO.setCells w (μ b).b _ news eT) (fun k o' hk=> .inl ⟨hk.1,by omega,by omega⟩) (fun k o' hk=> .inr hk) (fun vs=>⟨by simp,by simp⟩)
                 (fun s' hl=>⟨b1,b2, ?_,nv bX eT, ?_⟩) (fun s' hl hm=>cn (cap':=cap) rfl ?_ (aI _ _ _)) js hK
                · rw [show (List.append l y).length=l.length+y.length from List.length_append]; omega
                · refine rC (fun i x hi=> ?_) ((hnews.later hl).row (qm eT))
                  obtain ⟨ds,d1,d2,n,d3⟩:=b5 i x hi
                  refine ⟨ds,d1,m5 d2 (.inr (.inl ?_)),n,d3.mono S hl (Nat.le_refl _)⟩
                  have yN:=(List.getElem?_eq_some_iff.1 hi).1
                  have :(i+1)*Ty.sz S e≤l.length*Ty.sz S e:=Nat.mul_le_mul_right _ (by omega)
                  rw [Nat.add_mul,Nat.one_mul] at this
                  omega
                · exact ⟨fl.addr,fl.dW,fl.cells,fl.isNil,hroom⟩
              · rw [← fE] at hr
                obtain ⟨g1,g2,g3⟩:=ym (w:=w) (cells:=cells) (t:=te)
                refine nD (V:= .az B) (BX:= .arr e (List.append l y)) (L:=⟨w.heap.size,0,c'*Ty.sz S e,c',false,fun _ _=>False⟩) h hd hb bp hB (hrun hr) (aO.grown (fun _ _=>False)) (fun _ _ h=>h.elim) (fun k o' hk=> .inl (Nat.le_of_eq (Loc.ig (fun _ _ h=>h) hk).1.symm)) (fun vs=>⟨by simp,by simp⟩)
                 (fun s' hl=>⟨rfl,(fun h=>by cases h), ?_,by show World.there _ w.heap.size 0 (c'*Ty.sz S e); rw [← n6]; exact g1, ?_⟩) (fun s' hl hm=>cn (cap':=c') rfl ⟨rfl,rfl,rfl,(fun h=>by cases h),fY⟩ (aI _ _ _)) js hK
                · rw [show (List.append l y).length=l.length+y.length from List.length_append]; exact fY
                · exact ((holds.append hnews).later hl).row (vM g2 hpre)
            · exact hl.elim
          · exact hl.elim
        · exact hl.elim
       | pre b n=>
        simp only [pG] at hl
        split at hl
        · rename_i e' l b' i m hb _
          have hb:=dG hb
          cases sq:Nat.beq b' b with
          | false=>rw [sq] at hl; exact hl.elim
          | true=>
           rw [sq,cond_true] at hl
           have :=Nat.eq_of_beq_eq_true sq
           subst this
           split at hl
           · rename_i l' hl'
             obtain ⟨e1,e2⟩:=dn hl'
             cases e1
             dsimp only at e2
             subst e2
             obtain ⟨hg,rfl,rfl⟩:=ee hl
             have hni:n≤i:=hg (gd (n≤i)) (by simp)
             have JT:List.length l*af t≤limit:=hg (gd (List.length l*af t≤limit)) (by simp)
             have hB:=uW (.arr e (k8 l n i m)) (by simp)
             obtain ⟨hn0,hnl,ad,cap,fE,fl⟩:=hs.2 e l hb
             obtain ⟨p5,hm0,yO,w6,BT,y9,JZ,Jh⟩:=hx.2 e l hb
             obtain ⟨b1,b2,b3,bX,b5⟩:=h.bw b' _ hb
             have Jr:=fl.dW
             have bp:live S env.bx b':=by unfold live; rw [hb]; trivial
             have yI:b8 (μ b').ext:=(h.ext b' bp).resolve_left (by rw [hb]; exact id)
             obtain ⟨y,hy⟩: ∃ y,y=(List.drop i.toNat l).take m.toNat:=⟨_,rfl⟩
             have Kw:y.length=m.toNat:=by rw [hy,List.length_take,List.length_drop]; omega
             have Ku: ∀ k x,y[k]? =some x→l[i.toNat+k]? =some x:=fun k x hk=>by
              rw [hy,List.getElem?_take] at hk
              split at hk
              · rwa [List.getElem?_drop] at hk
              · cases hk
             have hrd:Read S w (ay S w0 M0 s0 env.bx μ w) e y (a.eval xx):=by
              refine ⟨w6,BT,by rw [Kw]; exact y9,by omega, ?_⟩
              rcases Jh with h0 | h0
              · exact .inl (by omega)
              · refine .inr ⟨_,_,h0,fun k x hk=> ?_⟩
                obtain ⟨ds,d1,d2,q,d3⟩:=b5 _ x (Ku k x hk)
                exact ⟨ds,d1,by rw [show (μ b').o+i.toNat*Ty.sz S e+k*Ty.sz S e=(μ b').o+(i.toNat+k)*Ty.sz S e from by rw [Nat.add_mul]; omega]; exact d2,q,d3⟩
             have iZ:(List.take n.toNat l).length=n.toNat:=by rw [List.length_take]; omega
             have J_:Read S w (ay S w0 M0 s0 env.bx μ w) e (List.take n.toNat l) (.slice ad (List.take n.toNat l).length cap):=by
              refine ⟨ad,cap,rfl,by rw [iZ]; exact fl.fits, ?_⟩
              by_cases h0:n.toNat=0
              · exact .inl (by rw [iZ]; exact h0)
              · have fD:(μ b').nil=false:=by
                 cases hn:(μ b').nil with
                 | false=>rfl
                 | true=>have :=fl.isNil hn; have :=fl.fits; omega
                have had:=fl.addr
                rw [fD] at had
                refine .inr ⟨_,_,had,fun k x hk=> ?_⟩
                rw [List.getElem?_take] at hk
                split at hk
                · exact b5 k x hk
                · cases hk
             obtain ⟨news,hsrc,hnews⟩:=hrd.src hP lZ
             obtain ⟨olds,hold,holds,_⟩:=J_.old P
             rw [iZ] at hold
             have hol:=holds.1
             rw [iZ] at hol
             have cN:(n.toNat+y.length)*af t≤limit:=Nat.le_trans (Nat.mul_le_mul_right _ (by omega)) JT
             have js: ∀ j ∈ aq S (.pre B (n+m):Sy.V S.C),j=B:=fun j hj=>by simpa [aq,ak] using hj
             have hml:=Ls l hn0 hni hm0 yO
             have hnm:(n+m).toNat=n.toNat+y.length:=by omega
             have cn: ∀ {w':World} {s':St} {μ':Nat→Loc} {v:Value},v= .slice ad (n.toNat+y.length) cap→μ' B=μ b'→
              RV P S w' s' μ' (ai (ai env.bx b' (some .dead)) B (some (.arr e (k8 l n i m)))) (.pre B (n+m)) v:=by
              rintro w' s' μ' v rfl hμ
              refine ⟨⟨_,_,_,rfl⟩,fun e2 l2 h2=> ?_⟩
              rw [aI] at h2
              cases h2
              rw [hμ,hml]
              exact ⟨by omega,by omega,ad,cap,by rw [hnm],fl.addr,fl.dW,fl.cells,fl.isNil,by omega⟩
             have Dr:k8 l n i m=(List.take n.toNat l++y)++List.drop (n.toNat+y.length) l:=by
              unfold k8; rw [hnm,hy]
             rcases tE (ty:=o.type) hP ht hsrc hold hol fl.fits cN with ⟨h0,hr⟩ | ⟨h0,hroom,hr⟩ | ⟨c',te,cells,hcap,fY,n6,hpre,hr⟩
             · have hy0:y= []:=List.length_eq_zero_iff.1 h0
               rw [← fE] at hr
               refine nD (V:= .pre B (n+m)) (BX:= .arr e (k8 l n i m)) (L:=μ b') h hd hb bp hB (hrun hr) (aO.refl w (fun _ _=>False)) (fun _ _ h=>h.elim) (fun _ _ h=> .inr h) (fun vs=>⟨by simp,by simp⟩) (fun s' hl=> ?_) (fun s' hl _=>cn (by rw [fE,h0]; rfl) (aI _ _ _)) js hK
               have :k8 l n i m=l:=by rw [Dr,hy0]; simp
               rw [this]
               refine ⟨b1,b2,b3,bX,fun i x hi=> ?_⟩
               obtain ⟨ds,d1,d2,n,d3⟩:=b5 i x hi
               exact ⟨ds,d1,d2,n,d3.mono S hl (Nat.le_refl _)⟩
             · have Pe:=hsrc.newsLen
               have fD:(μ b').nil=false:=by
                cases hn:(μ b').nil with
                | false=>rfl
                | true=>have :=fl.isNil hn; omega
               have had:=fl.addr
               rw [fD] at had
               have hmul:(n.toNat+y.length)*Ty.sz S e≤(μ b').cap*Ty.sz S e:=Nat.mul_le_mul_right _ (by omega)
               have hsum:(n.toNat+y.length)*Ty.sz S e=n.toNat*Ty.sz S e+y.length*Ty.sz S e:=Nat.add_mul ..
               have eT:w.there (μ b').b ((μ b').o+n.toNat*Ty.sz S e) news.length:=jQ bX (by omega) (by omega)
               have hr:=hr _ _ had eT
               rw [← fE] at hr
               refine nD (V:= .pre B (n+m)) (BX:= .arr e (k8 l n i m)) (L:=μ b') h hd hb bp hB (hrun hr) (aO.setCells w (μ b').b _ news eT) (fun k o' hk=> .inl ⟨hk.1,by omega,by omega⟩) (fun k o' hk=> .inr hk) (fun vs=>⟨by simp,by simp⟩)
                (fun s' hl=>⟨b1,b2,by rw [hml]; exact b3,nv bX eT, ?_⟩) (fun s' hl hm=>cn rfl (aI _ _ _)) js hK
               rw [Dr]
               refine rC (rC (fun k x hk=> ?_) ?_) (fun k x hk=> ?_)
               · rw [List.getElem?_take] at hk
                 split at hk
                 · rename_i hkn
                   obtain ⟨ds,d1,d2,q,d3⟩:=b5 k x hk
                   refine ⟨ds,d1,m5 d2 (.inr (.inl ?_)),q,d3.mono S hl (Nat.le_refl _)⟩
                   have :(k+1)*Ty.sz S e≤n.toNat*Ty.sz S e:=Nat.mul_le_mul_right _ (by omega)
                   rw [Nat.add_mul,Nat.one_mul] at this
                   omega
                 · cases hk
               · rw [iZ]
                 exact (hnews.later hl).row (qm eT)
               · rw [List.getElem?_drop] at hk
                 obtain ⟨ds,d1,d2,q,d3⟩:=b5 _ x hk
                 rw [List.length_append,iZ,Nat.add_assoc, ← Nat.add_mul]
                 refine ⟨ds,d1,m5 d2 (.inr (.inr ?_)),q,d3.mono S hl (Nat.le_refl _)⟩
                 have :(n.toNat+y.length)*Ty.sz S e≤(n.toNat+y.length+k)*Ty.sz S e:=Nat.mul_le_mul_right _ (by omega)
                 omega
             · omega
           · exact hl.elim
        · exact hl.elim
       | b_=>
        simp only [pG] at hl
        split at hl
        · rename_i y hy
          obtain ⟨hg,rfl,rfl⟩:=ee hl
          have cN:y.length*af t≤limit:=hg (gd (y.length*af t≤limit)) (by simp)
          have hB:=uW (.arr e y) (by simp)
          obtain ⟨news,hsrc,hnews⟩:=(xK h hx (pX y hy) (hrows _ Vx rfl)).src hP lZ
          have fE:a.eval xs= .slice none 0 0:=hs
          have hold:(Builtin.firstCells (Ty.sz S e) 0 (.slice none 0 0)).run P w.drew= .ok (#[]:Array Value) w.drew:=run_firstCells_none _ _ _ _ _
          rcases tE (olds:= []) (ty:=o.type) hP ht hsrc hold (by simp) (Nat.le_refl 0) (by rw [Nat.zero_add]; exact cN) with ⟨h0,hr⟩ | ⟨h0,hroom,hr⟩ | ⟨c',te,cells,hcap,fY,n6,hpre,hr⟩
          · have :y= []:=List.length_eq_zero_iff.1 h0
            subst this
            rw [← fE] at hr
            refine nC (i:=B) (B:= .arr e []) (V:= .az B) (L:=⟨0,0,0,0,true,fun _ _=>False⟩) h (hrun hr) hd (aO.refl w _) hB (fun b o' hf=> ?_) (fun hl _ h3=>⟨⟨by simp,fun _=>rfl,Nat.le_refl _,fun j hj=>absurd hj (Nat.not_lt_zero j),fun i x hi=>by simp at hi⟩,⟨⟨⟨none,0,0,fE⟩,fun u2 l2 q2 h2=>by rw [aI] at h2; cases h2⟩,fun e' l' hb=> ?_⟩⟩)
             (fun vs hvs=>by rcases hvs with hvs | hvs <;> cases hvs) (fun j hj=> .inl (by simpa [aq,ak] using hj)) hK
            · have h1:=hf.2.1; have h2:=hf.2.2; simp at h2
            · rw [aI] at hb
              rcases hb with hb | hb
              · cases hb
                rw [aI]
                exact ⟨none,0,fE,rfl,rfl,by simp,fun _=>rfl,Nat.le_refl _⟩
              · cases hb
          · omega
          · rw [← fE] at hr
            rw [Nat.zero_add] at fY hr
            exact Bj (us:= []) (t:=te) (e:=e) (l:=y) (cap:=c') (cells:=cells) (cs:=news) (w1:=w.drew) hP.tob6 h hd (Tk.refl S _) hB rfl ⟨rfl,rfl,rfl⟩ (hrun hr) fY n6 hnews hpre hK
        · exact hl.elim
       | _=>exact hl.elim
     · exact hl.elim
   · exact hl.elim
 · exact hl.elim
theorem Ie {α:Type} (z:α) (l:List α) {i m:Int} (h3:i.toNat+m.toNat≤l.length) (h0:0≤i) (h1:0≤m):(rN z l i m).length=l.length:=by
 unfold rN
 simp only [List.length_append,List.length_take,List.length_drop,List.length_replicate]
 omega
theorem MX (hP:aL P S af) {t:Nat} {e:Ty} (ht:S.ty t=some (.sl e)) {ty:Nat} {ad:Option Addr} {n cap b o':Nat} {news:List Value} (had:n=0∧news= []∨ad=some ⟨b,o',none⟩)
 {te:Nat} {ie:TypeInfo} {z:Value} (hu:P.underlying t=some (.slice te)) (hz: ∀ w,(zeroValue te).run P w= .ok z w) (hn:(Builtin.zeroCells z.cells n).toList=news) (bX:w.there b o' news.length) (h1: ∀ c ∈ news,c.oneCell'=true):
 (Builtin.clear_ #[t] ty #[.slice ad n cap]).run P w= .ok (.tuple #[]) (w.setCells b o' news):=by
 rcases Nat.eq_zero_or_pos n with h0 | h0
 · subst h0
   have :news= []:=by rw [← hn]; simp [Builtin.zeroCells]
   subst this
   cases ad <;> simp [Builtin.clear_,run_underlying hu,Nt]
 · rcases had with ⟨h2,_⟩ | h2
   · omega
   · subst h2
     have hst:=run_storeCells_cells (P:=P) b o' news 0 w (by simpa using fun j hj=>(bX j hj).1) (by simpa using fun j hj=>(bX j hj).2) h1
     simp only [Nat.add_zero] at hst
     obtain ⟨m,rfl⟩: ∃ m,n=m+1:=⟨n - 1,by omega⟩
     simp [Builtin.clear_,run_underlying hu,hz,hn,hst]
theorem Ic (hP:aL P S af) (h:Inv P S w0 M0 s0 dq env a w μ) (hd: ∀ d,o.dst=some d→d<a.tmps.size) {c:Call} (ho:o.op= .call c) (hc:c.callee= .builtin .clear) {args:List (Sy.V S.C)} {ids:List Nat}
 (hargs:c.args.toList.mapM (aE S env.tm)=some args)
 (hl:(match args,c.argTypes.toList with
  | [v],[t]=>match dO S t with
   | some e=>xF S e (restrict S env.bx ids) v
   | none=> .fail
  | _,_=> .fail).leaf (V,us)) (hK:Goal P S w0 M0 s0 dq env a o.dst V us K):o.wp P a w K Q:=by
 split at hl
 · rename_i Vs t mY
   split at hl
   · rename_i e het
     have hone: ∃ x,c.args= #[x]∧aE S env.tm x=some Vs:=by
      have hca:c.args=c.args.toList.toArray:=by simp
      cases e:c.args.toList with
      | nil=>rw [e] at hargs; cases hargs
      | cons x r=>
       rw [e] at hargs
       obtain ⟨y,zs,h1,h2,h3⟩:=k7 hargs
       cases h3
       cases r with
       | nil=>exact ⟨x,by rw [hca,e],h1⟩
       | cons x' r'=>
        obtain ⟨y',zs',h4,h5,h6⟩:=k7 h2
        cases h6
     obtain ⟨x,Jk,hex⟩:=hone
     obtain ⟨hx,_⟩:=aW h hex
     have ht:=jo het
     have cw:c.argTypes= #[t]:=by
      have :c.argTypes=c.argTypes.toList.toArray:=by simp
      rw [this,mY]
     unfold xF at hl
     split at hl
     · rename_i b i m _
       split at hl
       · rename_i e' l hb
         have hb:=dG hb
         split at hl
         · rename_i l' hl'
           obtain ⟨e1,e2⟩:=dn hl'
           cases e1
           dsimp only at e2
           subst e2
           obtain ⟨rfl,rfl⟩:=bg hl
           obtain ⟨p5,hm0,yO,ad,cap,y9,JZ,had⟩:=hx.2 e l hb
           obtain ⟨b1,b2,b3,bX,b5⟩:=h.bw b _ hb
           have bp:live S env.bx b:=by unfold live; rw [hb]; trivial
           have yI:b8 (μ b).ext:=(h.ext b bp).resolve_left (by rw [hb]; exact id)
           obtain ⟨te,ie,z,hu,hte,hie,hby,cD,_⟩:=hP.sl ht
           obtain ⟨⟨i',z,h1,h2,h3,h4,h5⟩,_⟩:=hP.ty te _ hte
           obtain ⟨q,hq⟩:=wF (w:=w) hP hte (ay S w0 M0 s0 env.bx μ w)
           obtain ⟨x1,x2,x3⟩:=kQ (P:=P) hP.tob6 μ env.bx hq
           have Dx:=qQ x2 x1
           rw [← h5] at hq Dx
           have Ky: ∀ w,(zeroValue te).run P w= .ok z w:=fun w=>by simp [zeroValue,typeInfo,h1,h3]
           have hzs:z.cells.size=Ty.sz S e:=by have :=hq.length S; simpa using this
           obtain ⟨news,hnews⟩: ∃ news,news=(Builtin.zeroCells z.cells m.toNat).toList:=⟨_,rfl⟩
           have C8:cB w (ay S w0 M0 s0 env.bx μ w) e (List.replicate m.toNat (Ty.zero S e)) news:=by
            have :=cB.replicate hq m.toNat
            rw [hnews]
            have e3:Builtin.zeroCells z.cells m.toNat=madeCells z.cells (m.toNat*Ty.sz S e):=by
             unfold Builtin.zeroCells madeCells
             rw [hzs]
            rw [e3]; exact this
           have hnl:news.length=m.toNat*Ty.sz S e:=by have :=C8.1; rwa [List.length_replicate] at this
           have hsum:(i.toNat+m.toNat)*Ty.sz S e=i.toNat*Ty.sz S e+m.toNat*Ty.sz S e:=Nat.add_mul ..
           have hmul:(i.toNat+m.toNat)*Ty.sz S e≤(μ b).cap*Ty.sz S e:=Nat.mul_le_mul_right _ (by omega)
           have eT:w.there (μ b).b ((μ b).o+i.toNat*Ty.sz S e) news.length:=jQ bX (by omega) (by omega)
           have hno: ∀ c ∈ news,c.oneCell'=true:=by
            intro c hc
            rw [hnews] at hc
            unfold Builtin.zeroCells at hc
            simp only [Array.toList_map,List.mem_map,Array.toList_range,List.mem_range] at hc
            obtain ⟨k,hk,rfl⟩:=hc
            have hp:0<z.cells.size:=by
             rcases Nat.eq_zero_or_pos z.cells.size with h0 | h0
             · rw [h0,Nat.mul_zero] at hk; omega
             · exact h0
            have hlt:=Nat.mod_lt k hp
            rw [getElem!_pos z.cells _ hlt]
            exact Dx _ (by simp)
           have hrun:(execOp a.eval o).run P w= .ok (.value (.tuple #[])) (w.setCells (μ b).b ((μ b).o+i.toNat*Ty.sz S e) news):=by
            have hr:=MX (P:=P) (w:=w) (ty:=o.type) hP ht (ad:=ad) (n:=m.toNat) (cap:=cap) (b:=(μ b).b) (o':=(μ b).o+i.toNat*Ty.sz S e) (news:=news) (te:=te) (ie:=ie) (z:=z) (had.imp (fun h0=>⟨h0,List.length_eq_zero_iff.1 (by rw [hnl,h0,Nat.zero_mul])⟩) id) hu Ky hnews.symm eT hno
            rw [← y9] at hr
            unfold execOp
            simp only [ho]
            simp [resolve,hc,Jk,cw,invoke,builtin,hr]
           have hcl:=Ie (Ty.zero S e) l yO p5 hm0
           have hI:=h.write (B':= .arr e (rN (Ty.zero S e) l i m)) hb bp (fun _ e=>nomatch e) (o':=(μ b).o+i.toNat*Ty.sz S e) (vals:=news) (by omega) (by omega) ⟨rfl,rfl,hcl⟩ (fun hl lU=>⟨b1,b2,by rw [hcl]; exact b3,nv bX eT, ?_⟩) (fun ws ij=>by rcases ij with ij | ij <;> cases ij)
           · unfold Oper.wp
             rw [hrun]
             refine hK _ _ μ (hI.put hd (V:= .gI []) (v:= .tuple #[]) ⟨#[],rfl,rfl⟩ (by simp [aq])) ?_
             cases o.dst <;> simp [Act.put]
           · have iZ:(List.take i.toNat l).length=i.toNat:=by rw [List.length_take]; omega
             unfold rN
             refine rC (rC (fun k x hk=> ?_) ?_) (fun k x hk=> ?_)
             · rw [List.getElem?_take] at hk
               split at hk
               · rename_i hkn
                 obtain ⟨ds,d1,d2,q,d3⟩:=b5 k x hk
                 refine ⟨ds,d1,m5 d2 (.inr (.inl ?_)),q,d3.mono S hl (Nat.le_refl _)⟩
                 have :(k+1)*Ty.sz S e≤i.toNat*Ty.sz S e:=Nat.mul_le_mul_right _ (by omega)
                 rw [Nat.add_mul,Nat.one_mul] at this
                 omega
               · cases hk
             · rw [iZ]
               exact (C8.later hl).row (qm eT)
             · rw [List.getElem?_drop] at hk
               obtain ⟨ds,d1,d2,q,d3⟩:=b5 _ x hk
               rw [List.length_append,iZ,List.length_replicate,Nat.add_assoc, ← Nat.add_mul]
               have JK:(i+m).toNat=i.toNat+m.toNat:=by omega
               rw [JK] at d2
               refine ⟨ds,d1,m5 d2 (.inr (.inr ?_)),q,d3.mono S hl (Nat.le_refl _)⟩
               have :(i.toNat+m.toNat)*Ty.sz S e≤(i.toNat+m.toNat+k)*Ty.sz S e:=Nat.mul_le_mul_right _ (by omega)
               omega
         · exact hl.elim
       · exact hl.elim
     · exact hl.elim
   · exact hl.elim
 · exact hl.elim
end
end Go.Sy
namespace Go.Sy
section
variable {P:Program} {S:aK} {af:Nat→Nat}
theorem dz.length {w:World} {s:St} : ∀ {M:St} {cs:List CK} {x:aJ S.C cs} {vs:List Value},dz S w s M cs x vs→vs.length=CK.bK S cs
 | _,[],_,_,h=>by rw [h.2]; rfl
 | _,c::cs,_,_,⟨M1,M2,v1,v2,h1,h2,h3,h4,h5⟩=>by subst h2; rw [List.length_append,h3,dz.length h5]; rfl
theorem zG (hS:b6 S) {w:World} {s M:St} (iE id:Nat) {cs:List CK} {x:aJ S.C cs} {v:Value} (hne: ∀ i,id≤i→i<(aT S id cs x).2.2→i≠iE) (L:Loc) (hv:v= .pointer (some ⟨L.b,L.o,none⟩)) (hn:L.n=CK.bK S cs) (n3:b8 L.ext)
 (h:dS S w s M cs x v):
 ∃ lam,lam iE=L∧id≤(aT S id cs x).2.2∧bL P S w s (fun i=>i=iE∨(id≤i∧i<(aT S id cs x).2.2)) ((iE, .cells (aT S id cs x).1)::(aT S id cs x).2.1) lam M:=by
 obtain ⟨b,o,ds,M',eg,bX,jw,hM,hcs⟩:=h
 rw [eg] at hv
 cases hv
 obtain ⟨le,l2,g2,s2,r2,kj⟩:=qc (P:=P) hS cs id hcs
 have hlen:=dz.length hcs
 have hne: ∀ u ∈ (aT S id cs x).2.1,u.1≠iE:=fun u hu=>hne _ (g2.fu u hu).1 (g2.fu u hu).2
 let lam:Nat→Loc:=fun i=>if i=iE then L else l2 i
 have e1:lam iE=L:=if_pos rfl
 have e2: ∀ u ∈ (aT S id cs x).2.1,lam u.1=l2 u.1:=fun u hu=>if_neg (hne u hu)
 have hag: ∀ μ bx,Agree ((iE, .cells (aT S id cs x).1)::(aT S id cs x).2.1) lam μ bx→Agree (aT S id cs x).2.1 l2 μ bx:=
  fun μ bx h u hu=>⟨(h u (by simp [hu])).1,(h u (by simp [hu])).2.trans (e2 u hu)⟩
 refine ⟨lam,e1,le,⟨?_, ?_, ?_, ?_, ?_, ?_, ?_, ?_⟩⟩
 · intro u hu
   rcases List.mem_cons.1 hu with rfl | hu
   · exact .inl rfl
   · exact .inr (g2.fu u hu)
 · intro u hu u' aH he
   rcases List.mem_cons.1 hu with rfl | hu <;> rcases List.mem_cons.1 aH with rfl | aH
   · rfl
   · exact absurd he.symm (hne u' aH)
   · exact absurd he (hne u hu)
   · exact g2.one u hu u' aH he
 · intro μ bx ha u hu
   rcases List.mem_cons.1 hu with rfl | hu
   · show RB P S w s μ bx (lam iE) (.cells _)
     rw [e1]
     have hr:=kj μ bx (hag μ bx ha)
     exact ⟨s2,by rw [hn, ← hlen]; exact aB.length P S hr,by rw [hn, ← hlen]; exact bX,ds,jw,hr⟩
   · rw [e2 u hu]
     exact g2.rb μ bx (hag μ bx ha) u hu
 · intro bx u hu hb
   rcases List.mem_cons.1 hu with rfl | hu
   · unfold live; rw [hb]; trivial
   · exact g2.lv bx u hu hb
 · intro b' o'
   rw [hM.1 b' o',g2.au]
   constructor
   · rintro (h | ⟨u,hu,hf⟩)
     · refine ⟨_,List.mem_cons_self, ?_⟩
       show (lam iE).au b' o'
       rw [e1]; exact .inl ⟨h.1,h.2.1,by rw [hn, ← hlen]; exact h.2.2⟩
     · exact ⟨u,by simp [hu],by rw [e2 u hu]; exact hf⟩
   · rintro ⟨u,hu,hf⟩
     rcases List.mem_cons.1 hu with rfl | hu
     · have hf:(lam iE).au b' o':=hf
       rw [e1] at hf; have hf:=Loc.ig n3 hf; exact .inl ⟨hf.1,hf.2.1,by rw [hlen, ← hn]; exact hf.2.2⟩
     · rw [e2 u hu] at hf; exact .inr ⟨u,hu,hf⟩
 · intro u hu u' aH hn' b' o' hf hf'
   rcases List.mem_cons.1 hu with rfl | hu <;> rcases List.mem_cons.1 aH with rfl | aH
   · exact hn' rfl
   · have hf:(lam iE).au b' o':=hf
     rw [e1] at hf; rw [e2 u' aH] at hf'
     have hf:=Loc.ig n3 hf
     exact hM.2 b' o' ⟨hf.1,hf.2.1,by rw [hlen, ← hn]; exact hf.2.2⟩ ((g2.au b' o').2 ⟨u',aH,hf'⟩)
   · have hf':(lam iE).au b' o':=hf'
     rw [e1] at hf'; rw [e2 u hu] at hf
     have hf':=Loc.ig n3 hf'
     exact hM.2 b' o' ⟨hf'.1,hf'.2.1,by rw [hlen, ← hn]; exact hf'.2.2⟩ ((g2.au b' o').2 ⟨u,hu,hf⟩)
   · rw [e2 u hu] at hf; rw [e2 u' aH] at hf'
     exact g2.cO u hu u' aH hn' b' o' hf hf'
 · intro u hu vs hvs v hv j hj
   rcases List.mem_cons.1 hu with rfl | hu
   · rcases hvs with hvs | hvs
     · cases hvs
       obtain ⟨u',aH,he⟩:=r2 v hv j hj
       exact ⟨u',by simp [aH],he⟩
     · cases hvs
   · obtain ⟨u',aH,he⟩:=g2.ref u hu vs hvs v hv j hj
     exact ⟨u',by simp [aH],he⟩
 · intro u hu
   rcases List.mem_cons.1 hu with rfl | hu
   · right; show b8 (lam iE).ext; rw [e1]; exact n3
   · rw [e2 u hu]; exact g2.ext u hu
theorem KD {v:Sy.V S.C} {j:Nat} (h:j ∈ ak S v):j ∈ aq S v:=by
 cases v <;> first | exact h | (simp [ak] at h)
theorem Lr (hS:b6 S) {w:World} {s M:St} (id:Nat) {k:K} {x:k.den S.C} {v:Value} (h:jV P S w s M k x v) {κ:Sy.V S.C×aA S.C×Nat→Tr (Sy.V S.C×aA S.C)} {p:Sy.V S.C×aA S.C} (hl:(zA S id k x κ).leaf p) (hna:qd k=true):
 ∃ q,(κ q).leaf p∧id≤q.2.2∧q.2.2≤id+jx k∧ ∃ lam,bL P S w s (fun i=>id≤i∧i<q.2.2) q.2.1 lam M∧(∀ j ∈ ak S q.1, ∃ u ∈ q.2.1,u.1=j)∧
  ∀ μ bx,Agree q.2.1 lam μ bx→bl P S w s μ bx q.1 v:=by
 have mz: ∀ (M:St) (n:Nat),b8 M→bL P S w s (fun i=>n≤i∧i<n) ([]:aA S.C) (fun _=>⟨0,0,0,0,true,fun _ _=>False⟩) M:=fun M n hM=>bL.nil hM _
 have obj: ∀ (cs:List CK) (y:aJ S.C cs),dS S w s M cs y v→(κ (.ptr id 0,(id, .cells (aT S (id+1) cs y).1)::(aT S (id+1) cs y).2.1,(aT S (id+1) cs y).2.2)).leaf p→
  ∃ q,(κ q).leaf p∧id≤q.2.2∧q.2.2≤id+(1+cs.foldl oneMore 0)∧ ∃ lam,bL P S w s (fun i=>id≤i∧i<q.2.2) q.2.1 lam M∧(∀ j ∈ ak S q.1, ∃ u ∈ q.2.1,u.1=j)∧
  ∀ μ bx,Agree q.2.1 lam μ bx→bl P S w s μ bx q.1 v:=by
  intro cs y hy hl
  obtain ⟨lam,g,le,rv⟩:=qe (P:=P) hS id hy
  refine ⟨_,hl,Nat.le_of_lt le, ?_,lam,g,fun j hj=> ?_,rv⟩
  · have :=kX cs (id+1) y 0
    show (aT S (id+1) cs y).2.2≤_
    omega
  · simp [ak] at hj
    subst hj
    exact ⟨_,List.mem_cons_self,rfl⟩
 cases k with
 | val c=>
  obtain ⟨h1,h2⟩:=h
  cases c with
  | data t=>
   obtain ⟨hM,n,hn⟩:=h1
   exact ⟨_,hl,Nat.le_refl _,Nat.le_refl _,_,mz M id hM,fun j hj=>by simp [ak] at hj,fun μ bx _=>⟨h2,n,hn⟩⟩
  | aP e=>
   obtain ⟨le,lam,g,s1,r1,rv⟩:=s_ (P:=P) hS id h1
   refine ⟨_,hl,Nat.le_succ _,Nat.le_refl _,lam,g,fun j hj=>r1 (.aP id e x) (by simp [bu]) j hj,fun μ bx ha=> ?_⟩
   obtain ⟨c,r,hc,hv,hr⟩:=rv μ bx ha
   cases hr
   rw [kM hc h2]
   exact hv
  | az e=>
   obtain ⟨le,lam,g,s1,r1,rv⟩:=s_ (P:=P) hS id h1
   refine ⟨_,hl,Nat.le_succ _,Nat.le_refl _,lam,g,fun j hj=>r1 (.az id) (by simp [bu]) j hj,fun μ bx ha=> ?_⟩
   obtain ⟨c,r,hc,hv,hr⟩:=rv μ bx ha
   cases hr
   rw [kM hc h2]
   exact hv
  | aF w=>
   obtain ⟨le,lam,g,s1,r1,rv⟩:=s_ (P:=P) hS id h1
   refine ⟨_,hl,Nat.le_succ _,Nat.le_refl _,lam,g,fun j hj=>r1 (.az id) (by simp [bu]) j hj,fun μ bx ha=> ?_⟩
   obtain ⟨c,r,hc,hv,hr⟩:=rv μ bx ha
   cases hr
   rw [kM hc h2]
   exact hv
 | agg u cs=>cases hna
 | obj cs=>exact obj cs x h hl
 | opt cs=>
  rcases hl with ⟨hx,hl⟩ | ⟨y,hx,hl⟩
  · subst hx
    exact ⟨_,hl,Nat.le_refl _,Nat.le_add_right _ _,_,mz M id h.1,fun j hj=>by simp [ak] at hj,fun μ bx _=>h.2⟩
  · subst hx
    exact obj cs y h hl
 | bQ t cs=>exact hl.elim
 | err=>exact ⟨_,hl,Nat.le_refl _,Nat.le_refl _,_,mz M id h.1,fun j hj=>by simp [ak] at hj,fun μ bx _=>h.2⟩
 | aQ=>
  have h:lN S w M x v:=h
  obtain ⟨b,R,hb,_⟩:=Iff.mp Iff.rfl h
  obtain ⟨lam,e,g⟩:=xg (P:=P) (s:=s) id (id+1) (by omega) ⟨b,0,2,0,false,fun _ _=>False⟩ rfl rfl (fun _ _ h=>h) hb h
  refine ⟨_,hl,by show id≤id+2; omega,Nat.le_refl _,lam,g.weaken fun i hi=>by show id≤i∧i<id+2; omega,fun j hj=> ?_,fun μ bx ha=> ?_⟩
  · simp [ak] at hj
    subst hj
    exact ⟨_,List.mem_cons_self,rfl⟩
  · have a1:=(ha (id, .aQ (id+1)) (by simp)).2
    show v= .pointer (some ⟨(μ id).b,(μ id).o+0,none⟩)
    rw [hb,show μ id=lam id from a1,e]
 | nil=>exact ⟨_,hl,Nat.le_refl _,Nat.le_refl _,_,mz M id h.1,fun j hj=>by simp [ak] at hj,fun μ bx _=>h.2⟩
 | ro t=>exact ⟨_,hl,Nat.le_refl _,Nat.le_refl _,_,mz M id h.1,fun j hj=>by simp [ak] at hj,fun μ bx _=>h.2⟩
 | fn a r=>exact ⟨_,hl,Nat.le_refl _,Nat.le_refl _,_,mz M id h.1,fun j hj=>by simp [ak] at hj,fun μ bx _=>h.2⟩
 | cm cs=>
  obtain ⟨p',hv,h⟩:=h
  obtain ⟨lam,g,le,rv⟩:=qe (P:=P) hS id h
  refine ⟨_,hl,Nat.le_of_lt le, ?_,lam,g,fun j hj=> ?_,fun μ bx ha=> ?_⟩
  · have :=kX cs (id+1) x 0
    show (aT S (id+1) cs x).2.2≤id+(1+cs.foldl oneMore 0)
    omega
  · simp [ak] at hj
    subst hj
    exact ⟨_,List.mem_cons_self,rfl⟩
  · have :Value.pointer (some p')= .pointer (some ⟨(μ id).b,(μ id).o+0,none⟩):=rv μ bx ha
    show v= .slice (some ⟨(μ id).b,(μ id).o,none⟩) (CK.bK S cs) (CK.bK S cs)
    rw [hv]
    cases this
    rfl
theorem Lq (hS:b6 S) {w:World} {s M:St} (id:Nat) {k:K} {x:k.den S.C} {v:Value} (h:jV P S w s M k x v) {κ:Sy.V S.C×aA S.C×Nat→Tr (Sy.V S.C×aA S.C)} {p:Sy.V S.C×aA S.C} (hl:(zA S id k x κ).leaf p):
 ∃ q,(κ q).leaf p∧id≤q.2.2∧q.2.2≤id+jx k∧ ∃ lam,bL P S w s (fun i=>id≤i∧i<q.2.2) q.2.1 lam M∧(∀ j ∈ aq S q.1, ∃ u ∈ q.2.1,u.1=j)∧
  (∀ μ bx,Agree q.2.1 lam μ bx→RV P S w s μ bx q.1 v)∧(qd k=true→ ∀ μ bx,Agree q.2.1 lam μ bx→bl P S w s μ bx q.1 v):=by
 by_cases hna:qd k=true
 · obtain ⟨q,h1,h2,h3,lam,h4,h5,h6⟩:=Lr hS id h hl hna
   refine ⟨q,h1,h2,h3,lam,h4,fun j hj=> ?_,fun μ bx ha=>jk (h6 μ bx ha),fun _=>h6⟩
   have JQ: ∃ μ bx,Agree q.2.1 lam μ bx:=⟨lam,ah (fun _=>none) q.2.1,fun u hu=>⟨t_ _ _ h4.one u hu,rfl⟩⟩
   obtain ⟨μ,bx,ha⟩:=JQ
   have hv:=h6 μ bx ha
   generalize q.1=V at hj hv h5
   cases V <;> first | exact h5 j hj | exact (hv:False).elim
 · cases k with
   | agg u cs=>
    obtain ⟨ds,hv,h2,h1⟩:=h
    obtain ⟨le,lam,g,s1,r1,rv⟩:=qc (P:=P) hS cs id h1
    have hz:=kX cs id x 0
    refine ⟨_,hl,le,by simp only [jx]; omega,lam,g,fun j hj=> ?_,fun μ bx ha=>⟨ds,hv, ?_,s1,rv μ bx ha⟩,fun h=>absurd h hna⟩
    · have hj:j ∈ (aT S id cs x).1.flatMap (ak S):=hj
      obtain ⟨v,hv,hj⟩:=List.mem_flatMap.1 hj
      exact r1 v hv j hj
    · have hl:=aB.length P S (rv μ bx ha)
      have :=h1.len S
      show (aT S id cs x).1.length=_
      rw [← hl,this,h2]
   | _=>exact absurd rfl hna
theorem D4 (hS:b6 S) {w:World} {s:St} {os:List K} : ∀ (rs:List K) {M:St} (id:Nat) {r:Ks S.C (rs++os)} {vs:List Value} {κ:List (Sy.V S.C)×aA S.C×Nat→Rt S} {p:Sy.V S.C×aA S.C},
 bW P S w s M (rs++os) r vs→(vF S id rs (jg S rs os r).1 κ).leaf p→
 ∃ q M1 M2 us ws,(κ q).leaf p∧vs=us++ws∧gz M M1 M2∧bW P S w s M2 os (jg S rs os r).2 ws∧id≤q.2.2∧q.2.2≤id+iq rs∧
  ∃ lam,bL P S w s (fun i=>id≤i∧i<q.2.2) q.2.1 lam M1∧(∀ v ∈ q.1, ∀ j ∈ aq S v, ∃ u ∈ q.2.1,u.1=j)∧(∀ μ bx,Agree q.2.1 lam μ bx→dL P S w s μ bx q.1 us)∧(rs.all qd=true→ ∀ μ bx,Agree q.2.1 lam μ bx→aB P S w s μ bx q.1 us)
 | [],M,id,r,vs,κ,p,h,hl=>⟨_,fun _ _=>False,M,[],vs,hl,rfl,⟨fun b o=>by simp,fun _ _ h=>h.elim⟩,h,Nat.le_refl _,Nat.le_refl _,fun _=>⟨0,0,0,0,true,fun _ _=>False⟩,bL.nil (fun _ _ h=>h) _,by simp,fun _ _ _=>rfl,fun _ _ _ _=>rfl⟩
 | k::rs,M,id,r,vs,κ,p,⟨M1,M2,v,vr,hM,hvs,h1,h2⟩,hl=>by
  have e1:(jg S (k::rs) os r).1=Ks.cons (Ks.head r) (jg S rs os (Ks.tail r)).1:=rfl
  have e2:(jg S (k::rs) os r).2=(jg S rs os (Ks.tail r)).2:=rfl
  rw [e1] at hl
  simp only [vF] at hl
  rw [show Ks.head (Ks.cons (Ks.head r) (jg S rs os (Ks.tail r)).1)=Ks.head (t:=k) (ts:=rs++os) r from by cases rs <;> rfl,
   show Ks.tail (Ks.cons (Ks.head r) (jg S rs os (Ks.tail r)).1)=(jg S rs os (Ks.tail r)).1 from by cases rs <;> rfl] at hl
  obtain ⟨q1,bD,a1,a2,l1,g1,r1,mj,Ax⟩:=Lq (P:=P) hS id h1 hl
  obtain ⟨q2,N1,N2,us,ws,n9,b1,b2,b3,b4,b5,l2,g2,r2,kj,Nh⟩:=D4 hS rs q1.2.2 h2 bD
  have hsp:gz (fun b o=>M1 b o∨N1 b o) M1 N1:=⟨fun _ _=>Iff.rfl,fun b o x y=>hM.2 b o x (b2.left y)⟩
  obtain ⟨g,hag⟩:=bL.both g1 g2 (fun i hi hi'=>by omega) hsp
  refine ⟨_,fun b o=>M1 b o∨N1 b o,N2,v::us,ws,n9,by rw [hvs,b1]; rfl,⟨fun b o=> ?_,fun b o x y=> ?_⟩,by rw [e2]; exact b3,Nat.le_trans a1 b4, ?_,_,g.weaken (fun i hi=> ?_),fun v' eg j hj=> ?_,fun μ bx ha=> ?_,fun hna μ bx ha=> ?_⟩
  · rw [hM.1,b2.1,or_assoc]
  · rcases x with x | x
    · exact hM.2 b o x (b2.right y)
    · exact b2.2 b o x y
  · show q2.2.2≤id+(jx k+iq rs)
    omega
  · show id≤i∧i<q2.2.2
    omega
  · rcases List.mem_cons.1 eg with rfl | eg
    · obtain ⟨u,hu,he⟩:=r1 j hj; exact ⟨u,List.mem_append.2 (.inl hu),he⟩
    · obtain ⟨u,hu,he⟩:=r2 v' eg j hj; exact ⟨u,List.mem_append.2 (.inr hu),he⟩
  · obtain ⟨h3,h4⟩:=hag μ bx ha
    exact ⟨v,us,rfl,mj μ bx h3,kj μ bx h4⟩
  · obtain ⟨h3,h4⟩:=hag μ bx ha
    rw [List.all_cons,Bool.and_eq_true] at hna
    exact ⟨v,us,rfl,Ax hna.1 μ bx h3,Nh hna.2 μ bx h4⟩
end
end Go.Sy
namespace Go.Sy
section
variable {P:Program} {S:aK} {af:Nat→Nat}
def eV:List K→List Value→List Value
 | [],_=> []
 | _::_,[]=> []
 | k::ks,v::vs=>match k with
  | .obj _ | .aQ | .bQ _ _=>v::eV ks vs
  | .val _ | .opt _ | .nil | .ro _ | .fn _ _ | .cm _ | .err | .agg _ _=>eV ks vs
def GV (S:aK) (μ:Nat→Loc) (w:World) (s:St) (t:Ty) (cs:List CK) (V:Sy.V S.C) (v:Value):Prop:=
 ∃ b c kb q,V= .split b c∧v= .pointer (some ⟨kb,q,none⟩)∧(μ b).b=kb∧(μ b).o=q+1∧(μ b).n=CK.bK S cs∧(μ c).n=CK.bK S [.data t]∧s kb q∧w.cell? ⟨kb,q,none⟩=some (.pointer (some ⟨(μ c).b,(μ c).o,none⟩))∧b8 (μ b).ext∧b8 (μ c).ext
def nI (S:aK) (μ:Nat→Loc) (w:World) (s:St):List K→List (Sy.V S.C)→List Value→Prop
 | [],_,_=>True
 | k::ks,V::Vs,v::vs=>(∀ t cs,k= .bQ t cs→GV S μ w s t cs V v)∧(∀ cs,k= .obj cs→ ∃ b,V= .ptr b 0∧v= .pointer (some ⟨(μ b).b,(μ b).o,none⟩)∧(μ b).n=CK.bK S cs∧b8 (μ b).ext)∧(k= .aQ→ ∃ b,V= .ptr b 0∧v= .pointer (some ⟨(μ b).b,(μ b).o,none⟩)∧(μ b).o=0∧(μ b).n=2∧b8 (μ b).ext)∧nI S μ w s ks Vs vs
 | _::_,_,_=>False
theorem nI.later {μ:Nat→Loc} {w w':World} {s:St} (h: ∀ b o,s b o→w'.cell? ⟨b,o,none⟩=w.cell? ⟨b,o,none⟩): ∀ {ks:List K} {Vs:List (Sy.V S.C)} {vs:List Value},nI S μ w s ks Vs vs→nI S μ w' s ks Vs vs
 | [],_,_,_=>trivial
 | _::_,[],_,h1=>h1.elim
 | _::_,_::_,[],h1=>h1.elim
 | k::ks,V::Vs,v::vs,⟨h0,h1,h2,h3⟩=>⟨fun t cs e=>by
  obtain ⟨b,c,kb,q,e1,e2,e3,e4,e5,e6,e7,e8,e9⟩:=h0 t cs e
  exact ⟨b,c,kb,q,e1,e2,e3,e4,e5,e6,e7,(h kb q e7).trans e8,e9⟩,h1,h2,nI.later h h3⟩
theorem u7 {bx:Bx S.C} {b:Nat} {B:b9 S.C} (h:sY S B) (hb:bx b=some B):live S bx b:=by
 unfold live
 rw [hb]
 cases B <;> first | exact h.elim | trivial
theorem td {cs:List CK} {ks:List K} {b off:Nat} {Vs:List (Sy.V S.C)} :dg S (.obj cs::ks) (.ptr b off::Vs)=b::dg S ks Vs:=rfl
theorem Ea {k:K} {ks:List K} {V:Sy.V S.C} {Vs:List (Sy.V S.C)} (h: ∀ cs,k≠ .obj cs) (h':k≠ .aQ) (h'': ∀ t cs,k≠ .bQ t cs):dg S (k::ks) (V::Vs)=dg S ks Vs:=by
 cases k <;> first | rfl | exact absurd rfl (h _) | exact absurd rfl h' | exact absurd rfl (h'' _ _)
theorem LB {k:K} {ks:List K} {v:Value} {vs:List Value} (h: ∀ cs,k≠ .obj cs) (h':k≠ .aQ) (h'': ∀ t cs,k≠ .bQ t cs):eV (k::ks) (v::vs)=eV ks vs:=by
 cases k <;> first | rfl | exact absurd rfl (h _) | exact absurd rfl h' | exact absurd rfl (h'' _ _)
theorem jA (hS:b6 S) {w:World} {s so:St} {μ:Nat→Loc} : ∀ (ps:List K) {M:St} (id:Nat) {Vs:List (Sy.V S.C)} {args:List Value} {x:Ks S.C (outs ps)},nI S μ w so ps Vs args→(dg S ps Vs).Nodup→
 (∀ b ∈ dg S ps Vs, ∀ i,id≤i→i<id+iq (outs ps)→i≠b)→bW P S w s M (outs ps) x (eV ps args)→
 ∃ lam,bL P S w s (fun i=>i ∈ dg S ps Vs∨(id≤i∧i<id+iq (outs ps))) (eW S id ps Vs x) lam M∧ ∀ b ∈ dg S ps Vs,lam b=μ b∧ ∃ B,sY S B∧(b,B) ∈ eW S id ps Vs x
 | [],M,id,Vs,args,x,_,_,_,h=>⟨fun _=>⟨0,0,0,0,true,fun _ _=>False⟩,by
  have :eW S id [] Vs x= []:=rfl
  rw [this]; exact bL.nil h.1 _,by intro b hb; cases Vs <;> simp [dg] at hb⟩
 | k::ks,M,id,[],_,x,h,_,_,_=>h.elim
 | k::ks,M,id,V::Vs,[],x,h,_,_,_=>h.elim
 | k::ks,M,id,V::Vs,v::args,x,⟨I3,h0,h0',h1⟩,gR,hid,h=>by
  by_cases hk: ∃ cs,k= .obj cs
  · obtain ⟨cs,rfl⟩:=hk
    obtain ⟨b,rfl,rfl,hn,yR⟩:=h0 cs rfl
    rw [td] at gR hid
    obtain ⟨M1,M2,v',r,hM,hvs,r1,r2⟩:=h
    cases hvs
    obtain ⟨hb,sD⟩:=List.nodup_cons.1 gR
    have hsum:iq (outs (.obj cs::ks))=1+cs.foldl oneMore 0+iq (outs ks):=rfl
    have hmk:=kX cs id (Ks.head (t:= .obj cs) x) 0
    rw [hsum] at hid
    obtain ⟨l1,e1,s8,g1⟩:=zG (P:=P) hS b id (cs:=cs) (x:=Ks.head (t:= .obj cs) x) (fun i hi hi'=>hid b (by simp) i hi (by omega)) (μ b) rfl hn yR r1
    obtain ⟨l2,g2,p2⟩:=jA hS ks (aT S id cs (Ks.head (t:= .obj cs) x)).2.2 (x:=Ks.tail (t:= .obj cs) x) h1 sD (fun b' hb' i hi hi'=>hid b' (by simp [hb']) i (by omega) (by omega)) r2
    obtain ⟨g,hag⟩:=bL.both g1 g2 (fun i hi hi'=>by
     rcases hi with rfl | hi
     · rcases hi' with hi' | hi'
       · exact hb hi'
       · exact hid i (by simp) i (by omega) (by omega) rfl
     · rcases hi' with hi' | hi'
       · exact hid i (by simp [hi']) i (by omega) (by omega) rfl
       · omega) hM
    have hput:eW S id (.obj cs::ks) (.ptr b 0::Vs) x=((b, .cells (aT S id cs (Ks.head (t:= .obj cs) x)).1)::(aT S id cs (Ks.head (t:= .obj cs) x)).2.1)++eW S (aT S id cs (Ks.head (t:= .obj cs) x)).2.2 ks Vs (Ks.tail (t:= .obj cs) x):=rfl
    rw [hput]
    refine ⟨_,g.weaken fun i hi=> ?_,fun b' hb'=> ?_⟩
    · rw [td,hsum]
      rcases hi with (rfl | hi) | (hi | hi)
      · exact .inl (by simp)
      · exact .inr (by omega)
      · exact .inl (by simp [hi])
      · exact .inr (by omega)
    · rw [td] at hb'
      rcases List.mem_cons.1 hb' with rfl | hb'
      · refine ⟨?_,_,(by exact trivial),List.mem_append.2 (.inl List.mem_cons_self)⟩
        unfold both
        rw [if_pos (List.mem_map.2 ⟨_,List.mem_cons_self,rfl⟩)]
        exact e1
      · obtain ⟨p3,vs,p0,p4⟩:=p2 b' hb'
        refine ⟨?_,vs,p0,List.mem_append.2 (.inr p4)⟩
        unfold both
        rw [if_neg]
        · exact p3
        · intro hm
          obtain ⟨u,hu,he⟩:=List.mem_map.1 hm
          rcases g1.fu u hu with h | h
          · rw [he] at h; exact hb (h▸hb')
          · rw [he] at h; exact hid b' (by simp [hb']) b' (by omega) (by omega) rfl
  · have hk: ∀ cs,k≠ .obj cs:=fun cs e=>hk ⟨cs,e⟩
    by_cases hkb:k= .aQ
    · subst hkb
      obtain ⟨b,rfl,rfl,hn0,hn,yR⟩:=h0' rfl
      have iY:dg S (.aQ::ks) (.ptr b 0::Vs)=b::dg S ks Vs:=rfl
      rw [iY] at gR hid
      obtain ⟨M1,M2,v',r,hM,hvs,r1,r2⟩:=h
      cases hvs
      obtain ⟨hb,sD⟩:=List.nodup_cons.1 gR
      have hsum:iq (outs (.aQ::ks))=2+iq (outs ks):=rfl
      rw [hsum] at hid
      obtain ⟨l1,e1,g1⟩:=xg (P:=P) (s:=s) b id (fun e=>hid b (by simp) id (Nat.le_refl _) (by omega) e) (μ b) hn0 hn yR (x:=Ks.head (t:= .aQ) x) rfl r1
      obtain ⟨l2,g2,p2⟩:=jA hS ks (id+1) (x:=Ks.tail (t:= .aQ) x) h1 sD (fun b' hb' i hi hi'=>hid b' (by simp [hb']) i (by omega) (by omega)) r2
      obtain ⟨g,hag⟩:=bL.both g1 g2 (fun i hi hi'=>by
       rcases hi with rfl | rfl
       · rcases hi' with hi' | hi'
         · exact hb hi'
         · exact hid i (by simp) i (by omega) (by omega) rfl
       · rcases hi' with hi' | hi'
         · exact hid i (by simp [hi']) i (by omega) (by omega) rfl
         · omega) hM
      have hput:eW S id (.aQ::ks) (.ptr b 0::Vs) x= [(b, .aQ id),(id, .buf (Ks.head (t:= .aQ) x))]++eW S (id+1) ks Vs (Ks.tail (t:= .aQ) x):=rfl
      rw [hput]
      refine ⟨_,g.weaken fun i hi=> ?_,fun b' hb'=> ?_⟩
      · rw [iY,hsum]
        rcases hi with (rfl | rfl) | (hi | hi)
        · exact .inl (by simp)
        · exact .inr (by omega)
        · exact .inl (by simp [hi])
        · exact .inr (by omega)
      · rw [iY] at hb'
        rcases List.mem_cons.1 hb' with rfl | hb'
        · refine ⟨?_,_,(by exact trivial),List.mem_append.2 (.inl List.mem_cons_self)⟩
          unfold both
          rw [if_pos (List.mem_map.2 ⟨_,List.mem_cons_self,rfl⟩)]
          exact e1
        · obtain ⟨p3,vs,p0,p4⟩:=p2 b' hb'
          refine ⟨?_,vs,p0,List.mem_append.2 (.inr p4)⟩
          unfold both
          rw [if_neg]
          · exact p3
          · intro hm
            obtain ⟨u,hu,he⟩:=List.mem_map.1 hm
            rcases g1.fu u hu with h | h
            · rw [he] at h; exact hb (h▸hb')
            · rw [he] at h; exact hid b' (by simp [hb']) b' (by omega) (by omega) rfl
    by_cases ju: ∃ t cs,k= .bQ t cs
    · obtain ⟨t,cs,rfl⟩:=ju
      obtain ⟨b,c,kb,q,rfl,rfl,cD,fm,Jm,Js,_,hcell,fX,Jx⟩:=I3 t cs rfl
      have iY:dg S (.bQ t cs::ks) (.split b c::Vs)=c::b::dg S ks Vs:=rfl
      rw [iY] at gR hid
      obtain ⟨M1,M2,v',r,hM,hvs,r1,r2⟩:=h
      cases hvs
      obtain ⟨b0,o0,p,Ma,Mb,q1,q2,q3,q4,q5⟩:=r1
      cases q1
      have hp:Value.pointer (some p)= .pointer (some ⟨(μ c).b,(μ c).o,none⟩):=by
       have :=(q2 0 _ rfl).1
       rw [Nat.add_zero,hcell] at this
       exact (Option.some.inj this).symm
      obtain ⟨uZ,sD⟩:=List.nodup_cons.1 gR
      obtain ⟨C5,J3⟩:=List.nodup_cons.1 sD
      have hsum:iq (outs (.bQ t cs::ks))=2+cs.foldl oneMore 0+iq (outs ks):=rfl
      have hmk:=kX cs id (Ks.head (t:= .bQ t cs) x).2 0
      rw [hsum] at hid
      obtain ⟨l0,e0,Pm,g0⟩:=zG (P:=P) hS c id (cs:= [.data t]) (x:=(Ks.head (t:= .bQ t cs) x).1) (fun i hi hi'=>hid c (by simp) i hi (by have :i<id:=hi'; omega)) (μ c) hp Js Jx q4
      obtain ⟨l1,e1,s8,g1⟩:=zG (P:=P) hS b id (cs:=cs) (x:=(Ks.head (t:= .bQ t cs) x).2) (fun i hi hi'=>hid b (by simp) i hi (by omega)) (μ b) (by rw [cD,fm]) Jm fX q5
      obtain ⟨l2,g2,p2⟩:=jA hS ks (aT S id cs (Ks.head (t:= .bQ t cs) x).2).2.2 (x:=Ks.tail (t:= .bQ t cs) x) h1 J3 (fun b' hb' i hi hi'=>hid b' (by simp [hb']) i (by omega) (by omega)) r2
      obtain ⟨CQ,O5⟩:=bL.both g0 g1 (fun i hi hi'=>by
       have hi:i=c:=hi.elim (fun e=>e) fun h=>by
        have h1:id≤i:=h.1
        have h2:i<id:=h.2
        omega
       subst hi
       rcases hi' with hi' | hi'
       · subst hi'; exact uZ (by simp)
       · exact hid i (by simp) i (by omega) (by omega) rfl) q3
      obtain ⟨g,hag⟩:=bL.both CQ g2 (fun i hi hi'=>by
       rcases hi with (rfl | hi) | (rfl | hi)
       · rcases hi' with hi' | hi'
         · exact uZ (by simp [hi'])
         · exact hid i (by simp) i (by omega) (by omega) rfl
       · have h1:id≤i:=hi.1
         have h2:i<id:=hi.2
         omega
       · rcases hi' with hi' | hi'
         · exact C5 hi'
         · exact hid i (by simp) i (by omega) (by omega) rfl
       · rcases hi' with hi' | hi'
         · exact hid i (by simp [hi']) i (by omega) (by omega) rfl
         · omega) hM
      have hput:eW S id (.bQ t cs::ks) (.split b c::Vs) x=(((c, .cells (aT S id [.data t] (Ks.head (t:= .bQ t cs) x).1).1)::(aT S id [.data t] (Ks.head (t:= .bQ t cs) x).1).2.1)++((b, .cells (aT S id cs (Ks.head (t:= .bQ t cs) x).2).1)::(aT S id cs (Ks.head (t:= .bQ t cs) x).2).2.1))++eW S (aT S id cs (Ks.head (t:= .bQ t cs) x).2).2.2 ks Vs (Ks.tail (t:= .bQ t cs) x):=rfl
      rw [hput]
      refine ⟨_,g.weaken fun i hi=> ?_,fun b' hb'=> ?_⟩
      · rw [iY,hsum]
        rcases hi with ((rfl | hi) | (rfl | hi)) | (hi | hi)
        · exact .inl (by simp)
        · have h1:id≤i:=hi.1
          have h2:i<id:=hi.2
          omega
        · exact .inl (by simp)
        · exact .inr (by omega)
        · exact .inl (by simp [hi])
        · exact .inr (by omega)
      · rw [iY] at hb'
        have Pa: ∀ (aR iU:aA S.C) (la lb:Nat→Loc) (i:Nat) (B:b9 S.C),(i,B) ∈ aR→both aR la lb i=la i:=fun aR iU la lb i B hi=>if_pos (List.mem_map.2 ⟨_,hi,rfl⟩)
        rcases List.mem_cons.1 hb' with rfl | hb'
        · refine ⟨?_,_,(by exact trivial),List.mem_append.2 (.inl (List.mem_append.2 (.inl List.mem_cons_self)))⟩
          unfold both
          rw [if_pos (List.mem_map.2 ⟨_,List.mem_append.2 (.inl List.mem_cons_self),rfl⟩),if_pos (List.mem_map.2 ⟨_,List.mem_cons_self,rfl⟩)]
          exact e0
        · rcases List.mem_cons.1 hb' with rfl | hb'
          · refine ⟨?_,_,(by exact trivial),List.mem_append.2 (.inl (List.mem_append.2 (.inr List.mem_cons_self)))⟩
            unfold both
            rw [if_pos (List.mem_map.2 ⟨_,List.mem_append.2 (.inr List.mem_cons_self),rfl⟩),if_neg]
            · exact e1
            · intro hm
              obtain ⟨u,hu,he⟩:=List.mem_map.1 hm
              rcases g0.fu u hu with h | h
              · rw [he] at h; exact uZ (by rw [← h]; simp)
              · rw [he] at h
                have h1:id≤b':=h.1
                have h2:b'<id:=h.2
                omega
          · obtain ⟨p3,vs,p0,p4⟩:=p2 b' hb'
            refine ⟨?_,vs,p0,List.mem_append.2 (.inr p4)⟩
            unfold both
            rw [if_neg]
            · exact p3
            · intro hm
              obtain ⟨u,hu,he⟩:=List.mem_map.1 hm
              rcases CQ.fu u hu with (h | h) | (h | h)
              · rw [he] at h; exact uZ (by rw [← h]; simp [hb'])
              · rw [he] at h
                have h1:id≤b':=h.1
                have h2:b'<id:=h.2
                omega
              · rw [he] at h; exact C5 (h▸hb')
              · rw [he] at h; exact hid b' (by simp [hb']) b' (by omega) (by omega) rfl
    have ju: ∀ t cs,k≠ .bQ t cs:=fun t cs e=>ju ⟨t,cs,e⟩
    rw [Ea hk hkb ju] at gR hid ⊢
    rw [LB hk hkb ju] at h
    cases k with
    | aQ=>exact absurd rfl hkb
    | obj cs=>exact absurd rfl (hk cs)
    | bQ t cs=>exact absurd rfl (ju t cs)
    | val c=>exact jA hS ks id h1 gR hid h
    | opt cs=>exact jA hS ks id h1 gR hid h
    | nil=>exact jA hS ks id h1 gR hid h
    | ro t=>exact jA hS ks id h1 gR hid h
    | fn a r=>exact jA hS ks id h1 gR hid h
    | cm cs=>exact jA hS ks id h1 gR hid h
    | err=>exact jA hS ks id h1 gR hid h
    | agg u cs=>exact jA hS ks id h1 gR hid h
theorem D7 {bx:Bx S.C} {b:Nat} {ws vs:List (Sy.V S.C)} {cs:List CK} {y':aJ S.C cs} {u':aA S.C} (hb:bx b=some (.cells ws)) (hy':cA S (ai bx b (some .dead)) cs vs=some (y',u'))
 (k1:Tk S bx (ah bx ((b, .dead)::u'))):ah bx ((b, .dead)::u') b=some .dead:=by
 have hpre:Tk S (ai bx b (some .dead)) (ah (ai bx b (some .dead)) u'):=by
  intro i
  by_cases e:i=b
  · -- from the whole step
    subst e
    rcases k1 i with e1 | ⟨e1,_⟩ | ⟨e',l',e1,e2⟩
    · -- unchanged: then it was cells, but the parts' taking leaves cells alone
      exfalso
      rw [hb] at e1
      have : ∀ (cs:List CK) (bx:Bx S.C) (vs:List (Sy.V S.C)) (x:aJ S.C cs) (us:aA S.C),cA S bx cs vs=some (x,us)→ ∀ u ∈ us,u.2= .dead∨ ∃ e l,u.2= .bn e l:=by
       intro cs
       induction cs with
       | nil=>intro bx vs x us h; cases h; simp
       | cons c cs ih=>
        intro bx vs x us h
        simp only [cA] at h
        obtain ⟨⟨p,q⟩,h1,h⟩:=Option.bind_eq_some_iff.1 h
        obtain ⟨⟨p',q'⟩,h2,h⟩:=Option.bind_eq_some_iff.1 h
        cases h
        intro u hu
        rcases List.mem_append.1 hu with hu | hu
        · cases c with
          | data t=>
           simp only [cK] at h1
           obtain ⟨z,_,h1⟩:=Option.bind_eq_some_iff.1 h1
           cases h1
           obtain ⟨v,_,hv⟩:=List.mem_flatMap.1 hu
           obtain ⟨e,l,he,_⟩:=cG.cu bx v u hv
           exact .inr ⟨e,l,he⟩
          | aP e=>
           simp only [cK] at h1
           split at h1
           · split at h1
             · obtain ⟨z,_,h1⟩:=Option.bind_eq_some_iff.1 h1
               cases h1
               simp at hu; subst hu; exact .inl rfl
             · cases h1
           · cases h1; simp at hu
           · cases h1
          | az e=>
           simp only [cK] at h1
           split at h1
           · split at h1
             · obtain ⟨z,_,h1⟩:=Option.bind_eq_some_iff.1 h1
               cases h1
               simp at hu; subst hu; exact .inl rfl
             · cases h1
           · split at h1
             · obtain ⟨z,_,h1⟩:=Option.bind_eq_some_iff.1 h1
               cases h1
               simp at hu; subst hu; exact .inl rfl
             · cases h1
           · cases h1; simp at hu
           · cases h1
          | aF w=>
           simp only [cK] at h1
           split at h1
           · split at h1
             · obtain ⟨z,_,h1⟩:=Option.bind_eq_some_iff.1 h1
               cases h1
               simp at hu; subst hu; exact .inl rfl
             · cases h1
           · cases h1; simp at hu
           · cases h1
        · exact ih _ _ _ _ h2 u hu
      have aH:=this _ _ _ _ _ hy'
      have : ∀ (us:aA S.C) (bx:Bx S.C),(∀ u ∈ us,u.2= .dead∨ ∃ e l,u.2= .bn e l)→(∀ ws,bx i≠some (.cells ws))→ ∀ ws,ah bx us i≠some (.cells ws):=by
       intro us
       induction us with
       | nil=>intro bx _ h; exact h
       | cons u us ih=>
        intro bx hu h
        refine ih _ (fun u' aH=>hu u' (by simp [aH])) fun ws=> ?_
        by_cases e:i=u.1
        · rw [e,aI]
          rcases hu u (by simp) with h | ⟨_,_,h⟩ <;> rw [h] <;> simp
        · rw [aY _ _ e]; exact h ws
      exact this u' (ai bx i (some .dead)) aH (by intro ws; rw [aI]; simp) _ e1
    · exact .inl (e1.trans (aI _ _ _).symm)
    · rw [hb] at e1; cases e1
  · rcases k1 i with e1 | ⟨e1,h2⟩ | ⟨e',l',e1,e2⟩
    · exact .inl (e1.trans (aY _ _ e).symm)
    · exact .inr (.inl ⟨e1,(dD S (aY _ _ e)).2 h2⟩)
    · exact .inr (.inr ⟨e',l',by rw [aY _ _ e]; exact e1,e2⟩)
 exact mS hpre (aI _ _ _)
theorem NZ {fs:List (gw S)} {bx:Bx S.C} {cs:List CK} {b:Nat} :bU S fs bx (.obj cs) (.ptr b 0)=f_ S bx cs b:=by
 simp only [bU,f_]
 cases hb:bx b with
 | none=>rfl
 | some B=>cases B <;> rfl
theorem F7 {bx:Bx S.C} {cs:List CK} {b:Nat} {y:aJ S.C cs} {us:aA S.C} (h:f_ S bx cs b=some (y,us)) (hk:Tk S bx (ah bx us)):
 (∃ ws,bx b=some (.cells ws)∧ws.length=CK.bK S cs)∧ah bx us b=some .dead:=by
 unfold f_ at h
 split at h
 · rename_i ws hb
   cases hw:Nat.beq ws.length (CK.bK S cs) with
   | false=>rw [hw] at h; cases h
   | true=>
    rw [hw,cond_true] at h
    obtain ⟨⟨y',u'⟩,hy',h⟩:=Option.bind_eq_some_iff.1 h
    cases h
    exact ⟨⟨ws,hb,Nat.eq_of_beq_eq_true hw⟩,D7 hb hy' hk⟩
 · cases h
theorem F5 {env:Env S.C} {w:World} {s s':St} {μ:Nat→Loc} {fs:List (gw S)} (hn: ∀ i B,env.bx i=some B→RB P S w s μ env.bx (μ i) B) (sS: ∀ i,live S env.bx i→kY S (env.bx i)∨b8 (μ i).ext):
 ∀ (ks:List K) {bx:Bx S.C} (hk:Tk S env.bx bx) (hks: ∀ (ks:List K) (bx:Bx S.C) (hk:Tk S env.bx bx) (Vs:List (Sy.V S.C)) (args:List Value) (x:Ks S.C ks) (us:aA S.C),dL P S w s' μ env.bx Vs args→dR S fs bx ks Vs=some (x,us)→Tk S bx (ah bx us))
  {Vs:List (Sy.V S.C)} {args:List Value} {x:Ks S.C ks} {us:aA S.C},dL P S w s' μ env.bx Vs args→dR S fs bx ks Vs=some (x,us)→
 nI S μ w s' ks Vs args∧(dg S ks Vs).Nodup∧ ∀ b ∈ dg S ks Vs,(∃ B,sY S B∧bx b=some B)∧ah bx us b=some .dead
 | [],bx,hk,hks,[],args,x,us,h,hx=>⟨trivial,by simp [dg],by simp [dg]⟩
 | [],_,_,_,_::_,_,_,_,_,hx=>by cases hx
 | _::_,_,_,_,[],_,_,_,_,hx=>by cases hx
 | k::ks,bx,hk,hks,V::Vs,args,x,us,⟨v,r,hargs,h1,h2⟩,hx=>by
  subst hargs
  simp only [dR] at hx
  obtain ⟨⟨y,u1⟩,hy,hx⟩:=Option.bind_eq_some_iff.1 hx
  obtain ⟨⟨z,u2⟩,hz,hx⟩:=Option.bind_eq_some_iff.1 hx
  cases hx
  have hone:dR S fs bx [k] [V]=some (Ks.cons (t:=k) (ts:= []) y (),u1++ []):=by
   simp only [dR]
   rw [hy]; rfl
  have k1:=hks [k] bx hk [V] [v] _ _ ⟨v,[],rfl,h1,rfl⟩ hone
  rw [List.append_nil] at k1
  have k2:=hks ks _ (hk.trans S k1) Vs r _ _ h2 hz
  obtain ⟨o1,o2,o3⟩:=F5 hn sS ks (hk.trans S k1) hks h2 hz
  by_cases sE: ∃ cs,k= .obj cs
  · obtain ⟨cs,rfl⟩:=sE
    simp only [bU] at hy
    split at hy
    · rename_i b off
      split at hy
      · rename_i ws hb
        cases hw:Nat.beq off 0&&Nat.beq ws.length (CK.bK S cs) with
        | false=>rw [hw] at hy; cases hy
        | true=>
         rw [hw,cond_true] at hy
         rw [Bool.and_eq_true] at hw
         have w1:=Nat.eq_of_beq_eq_true hw.1
         have w2:=Nat.eq_of_beq_eq_true hw.2
         subst w1
         obtain ⟨⟨y',u'⟩,hy',hy⟩:=Option.bind_eq_some_iff.1 hy
         cases hy
         have hlb:live S bx b:=by unfold live; rw [hb]; trivial
         have hb0:env.bx b=some (.cells ws):=(hk.c_ hlb).symm.trans hb
         have hrb:=hn b _ hb0
         have gQ:ah bx ((b, .dead)::u') b=some .dead:=D7 hb hy' k1
         have hv:v= .pointer (some ⟨(μ b).b,(μ b).o+0,none⟩):=h1
         refine ⟨⟨(fun t' cs' e=>nomatch e),fun cs' e=> ?_,(fun e=>nomatch e),o1⟩, ?_, ?_⟩
         · cases e
           exact ⟨b,rfl,hv,by rw [hrb.2.1,w2],(sS b (by unfold live; rw [hb0]; trivial)).resolve_left (by rw [hb0]; exact id)⟩
         · rw [td]
           refine List.nodup_cons.2 ⟨fun hm=> ?_,o2⟩
           obtain ⟨lH,hh,hw'⟩:=(o3 b hm).1
           rw [gQ] at hw'
           cases hw'
           exact hh
         · rw [td,fA]
           intro b' hb'
           rcases List.mem_cons.1 hb' with rfl | hb'
           · exact ⟨⟨_,(by exact trivial),hb⟩,mS k2 gQ⟩
           · obtain ⟨⟨lH,hh,hw'⟩,h'⟩:=o3 b' hb'
             have hl':live S (ah bx ((b, .dead)::u')) b':=u7 hh hw'
             exact ⟨⟨lH,hh,by rw [← k1.c_ hl']; exact hw'⟩,h'⟩
      · cases hy
    · cases hy
  · have sE: ∀ cs,k≠ .obj cs:=fun cs e=>sE ⟨cs,e⟩
    by_cases hkb:k= .aQ
    · subst hkb
      simp only [bU] at hy
      split at hy
      · split at hy
        · split at hy
          · rename_i b off _ j hb _ l hj
            cases hw:Nat.beq off 0 with
            | false=>rw [hw] at hy; cases hy
            | true=>
             rw [hw] at hy
             cases hy
             have ho:=Nat.eq_of_beq_eq_true hw
             subst ho
             have hne:j≠b:=fun e=>by subst e; rw [hb] at hj; cases hj
             have hlb:live S bx b:=by unfold live; rw [hb]; trivial
             have hb0:env.bx b=some (.aQ j):=(hk.c_ hlb).symm.trans hb
             have hrb:=hn b _ hb0
             have gQ:ah bx [(b, .dead),(j, .dead)] b=some .dead:=(aY _ _ hne.symm).trans (aI _ _ _)
             have hv:v= .pointer (some ⟨(μ b).b,(μ b).o+0,none⟩):=h1
             have iY:dg S (.aQ::ks) (.ptr b 0::Vs)=b::dg S ks Vs:=rfl
             refine ⟨⟨(fun t' cs' e=>nomatch e),(fun cs' e=>nomatch e),fun _=>⟨b,rfl,hv,hrb.1,hrb.2.1,(sS b (by unfold live; rw [hb0]; trivial)).resolve_left (by rw [hb0]; exact id)⟩,o1⟩, ?_, ?_⟩
             · rw [iY]
               refine List.nodup_cons.2 ⟨fun hm=> ?_,o2⟩
               obtain ⟨lH,hh,hw'⟩:=(o3 b hm).1
               rw [gQ] at hw'
               cases hw'
               exact hh
             · rw [iY,fA]
               intro b' hb'
               rcases List.mem_cons.1 hb' with rfl | hb'
               · exact ⟨⟨_,(by exact trivial),hb⟩,mS k2 gQ⟩
               · obtain ⟨⟨lH,hh,hw'⟩,h'⟩:=o3 b' hb'
                 have hl':live S (ah bx [(b, .dead),(j, .dead)]) b':=u7 hh hw'
                 exact ⟨⟨lH,hh,by rw [← k1.c_ hl']; exact hw'⟩,h'⟩
          · cases hy
        · cases hy
      · cases hy
    by_cases ju: ∃ t cs,k= .bQ t cs
    · obtain ⟨t,cs,rfl⟩:=ju
      simp only [bU] at hy
      split at hy
      · rename_i b c
        obtain ⟨⟨ya,ua⟩,y_,hy⟩:=Option.bind_eq_some_iff.1 hy
        obtain ⟨⟨yb,ub⟩,za,hy⟩:=Option.bind_eq_some_iff.1 hy
        cases hy
        dsimp only at y_ za
        have Dw: ∀ (bx:Bx S.C) (cs:List CK) (i:Nat) (y:aJ S.C cs) (u:aA S.C),Tk S env.bx bx→f_ S bx cs i=some (y,u)→Tk S bx (ah bx u):=fun bx cs i y u JL h0=>by
         have :=hks [.obj cs] bx JL [.ptr i 0] [.pointer (some ⟨(μ i).b,(μ i).o+0,none⟩)] (Ks.cons (t:= .obj cs) (ts:= []) y ()) (u++ []) ⟨_,_,rfl,rfl,rfl⟩ (by
          simp only [dR]
          rw [NZ,h0]; rfl)
         rwa [List.append_nil] at this
        have ka:=Dw bx _ _ _ _ hk y_
        have kb':=Dw _ _ _ _ _ (hk.trans S ka) za
        obtain ⟨⟨wa,hca,hla⟩,hda⟩:=F7 y_ ka
        obtain ⟨⟨wb,hcb,hlb⟩,hdb⟩:=F7 za kb'
        have JU:live S (ah bx ua) b:=by unfold live; rw [hcb]; trivial
        have yG:bx b=some (.cells wb):=(ka.c_ JU).symm.trans hcb
        have JW:live S bx c:=by unfold live; rw [hca]; trivial
        have JV:live S bx b:=by unfold live; rw [yG]; trivial
        have hne:c≠b:=fun e=>by subst e; rw [hda] at hcb; cases hcb
        have hc0:env.bx c=some (.cells wa):=(hk.c_ JW).symm.trans hca
        have hb0:env.bx b=some (.cells wb):=(hk.c_ JV).symm.trans yG
        obtain ⟨kb,q,e1,e2,e3,e4⟩:=h1
        have cw:=e2 0 _ rfl
        rw [Nat.add_zero] at cw
        have iY:dg S (.bQ t cs::ks) (.split b c::Vs)=c::b::dg S ks Vs:=rfl
        have Da:ah bx (ua++ub) c=some .dead:=by rw [fA]; exact mS kb' hda
        have C_:ah bx (ua++ub) b=some .dead:=by rw [fA]; exact hdb
        have hout: ∀ i ∈ dg S ks Vs,ah bx (ua++ub) i≠some .dead:=fun i hi he=>by
         obtain ⟨lH,hh,hw'⟩:=(o3 i hi).1
         rw [he] at hw'
         cases hw'
         exact hh
        refine ⟨⟨fun t' cs' e=> ?_,(fun cs' e=>nomatch e),(fun e=>nomatch e),o1⟩, ?_, ?_⟩
        · cases e
          exact ⟨b,c,kb,q,rfl,e1,e3,e4,by rw [(hn b _ hb0).2.1,hlb],by rw [(hn c _ hc0).2.1,hla],cw.2,cw.1,(sS b (by unfold live; rw [hb0]; trivial)).resolve_left (by rw [hb0]; exact id),(sS c (by unfold live; rw [hc0]; trivial)).resolve_left (by rw [hc0]; exact id)⟩
        · rw [iY]
          refine List.nodup_cons.2 ⟨fun hm=> ?_,List.nodup_cons.2 ⟨fun hm=>hout b hm C_,o2⟩⟩
          rcases List.mem_cons.1 hm with e | hm
          · exact hne e
          · exact hout c hm Da
        · rw [iY,fA]
          intro b' hb'
          rcases List.mem_cons.1 hb' with rfl | hb'
          · exact ⟨⟨_,(by exact trivial),hca⟩,mS k2 Da⟩
          · rcases List.mem_cons.1 hb' with rfl | hb'
            · exact ⟨⟨_,(by exact trivial),yG⟩,mS k2 C_⟩
            · obtain ⟨⟨lH,hh,hw'⟩,h'⟩:=o3 b' hb'
              have hl':live S (ah bx (ua++ub)) b':=u7 hh hw'
              exact ⟨⟨lH,hh,by rw [← k1.c_ hl']; exact hw'⟩,h'⟩
      · cases hy
    have ju: ∀ t cs,k≠ .bQ t cs:=fun t cs e=>ju ⟨t,cs,e⟩
    rw [Ea sE hkb ju,fA]
    refine ⟨⟨fun t cs e=>absurd e (ju t cs),fun cs e=>absurd e (sE cs),fun e=>absurd e hkb,o1⟩,o2,fun b' hb'=> ?_⟩
    obtain ⟨⟨lH,hh,hw'⟩,h'⟩:=o3 b' hb'
    have hl':live S (ah bx u1) b':=u7 hh hw'
    exact ⟨⟨lH,hh,by rw [← k1.c_ hl']; exact hw'⟩,h'⟩
end
end Go.Sy
namespace Go.Sy
section
variable {P:Program} {S:aK} {af:Nat→Nat}
variable {w0:World} {M0 s0:St} {dq:List Deferred} {env:Env S.C} {a:Act} {w:World} {μ:Nat→Loc}
theorem bl.mono {w w':World} {s s':St} {μ:Nat→Loc} {bx:Bx S.C} (hl:aV w s w' s') {V:V S.C} {v:Value} (h:bl P S w s μ bx V v):bl P S w' s' μ bx V v:=by
 cases V with
 | d t x=>exact bV.mono S hl h
 | aP b e l=>exact ⟨bV.mono S hl h.1,h.2⟩
 | cJ t x=>exact kJ.mono S hl h
 | fv a r g=>exact kI.mono P S hl h
 | split b c=>obtain ⟨k,q,h1,h2,h3⟩:=h; exact ⟨k,q,h1,h2.later hl,h3⟩
 | jc c=>obtain ⟨k,q,h1,h2⟩:=h; exact ⟨k,q,h1,h2.later hl⟩
 | _=>exact h
theorem aB.mono {w w':World} {s s':St} {μ:Nat→Loc} {bx:Bx S.C} (hl:aV w s w' s'): ∀ {vs:List (V S.C)} {cs:List Value},aB P S w s μ bx vs cs→aB P S w' s' μ bx vs cs
 | [],_,h=>h
 | _::_,_,⟨c,r,h1,h2,h3⟩=>⟨c,r,h1,h2.mono hl,aB.mono hl h3⟩
theorem RB.mono {w:World} {s s':St} {μ:Nat→Loc} {bx:Bx S.C} (hl:aV w s w s') {L:Loc} {B:b9 S.C} (h:RB P S w s μ bx L B):RB P S w s' μ bx L B:=by
 cases B with
 | cells vs=>
  obtain ⟨h1,h2,h3,cs,h4,h5⟩:=h
  exact ⟨h1,h2,h3,cs,h4,h5.mono hl⟩
 | bI vs=>
  obtain ⟨h1,cs,h4,h5⟩:=h
  exact ⟨h1,cs,h4.later hl,h5.mono hl⟩
 | arr e l=>
  obtain ⟨h1,h2,h3,h4,h5⟩:=h
  refine ⟨h1,h2,h3,h4,fun i x hi=> ?_⟩
  obtain ⟨ds,d1,d2,n,d3⟩:=h5 i x hi
  exact ⟨ds,d1,d2,n,d3.mono S hl (Nat.le_refl _)⟩
 | bn e l=>
  obtain ⟨h2,h3,h5⟩:=h
  refine ⟨h2,h3,fun i x hi=> ?_⟩
  obtain ⟨ds,d1,d2,n,d3⟩:=h5 i x hi
  exact ⟨ds,d1,d2.later hl,n,d3.mono S hl (Nat.le_refl _)⟩
 | aF u l q=>
  obtain ⟨h1,h2,h3,h4,n,Ms,h5,h6⟩:=h
  exact ⟨h1,h2,h3,h4,n,Ms,h5,eu.step hl (fun u l M cs q1 q2=>bZ.step hl (Nat.le_refl _) q1 q2) (Kept.refl _ _) h1 h3 h6⟩
 | tail=>exact h
 | dead=>trivial
 | aQ j=>exact h
 | buf l=>exact h
def DF (us:aA S.C):Prop:= ∀ u ∈ us,u.2= .dead∨ ∃ e l,u.2= .bn e l
theorem DF.append {us vs:aA S.C} (h:DF us) (h':DF vs):DF (us++vs):=fun u hu=>(List.mem_append.1 hu).elim (h u) (h' u)
theorem DF.fz {bx:Bx S.C} {us:aA S.C} (h:cG bx us):DF us:=fun u hu=>by obtain ⟨e,l,he,_⟩:=h u hu; exact .inr ⟨e,l,he⟩
theorem DF.cK {bx:Bx S.C} {c:CK} {vs:List (Sy.V S.C)} {x:c.den S.C} {us:aA S.C} (h1:cK S bx c vs=some (x,us)):DF us:=by
 intro u hu
 cases c with
 | data t=>
  simp only [Sy.cK] at h1
  obtain ⟨z,_,h1⟩:=Option.bind_eq_some_iff.1 h1
  cases h1
  obtain ⟨v,_,hv⟩:=List.mem_flatMap.1 hu
  obtain ⟨e,l,he,_⟩:=cG.cu bx v u hv
  exact .inr ⟨e,l,he⟩
 | aP e=>
  simp only [Sy.cK] at h1
  split at h1
  · split at h1
    · obtain ⟨z,_,h1⟩:=Option.bind_eq_some_iff.1 h1
      cases h1
      simp at hu; subst hu; exact .inl rfl
    · cases h1
  · cases h1; simp at hu
  · cases h1
 | az e=>
  simp only [Sy.cK] at h1
  split at h1
  · split at h1
    · obtain ⟨z,_,h1⟩:=Option.bind_eq_some_iff.1 h1
      cases h1
      simp at hu; subst hu; exact .inl rfl
    · cases h1
  · split at h1
    · obtain ⟨z,_,h1⟩:=Option.bind_eq_some_iff.1 h1
      cases h1
      simp at hu; subst hu; exact .inl rfl
    · cases h1
  · cases h1; simp at hu
  · cases h1
 | aF w=>
  simp only [Sy.cK] at h1
  split at h1
  · split at h1
    · obtain ⟨z,_,h1⟩:=Option.bind_eq_some_iff.1 h1
      cases h1
      simp at hu; subst hu; exact .inl rfl
    · cases h1
  · cases h1; simp at hu
  · cases h1
theorem DF.cA: ∀ {cs:List CK} {bx:Bx S.C} {vs:List (Sy.V S.C)} {x:aJ S.C cs} {us:aA S.C},cA S bx cs vs=some (x,us)→DF us
 | [],_,_,_,_,h=>by cases h; intro u hu; simp at hu
 | c::cs,bx,vs,x,us,h=>by
  simp only [Sy.cA] at h
  obtain ⟨⟨p,q⟩,h1,h⟩:=Option.bind_eq_some_iff.1 h
  obtain ⟨⟨p',q'⟩,h2,h⟩:=Option.bind_eq_some_iff.1 h
  cases h
  exact (DF.cK h1).append (DF.cA h2)
theorem DF.f_ {cs:List CK} {bx:Bx S.C} {b:Nat} {x:aJ S.C cs} {us:aA S.C} (hx:f_ S bx cs b=some (x,us)):DF us:=by
 unfold Sy.f_ at hx
 split at hx
 · rename_i ws hb
   cases hw:Nat.beq ws.length (CK.bK S cs) with
   | false=>rw [hw] at hx; cases hx
   | true=>
    rw [hw,cond_true] at hx
    obtain ⟨⟨y,u'⟩,hy,hx⟩:=Option.bind_eq_some_iff.1 hx
    cases hx
    intro u hu
    rcases List.mem_cons.1 hu with rfl | hu
    · exact .inl rfl
    · exact DF.cA hy u hu
 · cases hx
theorem DF.bU {fs:List (gw S)} {bx:Bx S.C} {k:K} {V:Sy.V S.C} {x:k.den S.C} {us:aA S.C} (hx:bU S fs bx k V=some (x,us)):DF us:=by
 have obj: ∀ (b:Nat) (us':aA S.C),DF us'→DF ((b, .dead)::us'):=fun b us' h u hu=>by
  rcases List.mem_cons.1 hu with rfl | hu
  · exact .inl rfl
  · exact h u hu
 cases k with
 | val c=>
  cases c with
  | data t=>
   simp only [Sy.bU] at hx
   obtain ⟨y,hy,hx⟩:=Option.bind_eq_some_iff.1 hx
   cases hx
   exact DF.fz (cG.cS bx V)
  | aP e=>exact DF.cK (c:= .aP e) hx
  | az e=>exact DF.cK (c:= .az e) hx
  | aF w=>exact DF.cK (c:= .aF w) hx
 | agg u ps=>
  simp only [Sy.bU] at hx
  split at hx
  · rename_i u' vs
    cases hw:Nat.beq u u'&&Nat.beq vs.length (CK.bK S ps) with
    | false=>rw [hw] at hx; cases hx
    | true=>
     rw [hw] at hx
     replace hx:Sy.cA S bx ps vs=some (x,us):=hx
     exact DF.cA hx
  · cases hx
 | obj ps=>
  simp only [Sy.bU] at hx
  split at hx
  · split at hx
    · rename_i b off _ ws hb
      cases hw:Nat.beq off 0&&Nat.beq ws.length (CK.bK S ps) with
      | false=>rw [hw] at hx; cases hx
      | true=>
       rw [hw,cond_true] at hx
       obtain ⟨⟨y,u'⟩,hy,hx⟩:=Option.bind_eq_some_iff.1 hx
       cases hx
       exact obj _ _ (DF.cA hy)
    · cases hx
  · cases hx
 | bQ t ps=>
  simp only [Sy.bU] at hx
  split at hx
  · obtain ⟨⟨y,u1⟩,hy,hx⟩:=Option.bind_eq_some_iff.1 hx
    obtain ⟨⟨z,u2⟩,hz,hx⟩:=Option.bind_eq_some_iff.1 hx
    cases hx
    exact (DF.f_ hy).append (DF.f_ hz)
  · cases hx
 | opt ps=>
  simp only [Sy.bU] at hx
  split at hx
  · cases hx; intro u hu; simp at hu
  · split at hx
    · rename_i b off _ ws hb
      cases hw:Nat.beq off 0&&Nat.beq ws.length (CK.bK S ps) with
      | false=>rw [hw] at hx; cases hx
      | true=>
       rw [hw,cond_true] at hx
       obtain ⟨⟨y,u'⟩,hy,hx⟩:=Option.bind_eq_some_iff.1 hx
       cases hx
       exact obj _ _ (DF.cA hy)
    · cases hx
  · cases hx
 | cm ps=>
  simp only [Sy.bU] at hx
  split at hx
  · split at hx
    · rename_i b n _ ws hb
      cases hw:Nat.beq n ws.length&&Nat.beq ws.length (CK.bK S ps) with
      | false=>rw [hw] at hx; cases hx
      | true=>
       rw [hw,cond_true] at hx
       obtain ⟨⟨y,u'⟩,hy,hx⟩:=Option.bind_eq_some_iff.1 hx
       cases hx
       exact obj _ _ (DF.cA hy)
    · cases hx
  · cases hx
 | err=>
  simp only [Sy.bU] at hx
  split at hx
  · cases hx; intro u hu; simp at hu
  · cases hx
 | aQ=>
  simp only [Sy.bU] at hx
  split at hx
  · split at hx
    · split at hx
      · rename_i b off _ j hb _ l hj
        cases hw:Nat.beq off 0 with
        | false=>rw [hw] at hx; cases hx
        | true=>
         rw [hw] at hx
         cases hx
         intro u hu
         simp only [List.mem_cons,List.not_mem_nil,or_false] at hu
         rcases hu with rfl | rfl <;> exact .inl rfl
      · cases hx
    · cases hx
  · cases hx
 | nil=>
  simp only [Sy.bU] at hx
  split at hx
  · cases hx; intro u hu; simp at hu
  · cases hx
 | ro t=>
  simp only [Sy.bU] at hx
  obtain ⟨y,hy,hx⟩:=Option.bind_eq_some_iff.1 hx
  cases hx; intro u hu; simp at hu
 | fn A R=>
  simp only [Sy.bU] at hx
  obtain ⟨y,hy,hx⟩:=Option.bind_eq_some_iff.1 hx
  cases hx; intro u hu; simp at hu
theorem DF.dR {fs:List (gw S)} : ∀ {ks:List K} {bx:Bx S.C} {Vs:List (Sy.V S.C)} {x:Ks S.C ks} {us:aA S.C},dR S fs bx ks Vs=some (x,us)→DF us
 | [],_,[],_,_,h=>by cases h; intro u hu; simp at hu
 | [],_,_::_,_,_,h=>by cases h
 | _::_,_,[],_,_,h=>by cases h
 | k::ks,bx,V::Vs,x,us,h=>by
  simp only [Sy.dR] at h
  obtain ⟨⟨p,q⟩,h1,h⟩:=Option.bind_eq_some_iff.1 h
  obtain ⟨⟨p',q'⟩,h2,h⟩:=Option.bind_eq_some_iff.1 h
  cases h
  exact (DF.bU h1).append (DF.dR h2)
theorem vz {i:Nat} : ∀ {us:aA S.C} {bx jm:Bx S.C} (d_:Bool),(bx i=some .dead→jm i=some .dead)→ah bx us i=some .dead→ah jm (iw S d_ us) i=some .dead
 | [],bx,jm,d_,h,hu=>by
  have :iw S d_ ([]:aA S.C)= []:=by cases d_ <;> rfl
  rw [this]; exact h hu
 | u::us,bx,jm,true,h,hu=>vz (us:=us) (bx:=ai bx u.1 (some u.2)) (jm:=ai jm u.1 (some u.2)) true (fun hi=>by
  by_cases e:i=u.1
  · rw [e,aI] at hi ⊢; exact hi
  · rw [aY _ _ e] at hi ⊢; exact h hi) hu
 | (k,B)::us,bx,jm,false,h,hu=>by
  have keep:ah jm ((k,B)::iw S false us) i=some .dead:=vz (us:=us) (bx:=ai bx k (some B)) (jm:=ai jm k (some B)) false (fun hi=>by
   by_cases e:i=k
   · rw [e,aI] at hi ⊢; exact hi
   · rw [aY _ _ e] at hi ⊢; exact h hi) hu
  cases B with
  | bn e l=>
   refine vz (us:=us) (bx:=ai bx k (some (.bn e l))) (jm:=jm) false (fun hi=> ?_) hu
   by_cases e:i=k
   · rw [e,aI] at hi
     cases hi
   · rw [aY _ _ e] at hi; exact h hi
  | _=>exact keep
theorem Gs {i:Nat} : ∀ {us:aA S.C} {bx:Bx S.C},(∀ u ∈ us,u.2= .dead)→ah bx us i=bx i∨ah bx us i=some .dead
 | [],_,_=> .inl rfl
 | u::us,bx,h=>by
  rcases Gs (us:=us) (bx:=ai bx u.1 (some u.2)) (fun v hv=>h v (by simp [hv])) with h1 | h1
  · by_cases e:i=u.1
    · right; show ah (ai bx u.1 (some u.2)) us i=_
      rw [h1,e,aI,h u (by simp)]
    · left; show ah (ai bx u.1 (some u.2)) us i=_
      rw [h1,aY _ _ e]
  · exact .inr h1
theorem KL {us:aA S.C} (h:DF us) (d_:Bool) (bx:Bx S.C) (i:Nat):
 ah bx (iw S d_ us) i=bx i∨ah bx (iw S d_ us) i=some .dead∨(d_=true∧ah bx (iw S d_ us) i=ah bx us i):=by
 cases d_ with
 | true=>exact .inr (.inr ⟨rfl,rfl⟩)
 | false=>
  rcases Gs (i:=i) (us:=iw S false us) (bx:=bx) (fun u hu=>by
   unfold iw at hu
   rw [cond_false,List.mem_filter] at hu
   rcases h u hu.1 with h1 | ⟨e,l,h1⟩
   · exact h1
   · rw [h1] at hu; exact absurd hu.2 (by simp)) with h1 | h1
  · exact .inl h1
  · exact .inr (.inl h1)
theorem Inv.call (hS:b6 S) (h:Inv P S w0 M0 s0 dq env a w μ) {aR gs:aA S.C} {d_:Bool} {M M' s':St} {w':World} {lam:Nat→Loc} {I:Nat→Prop} {n7:List Nat}
 (hdf:DF aR) (hk:Tk S env.bx (ah env.bx aR)) (hM:aS S env μ env.bx (ah env.bx aR) M) (hw:aO w w' M)
 (hs': ∀ b o,s' b o→b<w'.heap.size∧ ¬ M' b o∧(bC S w0 M0 s0 env.bx (ah env.bx aR) μ w b o∨M b o∨w.heap.size≤b))
 (j7: ∀ b o,M' b o→M b o∨w.heap.size≤b) (hG:bL P S w' s' I gs lam M') (hI: ∀ i,I i→i ∈ n7∨env.bx i=none)
 (hh: ∀ b ∈ n7, ∃ B0 B,env.bx b=some B0∧(b,B) ∈ gs∧cl S (μ b) (lam b) B0 B) (hl:d_=true∨ ∀ b o, ¬ s' b o):
 ∃ μ',Inv P S w0 M0 s0 dq { env with bx:=ah env.bx (iw S d_ aR++gs) } a w' μ'∧aV w' s' w' (ay S w0 M0 s0 (ah env.bx (iw S d_ aR++gs)) μ' w')∧
  Agree gs lam μ' (ah env.bx (iw S d_ aR++gs)):=by
 rw [fA]
 generalize yD:ah env.bx (iw S d_ aR)=dA
 let μ':Nat→Loc:=fun i=>if i ∈ gs.map (·.1) then lam i else μ i
 have hin: ∀ u ∈ gs,ah dA gs u.1=some u.2∧μ' u.1=lam u.1:=fun u hu=>⟨t_ gs dA hG.one u hu,if_pos (List.mem_map.2 ⟨u,hu,rfl⟩)⟩
 have hout: ∀ i,(∀ u ∈ gs,u.1≠i)→ah dA gs i=dA i∧μ' i=μ i:=fun i hi=>⟨o7 gs dA hi,if_neg fun hm=>by
  obtain ⟨u,hu,he⟩:=List.mem_map.1 hm; exact hi u hu he⟩
 have cD: ∀ i,dA i=env.bx i∨dA i=some .dead∨(d_=true∧dA i=ah env.bx aR i):=fun i=>by rw [← yD]; exact KL hdf d_ env.bx i
 have gQ: ∀ i,ah env.bx aR i=some .dead→dA i=some .dead:=fun i hi=>by rw [← yD]; exact vz d_ (fun h=>h) hi
 have hlv: ∀ i,live S dA i→dA i=env.bx i∧live S env.bx i:=fun i hi=>by
  have h1:dA i=env.bx i:=by
   rcases cD i with h1 | h1 | ⟨_,h1⟩
   · exact h1
   · unfold live at hi; rw [h1] at hi; exact hi.elim
   · rw [h1]; exact hk.c_ ((dD S h1).1 hi)
  exact ⟨h1,(dD S h1).1 hi⟩
 let U:Nat→Prop:=fun i=>(∃ u ∈ gs,u.1=i)∨dA i≠env.bx i
 have pU: ∀ b o,M b o→ ∃ i,live S env.bx i∧dA i=some .dead∧(μ i).au b o:=fun b o hm=>by
  obtain ⟨i,h1,_,h3,h4⟩:=hM b o hm
  exact ⟨i,h1,gQ i h3,h4⟩
 have yz: ∀ i,live S env.bx i→dA i=some .dead→U i:=fun i h1 h2=> .inr fun e=>by
  unfold live at h1; rw [← e,h2] at h1; exact h1
 have hT: ∀ b o,M b o→b<w.heap.size→ ∃ i,U i∧live S env.bx i∧(μ i).au b o:=fun b o hm _=>by
  obtain ⟨i,h1,h2,h3⟩:=pU b o hm
  exact ⟨i,yz i h1 h2,h1,h3⟩
 have hU: ∀ i, ¬ U i→ah dA gs i=env.bx i∧μ' i=μ i:=fun i hi=>by
  obtain ⟨h1,h2⟩:=hout i fun u hu e=>hi (.inl ⟨u,hu,e⟩)
  exact ⟨h1.trans (Classical.not_not.1 fun e=>hi (.inr e)),h2⟩
 have n8: ∀ i,live S (ah dA gs) i→(∃ u ∈ gs,u.1=i∧μ' i=lam u.1)∨(dA i=env.bx i∧live S env.bx i∧μ' i=μ i∧ah dA gs i=dA i):=fun i hi=>by
  by_cases hg: ∃ u ∈ gs,u.1=i
  · obtain ⟨u,hu,rfl⟩:=hg
    exact .inl ⟨u,hu,rfl,(hin u hu).2⟩
  · obtain ⟨h1,h2⟩:=hout i fun u hu e=>hg ⟨u,hu,e⟩
    obtain ⟨h3,h4⟩:=hlv i ((dD S h1).1 hi)
    exact .inr ⟨h3,h4,h2,h1⟩
 have vh: ∀ u ∈ gs, ∀ b o,(lam u.1).au b o→M' b o:=fun u hu b o hf=>(hG.au b o).2 ⟨u,hu,hf⟩
 have hf: ∀ i,U i→live S (ah dA gs) i→ ∀ b o,(μ' i).au b o→w.heap.size≤b∨ ∃ j,U j∧live S env.bx j∧(μ j).au b o:=by
  intro i hi n_ b o hfo
  rcases n8 i n_ with ⟨u,hu,rfl,h2⟩ | ⟨h1,h2,h3,h4⟩
  · rw [h2] at hfo
    rcases j7 b o (vh u hu b o hfo) with hm | hn
    · obtain ⟨j,j1,j2,j3⟩:=pU b o hm
      exact .inr ⟨j,yz j j1 j2,j1,j3⟩
    · exact .inl hn
  · rcases hi with ⟨u,hu,rfl⟩ | hi
    · rw [(hin u hu).2] at hfo
      rcases j7 b o (vh u hu b o hfo) with hm | hn
      · obtain ⟨j,j1,j2,j3⟩:=pU b o hm
        exact .inr ⟨j,yz j j1 j2,j1,j3⟩
      · exact .inl hn
    · exact absurd h1 hi
 have iX:=h.later hw hT hU hf
 have dP:aV w' s' w' (ay S w0 M0 s0 (ah dA gs) μ' w'):=by
  intro b o hs
  obtain ⟨q1,q2,q3⟩:=hs' b o hs
  refine ⟨⟨q1, ?_,fun i hi hfo=> ?_⟩,rfl⟩
  · rcases q3 with q3 | q3 | q3
    · exact q3.2.1
    · obtain ⟨i,i1,_,i3⟩:=pU b o q3
      exact (h.own i i1 b o i3).elim (fun h=> .inr (.inr h)) (fun h=> .inr (.inl h))
    · exact .inr (.inr (Nat.le_trans h.gN.size q3))
  · rcases n8 i hi with ⟨u,hu,rfl,h2⟩ | ⟨h1,h2,h3,h4⟩
    · rw [h2] at hfo; exact q2 (vh u hu b o hfo)
    · rw [h3] at hfo
      rcases q3 with q3 | q3 | q3
      · rcases q3.2.2 i h2 with ⟨e,l,hq⟩ | hq
        · rcases hl with hl | hl
          · have :dA i=some (.bn e l):=by rw [← yD,hl]; exact hq
            have hi':=(dD S h4).1 hi
            unfold live at hi'
            rw [this] at hi'
            exact hi'
          · exact hl b o hs
        · exact hq hfo
      · obtain ⟨k,k1,k2,k3⟩:=pU b o q3
        refine h.cO i k (fun e=> ?_) h2 k1 b o hfo k3
        subst e
        rw [h1] at k2
        unfold live at h2; rw [k2] at h2; exact h2
      · exact absurd (jy P S (h.bw i) (h.ext i h2) h2 hfo).1 (by omega)
 refine ⟨μ',h.step hw hT hU hf ?_ ?_ ?_ ?_ ?_,dP,hin⟩
 · intro i B0 hi
   by_cases hg: ∃ u ∈ gs,u.1=i
   · obtain ⟨u,hu,rfl⟩:=hg
     rcases hI u.1 (hG.fu u hu) with hm | hn
     · obtain ⟨ws,vs,e1,e3,e2⟩:=hh _ hm
       rw [hi] at e1
       cases e1
       have :u=(u.1,vs):=hG.one u hu _ e3 rfl
       refine ⟨_,(hin u hu).1, ?_⟩
       rw [show u.2=vs from congrArg Prod.snd this,(hin u hu).2]
       exact e2
     · rw [hi] at hn; cases hn
   · obtain ⟨h1,h2⟩:=hout i fun u hu e=>hg ⟨u,hu,e⟩
     rw [h1,h2]
     rcases cD i with e1 | e1 | ⟨e0,e1⟩
     · exact ⟨B0,e1.trans hi,cl.refl S _ _⟩
     · exact ⟨_,e1,by cases B0 <;> rfl⟩
     · rcases hk i with e2 | ⟨e2,_⟩ | ⟨e,l,e2,e3⟩
       · exact ⟨B0,(e1.trans e2).trans hi,cl.refl S _ _⟩
       · exact ⟨_,e1.trans e2,by cases B0 <;> rfl⟩
       · rw [hi] at e2
         cases e2 <;> exact ⟨_,e1.trans e3,rfl,rfl,rfl⟩
 · intro i j hi hj hij li lj b o fi fj
   rcases n8 i li with ⟨u,hu,rfl,h2⟩ | ⟨h1,h2,h3,h4⟩
   · rcases n8 j lj with ⟨u',aH,rfl,kW⟩ | ⟨nX,_,_,_⟩
     · rw [h2] at fi; rw [kW] at fj
       exact hG.cO u hu u' aH hij b o fi fj
     · rcases hj with ⟨u',aH,rfl⟩ | hj
       · rw [h2] at fi; rw [(hin u' aH).2] at fj
         exact hG.cO u hu u' aH hij b o fi fj
       · exact hj nX
   · rcases hi with ⟨u,hu,rfl⟩ | hi
     · rcases n8 j lj with ⟨u',aH,rfl,kW⟩ | ⟨nX,_,_,_⟩
       · rw [(hin u hu).2] at fi; rw [kW] at fj
         exact hG.cO u hu u' aH hij b o fi fj
       · rcases hj with ⟨u',aH,rfl⟩ | hj
         · rw [(hin u hu).2] at fi; rw [(hin u' aH).2] at fj
           exact hG.cO u hu u' aH hij b o fi fj
         · exact hj nX
     · exact hi h1
 · intro i B hi hB
   by_cases hg: ∃ u ∈ gs,u.1=i
   · obtain ⟨u,hu,rfl⟩:=hg
     rw [(hin u hu).1] at hB
     cases hB
     rw [(hin u hu).2]
     exact (hG.rb μ' _ hin u hu).mono dP
   · obtain ⟨h1,h2⟩:=hout i fun u hu e=>hg ⟨u,hu,e⟩
     rw [h1] at hB
     rw [h2]
     have hne:dA i≠env.bx i:=hi.resolve_left hg
     rcases cD i with e1 | e1 | ⟨e0,e1⟩
     · exact absurd e1 hne
     · rw [e1] at hB; cases hB; trivial
     · rcases hk i with e2 | ⟨e2,_⟩ | ⟨e,l,e2,e3⟩
       · exact absurd (e1.trans e2) hne
       · rw [e1,e2] at hB; cases hB; trivial
       · have C4:dA i=some (.bn e l):=e1.trans e3
         rw [C4] at hB
         cases hB
         have bp:live S env.bx i:=cQ.live S e2
         have ft: ∀ b o,(μ i).au b o→ay S w0 M0 s0 (ah dA gs) μ' w' b o∧w'.cell? ⟨b,o,none⟩=w.cell? ⟨b,o,none⟩:=fun b o fJ=>by
          have Ds: ¬ M b o:=fun hm=>by
           obtain ⟨q,q1,q2,q3⟩:=pU _ _ hm
           refine h.cO i q (fun e=> ?_) bp q1 _ _ fJ q3
           subst e
           rw [C4] at q2
           cases q2
          have Dp:=(jy P S (h.bw i) (h.ext i bp) bp fJ).1
          refine ⟨⟨Nat.lt_of_lt_of_le Dp hw.size,(h.own i bp _ _ fJ).elim (fun h=> .inr (.inr h)) (fun h=> .inr (.inl h)),fun q hq pZ=> ?_⟩,hw.cell _ _ Dp Ds⟩
          rcases n8 q hq with ⟨u,hu,rfl,h2⟩ | ⟨r1,r2,r3,r4⟩
          · rw [h2] at pZ
            rcases j7 _ _ (vh u hu _ _ pZ) with hm | hn
            · exact Ds hm
            · omega
          · rw [r3] at pZ
            refine h.cO q i (fun e=> ?_) r2 bp _ _ pZ fJ
            subst e
            exact hne r1
         have two:=cQ.two S e2
         clear e2
         rcases two with e2 | ⟨u,l',e2,It⟩
         · obtain ⟨g1,g2,g3,g4,g5⟩:=h.bw i _ e2
           refine ⟨g2,g3,fun k x kf=> ?_⟩
           obtain ⟨ds,d1,d2,n,d3⟩:=g5 k x kf
           refine ⟨ds,d1,fun j u hj=> ?_,n,d3.mono S iX (Nat.le_refl _)⟩
           have fJ:=kO g1 g3 (List.getElem?_eq_some_iff.1 kf).1 (j:=j) (by have :=(List.getElem?_eq_some_iff.1 hj).1; omega)
           obtain ⟨f1,f2⟩:=ft _ _ (.inl fJ)
           exact ⟨f2.trans (d2 j u hj),f1⟩
         · cases It
           obtain ⟨g1,g2,g3,g4,n,Ms,g5,g6⟩:=h.bw i _ e2
           refine ⟨g2,g3,fun k x kf=> ?_⟩
           obtain ⟨y,ds,d1,d2,d3,d4⟩:=g6.2.2.2 k x kf (by simp)
           obtain ⟨m,hm⟩:=vI (s':=fun b o=>ay S w0 M0 s0 env.bx μ w b o∨(μ i).au b o) hS.flat (fun u l M cs q1 q2=>bZ.rep hS.flat q1 q2) d1 (fun b' o' q=>q.imp id fun q=> .inr ((g5 _ _).2 ⟨k,q⟩)) d4
           have JR:aV w (fun b o=>ay S w0 M0 s0 env.bx μ w b o∨(μ i).au b o) w' (ay S w0 M0 s0 (ah dA gs) μ' w'):=fun b o q=>q.elim (fun q=>iX b o q) fun q=>ft b o q
           refine ⟨ds,d2,fun j u hj=> ?_,m,hm.mono S JR (Nat.le_refl _)⟩
           have fJ:=kO g1 g3 (List.getElem?_eq_some_iff.1 kf).1 (j:=j) (by have :=(List.getElem?_eq_some_iff.1 hj).1; omega)
           obtain ⟨f1,f2⟩:=ft _ _ (.inl fJ)
           exact ⟨f2.trans (d3 j u hj),f1⟩
 · intro i vs hi hvs v hv j hj
   by_cases hg: ∃ u ∈ gs,u.1=i
   · obtain ⟨u,hu,rfl⟩:=hg
     rw [(hin u hu).1] at hvs
     obtain ⟨u',aH,he⟩:=hG.ref u hu vs (by rcases hvs with hvs | hvs <;> · rw [Option.some.inj hvs]; simp) v hv j hj
     rw [← he,(hin u' aH).1]; simp
   · obtain ⟨h1,h2⟩:=hout i fun u hu e=>hg ⟨u,hu,e⟩
     have hne:dA i≠env.bx i:=hi.resolve_left hg
     rw [h1] at hvs
     rcases cD i with e1 | e1 | ⟨e0,e1⟩
     · exact absurd e1 hne
     · rw [e1] at hvs; rcases hvs with hvs | hvs <;> cases hvs
     · rcases hk i with e2 | ⟨e2,_⟩ | ⟨e,l,e2,e3⟩
       · exact absurd (e1.trans e2) hne
       · rw [e1,e2] at hvs; rcases hvs with hvs | hvs <;> cases hvs
       · rw [e1,e3] at hvs; rcases hvs with hvs | hvs <;> cases hvs
 · intro i hi n_
   rcases n8 i n_ with ⟨u,hu,rfl,h2⟩ | ⟨h1,h2,h3,h4⟩
   · rw [(hin u hu).1,h2]; exact hG.ext u hu
   · rw [h4,h3,h1]; exact h.ext i h2
end
end Go.Sy
namespace Go.Sy
section
variable {P:Program} {S:aK} {af:Nat→Nat}
theorem pH {bx aa:Bx S.C} {W:Sy.V S.C} {t:Ty} (hW: ∀ i ∈ ak S W,aa i=bx i):cH S aa t W=cH S bx t W:=by
 cases W with
 | az b=>simp only [cH]; rw [hW b (by simp [ak])]
 | _=>rfl
theorem IT {bx aa:Bx S.C} {W:Sy.V S.C} (hW: ∀ i ∈ ak S W,aa i=bx i):cu S aa W=cu S bx W:=by
 cases W with
 | az b=>simp only [cu]; rw [hW b (by simp [ak])]
 | _=>rfl
theorem Gi {bx aa:Bx S.C} : ∀ {ts:List Ty} {vs:List (Sy.V S.C)},(∀ v ∈ vs, ∀ i ∈ ak S v,aa i=bx i)→gJ S aa ts vs=gJ S bx ts vs
 | [],_,_=>rfl
 | t::ts,[],_=>rfl
 | t::ts,v::vs,h=>by
  simp only [gJ]
  rw [pH (h v (by simp)),Gi fun v hv=>h v (by simp [hv])]
theorem zh {bx aa:Bx S.C} {t:Ty} {vs:List (Sy.V S.C)} (h: ∀ v ∈ vs, ∀ i ∈ ak S v,aa i=bx i):gT S aa t vs=gT S bx t vs:=by
 cases t with
 | st u=>simp only [gT]; rw [Gi h]
 | _=>
  cases vs with
  | nil=>rfl
  | cons v vs=>exact pH (h v (by simp))
theorem CP {bx aa:Bx S.C} : ∀ {vs:List (Sy.V S.C)},(∀ v ∈ vs, ∀ i ∈ ak S v,aa i=bx i)→vs.flatMap (cu S aa)=vs.flatMap (cu S bx)
 | [],_=>rfl
 | v::vs,h=>by
  simp only [List.flatMap_cons]
  rw [IT (h v (by simp)),CP fun v hv=>h v (by simp [hv])]
theorem F2 {bx aa:Bx S.C} {c:CK} {vs:List (Sy.V S.C)} (h: ∀ v ∈ vs, ∀ i ∈ ak S v,aa i=bx i):cK S aa c vs=cK S bx c vs:=by
 cases c with
 | data t=>
  simp only [cK]
  rw [zh h,CP fun v hv=>h v (List.mem_of_mem_take hv)]
 | aP e=>
  cases vs with
  | nil=>rfl
  | cons v vs=>
   have :=h v (by simp)
   cases v with
   | aP b e' l=>simp only [cK]; rw [this b (by simp [ak])]
   | _=>rfl
 | az e=>
  cases vs with
  | nil=>rfl
  | cons v vs=>
   have :=h v (by simp)
   cases v with
   | az b=>simp only [cK]; rw [this b (by simp [ak])]
   | pre b n=>simp only [cK]; rw [this b (by simp [ak])]
   | _=>rfl
 | aF w=>
  cases vs with
  | nil=>rfl
  | cons v vs=>
   have :=h v (by simp)
   cases v with
   | az b=>simp only [cK]; rw [this b (by simp [ak])]
   | _=>rfl
theorem nA {i:Nat} : ∀ (us:aA S.C) {bx aa:Bx S.C},aa i=bx i→ah aa us i=ah bx us i
 | [],_,_,h=>h
 | u::us,bx,aa,h=>nA us (bx:=ai bx u.1 (some u.2)) (aa:=ai aa u.1 (some u.2)) (by
  by_cases e:i=u.1
  · rw [e,aI,aI]
  · rw [aY _ _ e,aY _ _ e]; exact h)
theorem oX: ∀ {cs:List CK} {bx aa:Bx S.C} {vs:List (Sy.V S.C)},(∀ v ∈ vs, ∀ i ∈ ak S v,aa i=bx i)→cA S aa cs vs=cA S bx cs vs
 | [],_,_,_,_=>rfl
 | c::cs,bx,aa,vs,h=>by
  simp only [cA]
  rw [F2 h]
  cases cK S bx c vs with
  | none=>rfl
  | some a=>
   simp only [Option.bind_some]
   rw [oX fun v hv i hi=>nA _ (h v (List.mem_of_mem_drop hv) i hi)]
def iC (S:aK) (bx aa:Bx S.C) (V:Sy.V S.C):Prop:=
 ∀ i ∈ aq S V,aa i=bx i∧(∀ vs,(bx i=some (.cells vs)∨bx i=some (.bI vs))→ ∀ v ∈ vs, ∀ j ∈ ak S v,aa j=bx j)∧ ∀ j,bx i=some (.aQ j)→aa j=bx j
theorem ON {us:aA S.C} {i:Nat} {vs:List (Sy.V S.C)} (h:DF us): ∀ {bx:Bx S.C},(ah bx us i=some (.cells vs)∨ah bx us i=some (.bI vs))→(bx i=some (.cells vs)∨bx i=some (.bI vs)):=by
 induction us with
 | nil=>exact fun h=>h
 | cons u us ih=>
  intro bx hu
  have :=ih (fun v hv=>h v (by simp [hv])) (bx:=ai bx u.1 (some u.2)) hu
  by_cases e:i=u.1
  · rw [e,aI] at this
    rcases h u (by simp) with h1 | ⟨_,_,h1⟩ <;> · rw [h1] at this; rcases this with h2 | h2 <;> cases h2
  · rw [aY _ _ e] at this; exact this
theorem OO {us:aA S.C} {i j:Nat} (h:DF us): ∀ {bx:Bx S.C},ah bx us i=some (.aQ j)→bx i=some (.aQ j):=by
 induction us with
 | nil=>exact fun h=>h
 | cons u us ih=>
  intro bx hu
  have :=ih (fun v hv=>h v (by simp [hv])) (bx:=ai bx u.1 (some u.2)) hu
  by_cases e:i=u.1
  · rw [e,aI] at this
    rcases h u (by simp) with h1 | ⟨_,_,h1⟩ <;> · rw [h1] at this; cases this
  · rw [aY _ _ e] at this; exact this
theorem iC.ah {bx aa:Bx S.C} {V:Sy.V S.C} {us:aA S.C} (hd:DF us) (h:iC S bx aa V):iC S (ah bx us) (ah aa us) V:=fun i hi=>
 ⟨nA us (h i hi).1,fun vs hvs v hv j hj=>nA us ((h i hi).2.1 vs (ON hd hvs) v hv j hj),fun j hj=>nA us ((h i hi).2.2 j (OO hd hj))⟩
theorem HR {bx aa:Bx S.C} {t:Ty} {v:Sy.V S.C} (this: ∀ i ∈ ak S v,aa i=bx i∧ ∀ ws,(bx i=some (.cells ws)∨bx i=some (.bI ws))→ ∀ v ∈ ws, ∀ j ∈ ak S v,aa j=bx j):kL S aa t v=kL S bx t v:=by
 cases v with
 | ptr b off=>
  obtain ⟨h1,h2⟩:=this b (by simp [ak])
  cases off with
  | zero=>
   simp only [kL]
   rw [h1]
   split
   · rename_i ws hb
     rw [zh (h2 ws (.inr hb))]
   · rfl
  | succ n=>rfl
 | _=>rfl
theorem xk {bx aa:Bx S.C} : ∀ {ts:List Ty} {vs:List (Sy.V S.C)},(∀ v ∈ vs, ∀ i ∈ ak S v,aa i=bx i∧ ∀ ws,(bx i=some (.cells ws)∨bx i=some (.bI ws))→ ∀ v ∈ ws, ∀ j ∈ ak S v,aa j=bx j)→caps S aa ts vs=caps S bx ts vs
 | [],[],_=>rfl
 | [],_::_,_=>rfl
 | t::ts,[],_=>rfl
 | t::ts,v::vs,h=>by
  simp only [caps]
  have h1:kL S aa t v=kL S bx t v:=by
   have :=h v (by simp)
   cases v with
   | ptr b off=>
    obtain ⟨h1,h2⟩:=this b (by simp [ak])
    cases off with
    | zero=>
     simp only [kL]
     rw [h1]
     split
     · rename_i ws hb
       rw [zh (h2 ws (.inr hb))]
     · rfl
    | succ n=>rfl
   | _=>rfl
  rw [h1,xk fun v hv=>h v (by simp [hv])]
theorem IN {fs:List (gw S)} {bx aa:Bx S.C} {A R:List Ty} {V:Sy.V S.C} (h:iC S bx aa V):nU S fs aa A R V=nU S fs bx A R V:=by
 cases V with
 | fh f vs=>
  simp only [nU]
  have : ∀ ts,caps S aa ts vs=caps S bx ts vs:=fun ts=>xk fun v hv i hi=>have q:=h i (by simp only [aq,List.mem_flatMap]; exact ⟨v,hv,hi⟩); ⟨q.1,q.2.1⟩
  simp only [this]
 | _=>rfl
theorem F8 {bx aa:Bx S.C} {cs:List CK} {b:Nat} (h:iC S bx aa (.ptr b 0)):f_ S aa cs b=f_ S bx cs b:=by
 unfold f_
 rw [(h b (by simp [aq,ak])).1]
 split
 · rename_i vs hb
   have :cA S (ai aa b (some .dead)) cs (vs.drop 0)=cA S (ai bx b (some .dead)) cs (vs.drop 0):=by
    refine oX fun v hv i hi=> ?_
    have :=(h b (by simp [aq,ak])).2.1 vs (.inl hb) v (List.mem_of_mem_drop hv) i hi
    by_cases e:i=b
    · rw [e,aI,aI]
    · rw [aY _ _ e,aY _ _ e]; exact this
   rw [this]
 · rfl
theorem NW {fs:List (gw S)} {bx aa:Bx S.C} {k:K} {V:Sy.V S.C} (h:iC S bx aa V):bU S fs aa k V=bU S fs bx k V:=by
 have h1: ∀ (c:CK),cK S aa c [V]=cK S bx c [V]∨ ∃ u vs,V= .agg u vs∨V= .fh u vs∨V= .gI vs:=by
  intro c
  cases V with
  | agg u vs=>exact .inr ⟨u,vs, .inl rfl⟩
  | fh u vs=>exact .inr ⟨u,vs, .inr (.inl rfl)⟩
  | gI vs=>exact .inr ⟨0,vs, .inr (.inr rfl)⟩
  | _=>exact .inl (F2 fun v hv i hi=>by simp at hv; subst hv; exact (h i hi).1)
 have obj: ∀ (cs:List CK) (b:Nat) (vs:List (Sy.V S.C)) (off:Nat),V= .ptr b off→bx b=some (.cells vs)→cA S (ai aa b (some .dead)) cs (vs.drop off)=cA S (ai bx b (some .dead)) cs (vs.drop off):=by
  rintro cs b vs off rfl hb
  refine oX fun v hv i hi=> ?_
  have :=(h b (by simp [aq,ak])).2.1 vs (.inl hb) v (List.mem_of_mem_drop hv) i hi
  by_cases e:i=b
  · rw [e,aI,aI]
  · rw [aY _ _ e,aY _ _ e]; exact this
 cases k with
 | val c=>
  cases c with
  | data t=>
   obtain ⟨d1,d2⟩:=rO (t:=t) fun i hi=>(h i hi).1
   simp only [bU,d1,d2]
  | aP e=>
   rcases h1 (.aP e) with h1 | ⟨u,vs,rfl | rfl | rfl⟩
   · exact h1
   all_goals rfl
  | az e=>
   rcases h1 (.az e) with h1 | ⟨u,vs,rfl | rfl | rfl⟩
   · exact h1
   all_goals rfl
  | aF w=>
   rcases h1 (.aF w) with h1 | ⟨u,vs,rfl | rfl | rfl⟩
   · exact h1
   all_goals rfl
 | agg u cs=>
  cases V with
  | agg u' vs=>
   simp only [bU]
   rw [oX fun v hv i hi=>(h i (by simp only [aq,List.mem_flatMap]; exact ⟨v,hv,hi⟩)).1]
  | _=>rfl
 | obj cs=>
  cases V with
  | ptr b off=>
   simp only [bU]
   rw [(h b (by simp [aq,ak])).1]
   split
   · rename_i vs hb
     rw [obj cs b vs off rfl hb]
   · rfl
  | _=>rfl
 | opt cs=>
  cases V with
  | ptr b off=>
   simp only [bU]
   rw [(h b (by simp [aq,ak])).1]
   split
   · rename_i vs hb
     rw [obj cs b vs off rfl hb]
   · rfl
  | _=>rfl
 | cm cs=>
  cases V with
  | cm b n=>
   simp only [bU]
   rw [(h b (by simp [aq,ak])).1]
   split
   · rename_i vs hb
     have :cA S (ai aa b (some .dead)) cs (vs.drop 0)=cA S (ai bx b (some .dead)) cs (vs.drop 0):=by
      refine oX fun v hv i hi=> ?_
      have :=(h b (by simp [aq,ak])).2.1 vs (.inl hb) v (List.mem_of_mem_drop hv) i hi
      by_cases e:i=b
      · rw [e,aI,aI]
      · rw [aY _ _ e,aY _ _ e]; exact this
     rw [this]
   · rfl
  | _=>rfl
 | bQ t cs=>
  cases V with
  | split b c=>
   simp only [bU]
   have hc:iC S bx aa (.ptr c 0):=fun i hi=>h i (by simp [aq,ak] at hi ⊢; exact .inr hi)
   have hb:iC S bx aa (.ptr b 0):=fun i hi=>h i (by simp [aq,ak] at hi ⊢; exact .inl hi)
   rw [F8 hc]
   cases hy:f_ S bx [.data t] c with
   | none=>rfl
   | some y=>
    simp only [Option.bind_some]
    rw [F8 (hb.ah (DF.f_ (us:=y.2) (x:=y.1) hy))]
  | _=>rfl
 | nil=>rfl
 | err=>rfl
 | aQ=>
  cases V with
  | ptr b off=>
   simp only [bU]
   rw [(h b (by simp [aq,ak])).1]
   split
   · rename_i j hb
     rw [(h b (by simp [aq,ak])).2.2 j hb]
   · rfl
  | _=>rfl
 | ro t=>
  cases V with
  | ptr b off=>
   simp only [bU]
   have :=HR (t:=t) (v:= .ptr b off) fun i hi=>⟨(h i hi).1,(h i hi).2.1⟩
   rw [this]
  | _=>rfl
 | fn A R=>simp only [bU]; rw [IN h]
theorem F4 {fs:List (gw S)} : ∀ {ks:List K} {bx aa:Bx S.C} {Vs:List (Sy.V S.C)},(∀ V ∈ Vs,iC S bx aa V)→dR S fs aa ks Vs=dR S fs bx ks Vs
 | [],_,_,[],_=>rfl
 | [],_,_,_::_,_=>rfl
 | k::ks,_,_,[],_=>rfl
 | k::ks,bx,aa,V::Vs,h=>by
  simp only [dR]
  rw [NW (h V (by simp))]
  cases hk:bU S fs bx k V with
  | none=>rfl
  | some a=>
   simp only [Option.bind_some]
   rw [F4 fun V' Jb=>(h V' (by simp [Jb])).ah (DF.bU (us:=a.2) (x:=a.1) hk)]
theorem bW.length {w:World} {s:St} : ∀ {M:St} {ks:List K} {x:Ks S.C ks} {vs:List Value},bW P S w s M ks x vs→vs.length=ks.length
 | _,[],_,_,h=>by rw [h.2]; rfl
 | _,k::ks,_,_,⟨M1,M2,v,r,h1,h2,h3,h4⟩=>by subst h2; rw [List.length_cons,bW.length h4]; rfl
theorem av.flat {w:World} {s s':St} {n:Nat} {t:Ty} (hf:uR S t=true) {x:t.den S.C} {cs:List Value} (h:av S w s n t x cs):av S w s' n t x cs:=by
 cases n with
 | zero=>exact h.elim
 | succ n=>cases t with
  | int k=>exact h
  | bool=>exact h
  | str=>exact h
  | pt=>exact h
  | sl e=>simp [uR] at hf
  | st u=>
   cases n with
   | zero=>
    have : ∀ (ts:List Ty) (x:ag S.C ts) (cs:List Value),a_ S (fun t x cs=>av S w s 0 t x cs) ts x cs→a_ S (fun t x cs=>av S w s' 0 t x cs) ts x cs:=by
     intro ts x cs h
     exact a_.mono S (fun t x cs h=>h.elim) ts x cs h
    exact this _ _ _ h
   | succ m=>exact (a_.flat S (m:=m) _ _ _ hf h)
theorem jU.flat {w:World} {s s' M:St} {c:CK} (hf:mT S c=true) {x:c.den S.C} {cs:List Value} (h:jU S w s M c x cs):jU S w s' M c x cs:=by
 cases c with
 | data t=>exact ⟨h.1,h.2.imp fun _ hn=>hn.flat hf⟩
 | aP e=>simp [mT] at hf
 | az e=>
  obtain ⟨a,cap,L,h1,h2,h3,h4,h5⟩:=h
  refine ⟨a,cap,L,h1,h2,h3,h4,fun i y hi=> ?_⟩
  obtain ⟨ds,d1,d2,n,d3⟩:=h5 i y hi
  exact ⟨ds,d1,d2,n,d3.flat hf⟩
 | aF w=>simp [mT] at hf
theorem dz.flat {w:World} {s s':St} : ∀ {M:St} {cs:List CK} {x:aJ S.C cs} {vs:List Value},cs.all (mT S)=true→dz S w s M cs x vs→dz S w s' M cs x vs
 | _,[],_,_,_,h=>h
 | _,_::_,_,_,hf,⟨M1,M2,v1,v2,h1,h2,h3,h4,h5⟩=>by
  simp only [List.all_cons,Bool.and_eq_true] at hf
  exact ⟨M1,M2,v1,v2,h1,h2,h3,h4.flat hf.1,dz.flat hf.2 h5⟩
theorem dS.flat {w:World} {s s' M:St} {cs:List CK} (hf:cs.all (mT S)=true) {x:aJ S.C cs} {v:Value} (h:dS S w s M cs x v):dS S w s' M cs x v:=by
 obtain ⟨b,o,ds,M',h1,h2,h3,h4,h5⟩:=h
 exact ⟨b,o,ds,M',h1,h2,h3,h4,h5.flat hf⟩
theorem jV.flat {w:World} {s s' M:St} {k:K} (hf:nT S k=true) {x:k.den S.C} {v:Value} (h:jV P S w s M k x v):jV P S w s' M k x v:=by
 cases k with
 | val c=>exact ⟨h.1.flat hf,h.2⟩
 | obj cs=>exact dS.flat hf h
 | aQ=>exact h
 | opt cs=>
  cases x with
  | none=>exact h
  | some y=>exact dS.flat hf h
 | nil=>exact h
 | ro t=>simp [nT] at hf
 | fn a r=>simp [nT] at hf
 | bQ t cs=>simp [nT] at hf
 | agg u cs=>simp [nT] at hf
 | cm cs=>
  obtain ⟨p,h1,h2⟩:=h
  exact ⟨p,h1,dS.flat hf h2⟩
 | err=>exact h
theorem bW.flat {w:World} {s s':St} : ∀ {M:St} {ks:List K} {x:Ks S.C ks} {vs:List Value},ks.all (nT S)=true→bW P S w s M ks x vs→bW P S w s' M ks x vs
 | _,[],_,_,_,h=>h
 | _,_::_,_,_,hf,⟨M1,M2,v,r,h1,h2,h3,h4⟩=>by
  simp only [List.all_cons,Bool.and_eq_true] at hf
  exact ⟨M1,M2,v,r,h1,h2,h3.flat hf.1,bW.flat hf.2 h4⟩
def aM (P:Program) (S:aK) (e:Entry S):Prop:=iB P e.f∧ ∀ (w:World) (s M:St) (x:Ks S.C e.ps) (args:List Value) (r:Ks S.C (e.rs++outs e.ps)),
 bW P S w s M e.ps x args→(∀ b o,s b o→b<w.heap.size∧ ¬ M b o)→ji S w M→e.sp x=some r→
 Calls P e.f args.toArray w fun en w'=> ∃ us s' M',en= .returned (jd us)∧aO w w' M∧bW P S w' s' M' (e.rs++outs e.ps) r (us++eV e.ps args)∧
  (∀ b o,s' b o→b<w'.heap.size∧ ¬ M' b o∧(s b o∨M b o∨w.heap.size≤b))∧ ∀ b o,M' b o→M b o∨w.heap.size≤b
def mN (P:Program) (S:aK) (w0:World) (M0:St) (e:Entry S):Prop:=iB P e.f∧ ∀ (w:World) (s M:St) (x:Ks S.C e.ps) (args:List Value) (r:Ks S.C (e.rs++outs e.ps)),
 aO w0 w M0→(∀ b o,M b o→w0.heap.size≤b∨M0 b o)→bW P S w s M e.ps x args→(∀ b o,s b o→b<w.heap.size∧ ¬ M b o)→e.sp x=some r→
 Calls P e.f args.toArray w fun en w'=> ∃ us s' M',en= .returned (jd us)∧aO w w' M∧bW P S w' s' M' (e.rs++outs e.ps) r (us++eV e.ps args)∧
  (∀ b o,s' b o→b<w'.heap.size∧ ¬ M' b o∧(s b o∨M b o∨w.heap.size≤b))∧ ∀ b o,M' b o→M b o∨w.heap.size≤b
theorem aM.at {w0:World} {M0:St} {e:Entry S} (h:aM P S e) (hG:ji S w0 M0):mN P S w0 M0 e:=
 ⟨h.1,fun w s M x args r hc hM hx hs hr=>h.2 w s M x args r hx hs ⟨fun g hg=>by
  obtain ⟨g1,g2,v,g3,g4⟩:=hG.1 g hg
  refine ⟨Nat.lt_of_lt_of_le g1 hc.size,fun hm=> ?_,v,(hc.cell g.1.1 g.1.2 g1 g2).trans g3,g4⟩
  rcases hM _ _ hm with h1 | h1
  · exact absurd g1 (Nat.not_lt.2 h1)
  · exact g2 h1,fun g hg=>by
  obtain ⟨g1,g2,v,g3,g4⟩:=hG.2 g hg
  refine ⟨Nat.lt_of_lt_of_le g1 hc.size,fun o hm=> ?_,v,(hc.same g.1 g1 g2).trans g3,g4⟩
  rcases hM _ _ hm with h1 | h1
  · exact absurd g1 (Nat.not_lt.2 h1)
  · exact g2 o h1⟩ hr⟩
end
end Go.Sy
namespace Go.Sy
section
variable {P:Program} {S:aK} {af:Nat→Nat}
variable {w0:World} {M0 s0:St} {dq:List Deferred} {env:Env S.C} {a:Act} {w:World} {μ:Nat→Loc} {K:Act→World→Prop} {Q:Exit→Act→World→Prop} {o:Oper} {V:V S.C} {us:aA S.C}
theorem wM {s:St} {bx:Bx S.C} {vs:List (Sy.V S.C)} {us:List Value} (h:aB P S w s μ bx vs us):RV P S w s μ bx (mB S vs) (jd us):=by
 cases vs with
 | nil=>cases h; exact ⟨#[],rfl,rfl⟩
 | cons v vs=>
  obtain ⟨c,r,rfl,h1,h2⟩:=h
  cases vs with
  | nil=>cases h2; exact jk h1
  | cons v' vs=>
   obtain ⟨c',r',rfl,h3,h4⟩:=h2
   exact ⟨_,rfl,c,c'::r',by simp,h1,c',r',rfl,h3,h4⟩
theorem DK {vs:List (Sy.V S.C)} {j:Nat} (h:j ∈ aq S (mB S vs)): ∃ v ∈ vs,j ∈ ak S v∨j ∈ aq S v:=by
 cases vs with
 | nil=>simp [mB,aq] at h
 | cons v vs=>
  cases vs with
  | nil=>exact ⟨v,by simp, .inr h⟩
  | cons v' vs=>
   simp only [mB,aq,List.mem_flatMap] at h
   obtain ⟨u,hu,hj⟩:=h
   exact ⟨u,hu, .inl hj⟩
theorem RV.mono {w w':World} {s s':St} {μ:Nat→Loc} {bx:Bx S.C} (hl:aV w s w' s') {V:Sy.V S.C} {v:Value} (h:RV P S w s μ bx V v):RV P S w' s' μ bx V v:=by
 cases V with
 | agg u vs=>obtain ⟨cs,h1,h2,h3,h4⟩:=h; exact ⟨cs,h1,h2,h3,h4.mono hl⟩
 | gI vs=>obtain ⟨cs,h1,h4⟩:=h; exact ⟨cs,h1,h4.mono hl⟩
 | fh f vs=>obtain ⟨cs,h1,h4⟩:=h; exact ⟨cs,h1,h4.mono hl⟩
 | d t x=>exact bV.mono S hl h
 | aP b e l=>exact bl.mono (P:=P) (μ:=μ) (bx:=bx) (V:= .aP b e l) hl h
 | cJ t x=>exact bl.mono (P:=P) (μ:=μ) (bx:=bx) (V:= .cJ t x) hl h
 | fv a r g=>exact bl.mono (P:=P) (μ:=μ) (bx:=bx) (V:= .fv a r g) hl h
 | split b c=>exact bl.mono (P:=P) (μ:=μ) (bx:=bx) (V:= .split b c) hl h
 | jc c=>exact bl.mono (P:=P) (μ:=μ) (bx:=bx) (V:= .jc c) hl h
 | _=>exact h
theorem dL.mono {w w':World} {s s':St} {μ:Nat→Loc} {bx:Bx S.C} (hl:aV w s w' s'): ∀ {vs:List (Sy.V S.C)} {cs:List Value},dL P S w s μ bx vs cs→dL P S w' s' μ bx vs cs
 | [],_,h=>h
 | _::_,_,⟨c,r,h1,h2,h3⟩=>⟨c,r,h1,h2.mono hl,dL.mono hl h3⟩
theorem GS {s:St} {bx:Bx S.C} {rs:List Sy.K} {vs:List (Sy.V S.C)} {us:List Value} (hg:w7 rs=true) (hn:us.length=rs.length) (h:dL P S w s μ bx vs us) (h':rs.all qd=true→aB P S w s μ bx vs us):RV P S w s μ bx (mB S vs) (jd us):=by
 match rs,hg with
 | [],hg=>exact wM (h' hg)
 | [k],_=>
  match vs,h with
  | [],h=>cases h; cases hn
  | [v],⟨c,r,h1,h2,h3⟩=>cases h3; subst h1; exact h2
  | _::_::_,⟨c,r,h1,h2,c',r',h3,h4,h5⟩=>subst h1 h3; simp at hn
 | _::_::_,hg=>exact wM (h' hg)
theorem Av {c:Call} (ho:o.op= .call c) {f:Operand} (hc:c.callee= .value f) {g:Nat} {first cap:Array Value} (hf:a.eval f= .func (.func g) first cap) (hok:iB P g):
 (execOp a.eval o).run P w= .ok (.enter g (first++c.args.map a.eval++cap)) w:=by
 obtain ⟨fn,h1,h2,h3⟩:=hok
 unfold execOp
 simp only [ho]
 have kW: ¬ fn.name= "runtime.NumGoroutine" :=by simpa using h2
 have CV: ¬ fn.body=none:=fun e=>by rw [e] at h3; cases h3
 simp [resolve,hc,hf,Deferred.ofValue,invoke,callFunc,h1,kW,CV]
theorem zL: ∀ (ps:List Sy.K) (args:List Value),args.length=ps.length→(eV ps args).length=(outs ps).length
 | [],_,_=>by simp [eV,outs]
 | _::_,[],h=>by simp at h
 | k::ps,v::args,h=>by
  have ih:=zL ps args (by simpa using h)
  cases k <;> simp [eV,outs,ih]
theorem BS (hP:aL P S af) {T:gA S} {f:Nat} {args:Array Value} {C:(Ending→World→Prop)→Prop} (hmono: ∀ R R',(∀ en w',R en w'→R' en w')→C R→C R')
 (hT: ∀ e ∈ T.es,e.f=f→ ∀ (s M:St) (x:Ks S.C e.ps) (r:Ks S.C (e.rs++outs e.ps)),(∀ b o,M b o→w0.heap.size≤b∨M0 b o)→bW P S w s M e.ps x args.toList→(∀ b o,s b o→b<w.heap.size∧ ¬ M b o)→e.sp x=some r→
  C fun en w'=> ∃ us s' M',en= .returned (jd us)∧aO w w' M∧bW P S w' s' M' (e.rs++outs e.ps) r (us++eV e.ps args.toList)∧
   (∀ b o,s' b o→b<w'.heap.size∧ ¬ M' b o∧(s b o∨M b o∨w.heap.size≤b))∧ ∀ b o,M' b o→M b o∨w.heap.size≤b)
 (hF: ∀ e ∈ T.fs,gx P S e) (h:Inv P S w0 M0 s0 dq env a w μ) {B:Nat} {ct:Bx S.C}
 {Vs:List (Sy.V S.C)} (hargs:dL P S w (ay S w0 M0 s0 env.bx μ w) μ env.bx Vs args.toList)
 (hkn: ∀ V ∈ Vs,iC S env.bx ct V) (hnew: ∀ u ∈ us,B≤u.1→u.1<B+16→env.bx u.1=none)
 (hl:(mR S T B ct f Vs).leaf (V,us)):
 C fun en w'=> ∃ v μ',en= .returned v∧Inv P S w0 M0 s0 dq { env with bx:=ah env.bx us } a w' μ'∧RV P S w' (ay S w0 M0 s0 (ah env.bx us) μ' w') μ' (ah env.bx us) V v∧ ∀ j ∈ aq S V,ah env.bx us j≠none:=by
 unfold mR at hl
 split at hl
 · rename_i e tk hfind
   obtain ⟨e0,su,hsel⟩:=List.exists_of_findSome?_eq_some hfind
   split at hsel
   · rename_i j_
     obtain ⟨mw,eU,hsel⟩:=Option.bind_eq_some_iff.1 hsel
     cases hsel
     cases cN:Nat.ble (iq e.rs+iq (outs e.ps)) 16&&(dg S e.ps Vs).all fun b=> !(Nat.ble B b&&Nat.blt b (B+16)) with
     | false=>rw [cN] at hl; exact hl.elim
     | true=>
      rw [cN,cond_true] at hl
      rw [Bool.and_eq_true] at cN
      obtain ⟨cN,Jj⟩:=cN
      have cN:=Nat.le_of_ble_eq_true cN
      obtain ⟨r,hr,hl⟩:=hl
      cases sw:w7 e.rs with
      | false=>rw [sw] at hl; exact hl.elim
      | true=>
      dsimp only at hl
      rw [sw,cond_true] at hl
      rw [F4 hkn] at eU
      obtain ⟨x,aR⟩:=tk
      dsimp only at hr hl
      obtain ⟨k1,M,kr,fr⟩:=tW hP.tob6 h hF e.ps (Tk.refl S env.bx) hargs eU
      have Kk: ∀ (ks:List Sy.K) (bx:Bx S.C) (hk:Tk S env.bx bx) (Vs:List (Sy.V S.C)) (args:List Value) (x:Ks S.C ks) (us:aA S.C),dL P S w (ay S w0 M0 s0 env.bx μ w) μ env.bx Vs args→dR S T.fs bx ks Vs=some (x,us)→Tk S bx (ah bx us):=
       fun ks bx hk Vs args x us h1 h2=>(tW hP.tob6 h hF ks hk h1 h2).1
      obtain ⟨oo,Ly,od⟩:=F5 (s:=ay S w0 M0 s0 env.bx μ w) (s':=ay S w0 M0 s0 env.bx μ w) h.bw h.ext e.ps (Tk.refl S env.bx) Kk hargs eU
      have hdf:=DF.dR eU
      have DC: ∀ b o,bC S w0 M0 s0 env.bx (ah env.bx aR) μ w b o→b<w.heap.size∧ ¬ M b o:=by
       intro b o ⟨q1,q2,q3⟩
       refine ⟨q1,fun hm=> ?_⟩
       obtain ⟨i,i1,_,i3,i4⟩:=fr b o hm
       rcases q3 i i1 with ⟨_,_,hq⟩ | hq
       · rw [i3] at hq; cases hq
       · exact hq i4
      refine hmono _ _ ?_ (hT e su j_ _ M x r (fun b o hm=>by obtain ⟨i,i1,_,_,i4⟩:=fr b o hm; exact h.own i i1 b o i4) kr DC hr)
      rintro en w' ⟨vs,s',M',rfl,hw,hks,hs',j7⟩
      have JE: ∃ s2:St,bW P S w' s2 M' (e.rs++outs e.ps) r (vs++eV e.ps args.toList)∧(∀ b o,s2 b o→s' b o)∧(vD S e=true∨ ∀ b o, ¬ s2 b o):=by
       cases hlk:vD S e with
       | true=>exact ⟨s',hks,fun _ _ h=>h, .inl rfl⟩
       | false=>
        unfold vD at hlk
        simp only [Bool.not_eq_false'] at hlk
        exact ⟨fun _ _=>False,hks.flat hlk,fun _ _ h=>h.elim, .inr fun _ _ h=>h⟩
      obtain ⟨s2,Dk,Kd,hlk⟩:=JE
      obtain ⟨q,M1,M2,us',ws,hq,cv,hsp,Du,n1,n2,l1,g1,r1,mj,Ax⟩:=D4 hP.tob6 e.rs B Dk hl
      obtain ⟨rfl,rfl⟩:=bg hq
      have hlen:=bW.length Dk
      have hlo:=bW.length Du
      have hla:args.toList.length=e.ps.length:=bW.length kr
      have hol:=zL e.ps args.toList hla
      have hsame:vs=us'∧eV e.ps args.toList=ws:=by
       refine List.append_inj cv ?_
       have :=congrArg List.length cv
       simp only [List.length_append] at this
       omega
      obtain ⟨rfl,rfl⟩:=hsame
      have yM: ∀ b ∈ dg S e.ps Vs, ∀ i,B≤i→i<B+16→i≠b:=by
       rintro b hb i h1 h2 rfl
       have :=List.all_eq_true.1 Jj i hb
       rw [show Nat.ble B i=true from Nat.ble_eq_true_of_le h1,show Nat.blt i (B+16)=true from Nat.ble_eq_true_of_le h2] at this
       cases this
      obtain ⟨l2,g2,Dj⟩:=jA (P:=P) hP.tob6 e.ps q.2.2 (oo.later fun b o hs=>have hq:=DC b o (hJ S w0 M0 s0 env.bx (ah env.bx aR) μ w b o hs).1; hw.cell b o hq.1 hq.2) Ly (fun b hb i h1 h2=>yM b hb i (by omega) (by omega)) Du
      obtain ⟨g,hag⟩:=bL.both g1 g2 (fun i h1 h2=>by
       rcases h2 with h2 | h2
       · exact yM i h2 i (by omega) (by omega) rfl
       · omega) hsp
      have yL:bL P S w' s2 (fun i=> ∃ u ∈ (q.2.1++eW S q.2.2 e.ps Vs (jg S e.rs (outs e.ps) r).2),u.1=i) (q.2.1++eW S q.2.2 e.ps Vs (jg S e.rs (outs e.ps) r).2) _ M':=
       ⟨fun u hu=>⟨u,hu,rfl⟩,g.one,g.rb,g.lv,g.au,g.cO,g.ref,g.ext⟩
      obtain ⟨μ',hI,dP,lV⟩:=Inv.call hP.tob6 h (n7:=dg S e.ps Vs) hdf k1 fr hw (fun b o hs=>hs' b o (Kd b o hs)) j7 yL (fun i hi=>by
       obtain ⟨u,hu,rfl⟩:=hi
       rcases g.fu u hu with h1 | h1 | h1
       · exact .inr (hnew u (List.mem_append.2 (.inr hu)) h1.1 (by omega))
       · exact .inl h1
       · exact .inr (hnew u (List.mem_append.2 (.inr hu)) (by omega) (by omega)))
       (fun b hb=>by
        obtain ⟨B0,d1,d2⟩:=(od b hb).1
        obtain ⟨vs,hh,hvs⟩:=(Dj b hb).2
        refine ⟨B0,vs,d2,List.mem_append.2 (.inr hvs),Ij S d1 hh ?_⟩
        unfold both
        rw [if_neg]
        · exact (Dj b hb).1
        · intro hm
          obtain ⟨u,hu,he⟩:=List.mem_map.1 hm
          have :=g1.fu u hu
          rw [he] at this
          exact yM b hb b this.1 (by omega) rfl) hlk
      have hvl:vs.length=e.rs.length:=by simp only [List.length_append] at hlen; omega
      refine ⟨_,μ',rfl,hI,GS sw hvl ((mj _ _ (hag _ _ lV).1).mono dP) (fun hn=>(Ax hn _ _ (hag _ _ lV).1).mono dP),fun j hj=> ?_⟩
      obtain ⟨v,hv,hj⟩:=DK hj
      obtain ⟨u,hu,he⟩:=r1 v hv j (hj.elim KD id)
      have :=(lV u (List.mem_append.2 (.inl hu))).1
      rw [he] at this
      rw [this]
      simp
   · cases hsel
 · exact hl.elim
theorem HP (hP:aL P S af) {T:gA S} (hT: ∀ e ∈ T.es,mN P S w0 M0 e) (hF: ∀ e ∈ T.fs,gx P S e) (h:Inv P S w0 M0 s0 dq env a w μ) (hd: ∀ d,o.dst=some d→d<a.tmps.size) {B:Nat} {ids:List Nat}
 {Vs:List (Sy.V S.C)} {args:Array Value} {f:Nat} (hrun:iB P f→(execOp a.eval o).run P w= .ok (.enter f args) w) (hargs:dL P S w (ay S w0 M0 s0 env.bx μ w) μ env.bx Vs args.toList)
 (hkn: ∀ V ∈ Vs,iC S env.bx (restrict S env.bx ids) V) (hnew: ∀ u ∈ us,B≤u.1→u.1<B+16→env.bx u.1=none)
 (hl:(mR S T B (restrict S env.bx ids) f Vs).leaf (V,us)) (hK:Goal P S w0 M0 s0 dq env a o.dst V us K):o.wp P a w K Q:=by
 have hok:iB P f:=by
  unfold mR at hl
  split at hl
  · rename_i e tk hfind
    obtain ⟨e0,su,hsel⟩:=List.exists_of_findSome?_eq_some hfind
    split at hsel
    · rename_i j_
      rw [← j_]; exact (hT e0 su).1
    · cases hsel
  · exact hl.elim
 unfold Oper.wp
 rw [hrun hok]
 refine Calls.mono (BS (dq:=dq) hP (C:=fun R=>Calls P f args w R) (fun R R' hR hc=>Calls.mono hc hR) (fun e he j_ s M x r hM hx hs hr=> ?_) hF h hargs hkn hnew hl) ?_
 · have hc:=(hT e he).2 w s M x args.toList r h.gN hM hx hs hr
   rw [j_,show args.toList.toArray=args from by simp] at hc
   exact hc
 · rintro en w' ⟨v,μ',rfl,hI,cn,cE⟩
   refine hK _ w' μ' (hI.put hd cn cE) ?_
   cases o.dst <;> simp [Act.put]
end
end Go.Sy
namespace Go.Sy
section
variable {P:Program} {S:aK} {af:Nat→Nat}
variable {w0:World} {M0 s0:St} {dq:List Deferred} {env:Env S.C} {a:Act} {w:World} {μ:Nat→Loc} {K:Act→World→Prop} {Q:Exit→Act→World→Prop} {o:Oper} {V:V S.C} {us:aA S.C}
theorem Inv.world (h:Inv P S w0 M0 s0 dq env a w μ) {w':World} (hw:aO w w' (fun _ _=>False)):
 Inv P S w0 M0 s0 dq env a w' μ∧aV w' (grown (ay S w0 M0 s0 env.bx μ w) w w') w' (ay S w0 M0 s0 env.bx μ w'):=by
 have iX:=h.later (T:=fun _ _=>False) (U:=fun _=>False) (aa:=env.bx) (μ':=μ) hw (fun _ _ h=>h.elim) (fun _ _=>⟨rfl,rfl⟩) (fun _ h=>h.elim)
 refine ⟨h.step (T:=fun _ _=>False) (U:=fun _=>False) hw (fun _ _ h=>h.elim) (fun _ _=>⟨rfl,rfl⟩) (fun _ h=>h.elim) (fun i B0 hi=>⟨B0,hi,cl.refl S _ _⟩) (fun _ _ h=>h.elim) (fun _ _ h=>h.elim) (fun _ _ h=>h.elim) (fun _ h=>h.elim), ?_⟩
 rintro b o (hs | ⟨h1,h2⟩)
 · exact ⟨(iX b o hs).1,rfl⟩
 · exact ⟨⟨h2, .inr (.inr (Nat.le_trans h.gN.size h1)),fun i li hf=>absurd (jy P S (h.bw i) (h.ext i li) li hf).1 (by omega)⟩,rfl⟩
theorem Cc {bx aa:Bx S.C} : ∀ {ts:List Ty} {Vs:List (Sy.V S.C)},(∀ V ∈ Vs, ∀ i ∈ aq S V,aa i=bx i)→jn S aa ts Vs=jn S bx ts Vs
 | [],[],_=>rfl
 | [],_::_,_=>rfl
 | _::_,[],_=>rfl
 | t::ts,V::Vs,h=>by
  obtain ⟨h1,h2⟩:=rO (t:=t) (h V (by simp))
  simp only [jn,h1,h2]
  rw [Cc fun V hV=>h V (by simp [hV])]
theorem xI {bx:Bx S.C} : ∀ {ts:List Ty} {Vs:List (Sy.V S.C)} {x:ag S.C ts} {us:aA S.C},jn S bx ts Vs=some (x,us)→cG bx us
 | [],[],_,_,h=>by cases h; intro u hu; simp at hu
 | [],_::_,_,_,h=>by cases h
 | _::_,[],_,_,h=>by cases h
 | t::ts,V::Vs,x,us,h=>by
  simp only [jn] at h
  obtain ⟨y,hy,h⟩:=Option.bind_eq_some_iff.1 h
  obtain ⟨⟨z,u2⟩,hz,h⟩:=Option.bind_eq_some_iff.1 h
  cases h
  exact (cG.cS bx V).append (xI hz)
theorem xJ (hS:b6 S) (h:Inv P S w0 M0 s0 dq env a w μ) {US:aA S.C} (hU:cG env.bx US): ∀ {ts:List Ty} {Vs:List (Sy.V S.C)} {args:List Value} {x:ag S.C ts} {us:aA S.C},
 dL P S w (ay S w0 M0 s0 env.bx μ w) μ env.bx Vs args→jn S env.bx ts Vs=some (x,us)→(∀ u ∈ us,u ∈ US)→fG S w (bC S w0 M0 s0 env.bx (ah env.bx US) μ w) ts x args
 | [],[],_,_,_,hv,h,_=>hv
 | [],_::_,_,_,_,_,h,_=>by cases h
 | _::_,[],_,_,_,_,h,_=>by cases h
 | t::ts,V::Vs,args,x,us,⟨v,r,hargs,h1,h2⟩,hx,hs=>by
  simp only [jn] at hx
  obtain ⟨y,hy,hx⟩:=Option.bind_eq_some_iff.1 hx
  obtain ⟨⟨z,u2⟩,hz,hx⟩:=Option.bind_eq_some_iff.1 hx
  cases hx
  obtain ⟨_,d2⟩:=uL hS h (Tk.refl S env.bx) h1 hy
  refine ⟨v,r,hargs, ?_, ?_⟩
  · rw [show ag.head (ag.cons y z)=y from by cases ts <;> rfl]
    exact d2.mono S (oW S (hU.tk (us:=cS S env.bx V) fun u hu=>hs u (by simp [hu])))
  · rw [show ag.tail (ag.cons y z)=z from by cases ts <;> rfl]
    exact xJ hS h hU h2 hz fun u hu=>hs u (by simp [hu])
theorem Gl {s:St} {bx:Bx S.C} : ∀ {ts:List Ty} {x:ag S.C ts} {us:List Value},fG S w s ts x us→aB P S w s μ bx (oZ S ts x) us∧ ∀ v ∈ oZ S ts x,aq S v= []∧ak S v= []
 | [],_,_,h=>⟨h,by simp [oZ]⟩
 | t::ts,x,us,⟨v,r,h1,h2,h3⟩=>by
  obtain ⟨h4,h5⟩:=Gl (bx:=bx) h3
  refine ⟨⟨v,r,h1,h2,h4⟩,fun u hu=> ?_⟩
  rcases List.mem_cons.1 hu with rfl | hu
  · exact ⟨rfl,rfl⟩
  · exact h5 u hu
theorem Gv (hP:aL P S af) (h:Inv P S w0 M0 s0 dq env a w μ) (hd: ∀ d,o.dst=some d→d<a.tmps.size) {f:Nat} {args:Array Value} {us:aA S.C} (hfz:cG env.bx us) {r:List Ty} {y:ag S.C r}
 (hrun:(execOp a.eval o).run P w= .ok (.enter f args) w)
 (hc:Calls P f args w fun e w'=> ∃ us',e= .returned (jd us')∧aO w w' (fun _ _=>False)∧fG S w' (grown (ay S w0 M0 s0 (ah env.bx us) μ w) w w') r y us')
 (hK:Goal P S w0 M0 s0 dq env a o.dst (mB S (oZ S r y)) us K):o.wp P a w K Q:=by
 have h1:=h.tk hP.tob6 hfz.mw
 unfold Oper.wp
 rw [hrun]
 refine Calls.mono hc ?_
 rintro en w' ⟨vs,rfl,hw,i_⟩
 obtain ⟨h2,hl⟩:=h1.world hw
 obtain ⟨h3,h4⟩:=Gl (P:=P) (μ:=μ) (bx:=ah env.bx us) (i_.mono S hl)
 refine hK _ w' μ (h2.put hd (wM h3) fun j hj=> ?_) ?_
 · obtain ⟨v,hv,hj⟩:=DK hj
   obtain ⟨e1,e2⟩:=h4 v hv
   rw [e1,e2] at hj
   simp at hj
 · cases o.dst <;> simp [Act.put]
theorem HQ (hP:aL P S af) {T:gA S} (hT: ∀ e ∈ T.es,mN P S w0 M0 e) (hF: ∀ e ∈ T.fs,gx P S e) (h:Inv P S w0 M0 s0 dq env a w μ) (hd: ∀ d,o.dst=some d→d<a.tmps.size) {B:Nat} {ids:List Nat}
 {c:Call} (ho:o.op= .call c) {f:Operand} (hc:c.callee= .value f) {Vs:List (Sy.V S.C)} {Vf:Sy.V S.C} (hargs:c.args.toList.mapM (aE S env.tm)=some Vs) (hf:aE S env.tm f=some Vf)
 (hkn: ∀ V ∈ Vs,iC S env.bx (restrict S env.bx ids) V) (JO:iC S env.bx (restrict S env.bx ids) Vf) (hnew: ∀ u ∈ us,B≤u.1→u.1<B+16→env.bx u.1=none)
 (hl:(rK S T B (restrict S env.bx ids) Vs Vf).leaf (V,us)) (hK:Goal P S w0 M0 s0 dq env a o.dst V us K):o.wp P a w K Q:=by
 obtain ⟨hvs,_⟩:=ux h hargs
 obtain ⟨vq,_⟩:=aW h hf
 have pX: ∀ {ts:List Ty} {x:ag S.C ts} {us:aA S.C},jn S (restrict S env.bx ids) ts Vs=some (x,us)→jn S env.bx ts Vs=some (x,us):=fun hx=>by
  rw [Cc (bx:=env.bx) fun V hV i hi=>(hkn V hV i hi).1] at hx; exact hx
 cases Vf with
 | fv A R g=>
  simp only [rK] at hl
  split at hl
  · rename_i x us' hx
    obtain ⟨y,hy,hl⟩:=hl
    obtain ⟨rfl,rfl⟩:=bg hl
    have hx:=pX hx
    have hfz:=xI hx
    have i_:=(xJ hP.tob6 h hfz hvs hx fun u hu=>hu).mono S (wD hfz.mw)
    have vq:kI P S w (ay S w0 M0 s0 env.bx μ w) A R g (a.eval f):=vq
    obtain ⟨g',first,cap,he,hok,n5⟩:=vq
    have :=n5 w _ (F1 hfz.mw) (h.nW.at h.gN fun _ _ h=>h.elim) x _ y i_ hy
    refine Gv hP h hd hfz (Av ho hc he hok) ?_ hK
    rw [show (c.args.toList.map a.eval).toArray=c.args.map a.eval from by rw [← Array.toList_map,Array.toArray_toList]] at this
    exact this
  · exact hl.elim
 | fh g vs=>
  obtain ⟨cs,he,hcs⟩:=vq
  cases vs with
  | nil=>
   simp only [rK] at hl
   have pW:cs= #[]:=by have h0:cs.toList= []:=hcs; exact Array.toList_eq_nil_iff.1 h0
   subst pW
   refine HP hP hT hF h hd (args:=c.args.map a.eval) (fun hok=> ?_) (by simpa using hvs) hkn hnew hl hK
   have :=Av (w:=w) ho hc he hok
   simpa using this
  | cons v vs=>
   simp only [rK] at hl
   split at hl
   · rename_i e hfind
     split at hl
     · rename_i y x us' hy hx
       obtain ⟨z,hz,hl⟩:=hl
       obtain ⟨rfl,rfl⟩:=bg hl
       have hx:=pX hx
       have hfz:=xI hx
       have i_:=(xJ hP.tob6 h hfz hvs hx fun u hu=>hu).mono S (wD hfz.mw)
       have hmem:=List.mem_of_find?_eq_some hfind
       have j_:e.f=g:=by simpa using List.find?_some hfind
       obtain ⟨hok,n5⟩:=hF e hmem
       rw [j_] at hok n5
       have hy:caps S env.bx e.c (v::vs)=some y:=by
        rw [← xk (bx:=env.bx) (aa:=restrict S env.bx ids) fun u hu i hi=>have q:=JO i (by simp only [aq,List.mem_flatMap]; exact ⟨u,hu,hi⟩); ⟨q.1,q.2.1⟩]
        exact hy
       have hcap:=xl hP.tob6 h (Tk.refl S env.bx) e.c hcs hy
       have Jq:gv S w (ay S w0 M0 s0 (ah env.bx us) μ w) e.c y cs.toList:=by
        refine gv.mono ?_ _ _ _ hcap
        exact (oW S hfz.mw).trans (wD hfz.mw)
       refine Gv hP h hd hfz (Av ho hc he hok) ?_ hK
       have :=n5 w _ x y z (c.args.toList.map a.eval) cs.toList (h.nW.at h.gN fun _ _ h=>h.elim) i_ Jq hz
       rw [show (c.args.toList.map a.eval++cs.toList).toArray= #[]++c.args.map a.eval++cs from by simp] at this
       exact this
     · exact hl.elim
   · exact hl.elim
 | _=>exact hl.elim
theorem yg {bx ct:Bx S.C} : ∀ (vs:List (Sy.V S.C)) (u:Nat×b9 S.C),u ∈ j5 S ct vs→(∀ i B,ct i=some B→bx i=some B)→ ∃ ws,u.2= .bI ws∧bx u.1=some (.cells ws)
 | [],u,hu,_=>by simp [j5] at hu
 | v::vs,u,hu,h=>by
  cases v with
  | ptr b off=>
   simp only [j5,List.mem_append] at hu
   rcases hu with hu | hu
   · split at hu
     · rename_i ws hb
       simp at hu
       subst hu
       exact ⟨ws,rfl,h _ _ hb⟩
     · simp at hu
   · exact yg vs u hu h
  | _=>exact yg vs u hu h
theorem CD {bx:Bx S.C} {i:Nat} : ∀ {us:aA S.C} (aa:Bx S.C),(∀ u ∈ us, ∃ ws,u.2= .bI ws∧bx u.1=some (.cells ws))→ah aa us i=aa i∨ ∃ ws,bx i=some (.cells ws)∧ah aa us i=some (.bI ws)
 | [],_,_=> .inl rfl
 | u::us,aa,h=>by
  rcases CD (us:=us) (ai aa u.1 (some u.2)) (fun v hv=>h v (by simp [hv])) with h1 | h1
  · by_cases e:i=u.1
    · right
      obtain ⟨ws,h2,h3⟩:=h u (by simp)
      refine ⟨ws,e▸h3, ?_⟩
      show ah (ai aa u.1 (some u.2)) us i=_
      rw [h1,e,aI,h2]
    · left
      show ah (ai aa u.1 (some u.2)) us i=_
      rw [h1,aY _ _ e]
  · exact .inr h1
theorem Inv.uT (h:Inv P S w0 M0 s0 dq env a w μ) {aa:Bx S.C} (hk: ∀ i,aa i=env.bx i∨ ∃ ws,env.bx i=some (.cells ws)∧aa i=some (.bI ws)):Inv P S w0 M0 s0 dq { env with bx:=aa } a w μ:=by
 have hlv: ∀ i,live S aa i→aa i=env.bx i:=fun i hi=>by
  rcases hk i with e | ⟨ws,_,e⟩
  · exact e
  · unfold live at hi; rw [e] at hi; exact hi.elim
 have hf: ∀ i, ¬ aa i=env.bx i→live S aa i→False:=fun i hi hl=>hi (hlv i hl)
 have hl:aV w (ay S w0 M0 s0 env.bx μ w) w (ay S w0 M0 s0 aa μ w):=h.later (T:=fun _ _=>False) (U:=fun i=> ¬ aa i=env.bx i) (aO.refl w _) (fun _ _ h=>h.elim) (fun i hi=>⟨Classical.not_not.1 hi,rfl⟩) (fun i hi hl=>(hf i hi hl).elim)
 have hc: ∀ i B0,env.bx i=some B0→ ∃ B,aa i=some B∧cl S (μ i) (μ i) B0 B:=fun i B0 bA=>by
  rcases hk i with e | ⟨ws,e1,e2⟩
  · exact ⟨B0,e.trans bA,cl.refl S _ _⟩
  · rw [bA] at e1; cases e1
    exact ⟨_,e2,rfl⟩
 refine h.step (T:=fun _ _=>False) (U:=fun i=> ¬ aa i=env.bx i) (aO.refl w _) (fun _ _ h=>h.elim) (fun i hi=>⟨Classical.not_not.1 hi,rfl⟩)
  (fun i hi hl=>(hf i hi hl).elim) hc (fun i _ hi _ _ hl=>(hf i hi hl).elim) (fun i B hi hB=> ?_) (fun i vs hi hvs v hv j hj=> ?_) (fun i hi hl=>(hf i hi hl).elim)
 · rcases hk i with e | ⟨ws,e1,e2⟩
   · exact absurd e hi
   · rw [e2] at hB
     cases hB
     obtain ⟨g1,g2,g3,cs,g4,g5⟩:=h.bw i _ e1
     have bp:live S env.bx i:=by unfold live; rw [e1]; trivial
     have hlen:=aB.length P S g5
     refine ⟨g1,cs,fun j u hj=>⟨g4 j u hj, ?_⟩,aB.step P S hl hc (h.jF i ws (.inl e1)) g5⟩
     have hj':=(List.getElem?_eq_some_iff.1 hj).1
     have fJ:(μ i).au (μ i).b ((μ i).o+j):= .inl ⟨rfl,by omega,by omega⟩
     refine ⟨(jy P S (h.bw i) (h.ext i bp) bp fJ).1,(h.own i bp _ _ fJ).elim (fun h=> .inr (.inr h)) (fun h=> .inr (.inl h)),fun q hq pZ=> ?_⟩
     refine h.cO q i (fun e=> ?_) ((dD S (hlv q hq)).1 hq) bp _ _ pZ fJ
     subst e
     unfold live at hq; rw [e2] at hq; exact hq
 · rcases hk i with e | ⟨ws,e1,e2⟩
   · exact absurd e hi
   · rw [e2] at hvs
     rcases hvs with hvs | hvs
     · cases hvs
     · cases hvs
       have :=h.jF i _ (.inl e1) v hv j hj
       obtain ⟨B0,bA⟩:=Option.ne_none_iff_exists'.1 this
       obtain ⟨B',gp,_⟩:=hc j B0 bA
       rw [gp]; simp
theorem Bs {s:St} {bx:Bx S.C} : ∀ {vs:List (Sy.V S.C)} {cs:List Value},vs.all (bH S)=true→dL P S w s μ bx vs cs→aB P S w s μ bx vs cs
 | [],_,_,h=>h
 | v::vs,_,hs,⟨c,r,h1,h2,h3⟩=>by
  simp only [List.all_cons,Bool.and_eq_true] at hs
  refine ⟨c,r,h1, ?_,Bs hs.2 h3⟩
  cases v <;> first | exact h2 | simp [bH] at hs
theorem Lm (h:Inv P S w0 M0 s0 dq env a w μ) (hd: ∀ d,o.dst=some d→d<a.tmps.size) {f:Nat} {cs:Array Operand} {ids:List Nat} (ho:o.op= .makeFunc (.func f) #[] cs)
 (hl:(match cs.toList.mapM (aE S env.tm) with
  | some vs=>cond (vs.all (bH S)) (ax S (.fh f vs) (j5 S (restrict S env.bx ids) vs)) .fail
  | none=> .fail).leaf (V,us)) (hK:Goal P S w0 M0 s0 dq env a o.dst V us K):o.wp P a w K Q:=by
 split at hl
 · rename_i vs hvs
   cases hs:vs.all (bH S) with
   | false=>rw [hs] at hl; exact hl.elim
   | true=>
    rw [hs,cond_true] at hl
    obtain ⟨rfl,rfl⟩:=bg hl
    obtain ⟨h1,h2⟩:=ux h hvs
    have h3:=Bs hs h1
    have hall: ∀ i,ah env.bx (j5 S (restrict S env.bx ids) vs) i=env.bx i∨ ∃ ws,env.bx i=some (.cells ws)∧ah env.bx (j5 S (restrict S env.bx ids) vs) i=some (.bI ws):=fun i=>
     CD env.bx fun u hu=>yg vs u hu fun i B hB=>dG hB
    have hI:=h.uT hall
    have hc: ∀ i B0,env.bx i=some B0→ ∃ B,ah env.bx (j5 S (restrict S env.bx ids) vs) i=some B∧cl S (μ i) (μ i) B0 B:=fun i B0 bA=>by
     rcases hall i with e | ⟨ws,e1,e2⟩
     · exact ⟨B0,e.trans bA,cl.refl S _ _⟩
     · rw [bA] at e1; cases e1
       exact ⟨_,e2,rfl⟩
    have iX:aV w (ay S w0 M0 s0 env.bx μ w) w (ay S w0 M0 s0 (ah env.bx (j5 S (restrict S env.bx ids) vs)) μ w):=fun b o ⟨q1,q2,q3⟩=>⟨⟨q1,q2,fun i hi=>q3 i (by
     rcases hall i with e | ⟨ws,_,e⟩
     · exact (dD S e).1 hi
     · unfold live at hi; rw [e] at hi; exact hi.elim)⟩,rfl⟩
    have cE: ∀ v ∈ vs, ∀ j ∈ ak S v,env.bx j≠none:=fun v hv j hj=>by
     obtain ⟨x,hx,he⟩:=h2 v hv
     refine (aW h he).2 j ?_
     cases v <;> first | exact hj | simp [ak] at hj
    unfold Oper.wp
    have hrun:(execOp a.eval o).run P w= .ok (.value (.func (.func f) #[] (cs.map a.eval))) w:=by
     unfold execOp
     simp only [ho]
     simp [Instr.makeFunc]
    rw [hrun]
    refine hK _ w μ (hI.put hd (V:= .fh f vs) ⟨_,rfl, ?_⟩ fun j hj=> ?_) ?_
    · have :=aB.step P S iX hc cE h3
      simpa using this
    · simp only [aq,List.mem_flatMap] at hj
      obtain ⟨v,hv,hj⟩:=hj
      obtain ⟨B0,bA⟩:=Option.ne_none_iff_exists'.1 (cE v hv j hj)
      obtain ⟨B',gp,_⟩:=hc j B0 bA
      dsimp only
      rw [gp]; simp
    · cases o.dst <;> simp [Act.put]
 · exact hl.elim
theorem Lp (h:Inv P S w0 M0 s0 dq env a w μ) (hd: ∀ d,o.dst=some d→d<a.tmps.size) {c:Call} (ho:o.op= .call c) {b:Builtin} (hc:c.callee= .builtin b) {args:List (Sy.V S.C)}
 (hargs:c.args.toList.mapM (aE S env.tm)=some args)
 (hl:(match args with
  | [v,w]=>match v.int?,w.int? with
   | some (k,x),some (k',y)=>if k=k' then match b with
    | .min=>ax S (.d (.int k) (Min.min (α:=Int) x y)) []
    | .max=>ax S (.d (.int k) (Max.max (α:=Int) x y)) []
    | _=>Tr.fail else Tr.fail
   | _,_=>Tr.fail
  | _=>Tr.fail).leaf (V,us)) (hK:Goal P S w0 M0 s0 dq env a o.dst V us K):o.wp P a w K Q:=by
 split at hl
 · rename_i v u
   obtain ⟨xs,xx,hxs,ke,hex⟩:=w_ hargs
   have har:c.args= #[xs,xx]:=by
    have :c.args=c.args.toList.toArray:=by simp
    rw [this,hxs]
   split at hl
   · rename_i k x k' y hv hu
     split at hl
     · rename_i hkk
       subst hkk
       have e1:=iK (aW h ke).1 hv
       have e2:=iK (aW h hex).1 hu
       split at hl
       · obtain ⟨rfl,rfl⟩:=bg hl
         refine wp_pure (V:= .d (.int k) (Min.min (α:=Int) x y)) h (v:= .int k (Min.min x y)) ?_ hd (iu ..) (by simp [aq,ak]) hK
         unfold execOp
         simp only [ho]
         simp [resolve,hc,har,e1,e2,invoke,builtin,Builtin.min_,Builtin.min2]
         split <;> first | omega | (simp; omega)
       · obtain ⟨rfl,rfl⟩:=bg hl
         refine wp_pure (V:= .d (.int k) (Max.max (α:=Int) x y)) h (v:= .int k (Max.max x y)) ?_ hd (iu ..) (by simp [aq,ak]) hK
         unfold execOp
         simp only [ho]
         simp [resolve,hc,har,e1,e2,invoke,builtin,Builtin.max_,Builtin.max2]
         split <;> first | omega | (simp; omega)
       · exact hl.elim
     · exact hl.elim
   · exact hl.elim
 · exact hl.elim
end
end Go.Sy
namespace Go.Sy
section
variable {P:Program} {S:aK} {af:Nat→Nat}
variable {w0:World} {M0 s0:St} {dq:List Deferred} {env:Env S.C} {a:Act} {w:World} {μ:Nat→Loc} {K:Act→World→Prop} {Q:Exit→Act→World→Prop} {o:Oper} {V:V S.C} {us:aA S.C}
theorem BG {s:St} {bx:Bx S.C} {e:Ty} (he:aZ e=false) {V:Sy.V S.C} {v:Value} {x:e.den S.C} (hv:bl P S w s μ bx V v) (hx:cH S (fun _=>none) e V=some x): ∃ n,av S w s n e x [v]:=by
 have hd: ∀ (u:Ty) (y:u.den S.C),bV S w s u y v→dm S u e y=some x→ ∃ n,av S w s n e x [v]:=by
  intro u y hr hc
  obtain ⟨rfl,rfl⟩:=dn hc
  obtain ⟨h1,n,hn⟩:=hr
  rw [av.jZ h1 he] at hn
  exact ⟨n,hn⟩
 cases V with
 | d u y=>exact hd u y hv hx
 | pr p i=>
  obtain ⟨rfl,rfl⟩:=dn hx
  cases hv
  exact ⟨1,rfl⟩
 | aP b e l=>exact hd (.sl e) l hv.1 hx
 | b_=>
  cases e with
  | sl e=>
   cases hx
   cases hv
   exact ⟨1,none,0,rfl,Nat.le_refl _, .inl rfl⟩
  | _=>cases hx
 | _=>cases hx
theorem Gg {s:St} {bx:Bx S.C} : ∀ (ts:List Ty) (hts:ts.all (fun t=> !aZ t)=true) {vs:List (Sy.V S.C)} {cs:List Value} {x:ag S.C ts},aB P S w s μ bx vs cs→gJ S (fun _=>none) ts vs=some x→ ∃ n,a_ S (fun t x cs=>av S w s n t x cs) ts x (cs.take ts.length)
 | [],_,_,cs,_,_,_=>⟨0,by simp [a_]⟩
 | t::ts,hts,[],_,_,_,hx=>by simp [gJ] at hx
 | t::ts,hts,V::vs,cs,x,⟨c,r,hcs,hv,hr⟩,hx=>by
  simp only [List.all_cons,Bool.and_eq_true,Bool.not_eq_true'] at hts
  simp only [gJ] at hx
  obtain ⟨y,hy,hx⟩:=Option.bind_eq_some_iff.1 hx
  obtain ⟨z,hz,hx⟩:=Option.bind_eq_some_iff.1 hx
  cases hx
  obtain ⟨n,hn⟩:=BG hts.1 hv hy
  obtain ⟨m,hm⟩:=Gg ts hts.2 hr hz
  refine ⟨max n m,c,r.take ts.length,by simp [hcs], ?_, ?_⟩
  · rw [show ag.head (ag.cons y z)=y from by cases ts <;> rfl]
    exact hn.up S (by omega)
  · rw [show ag.tail (ag.cons y z)=z from by cases ts <;> rfl]
    exact a_.mono S (fun t x cs hr=>hr.up S (by omega)) _ _ _ hm
theorem Cd (hP:aL P S af) {s:St} {bx:Bx S.C} {u:Nat} {V:Sy.V S.C} {v:Value} {x:S.C u} (hv:RV P S w s μ bx V v) (hx:datum S (fun _=>none) (.st u) V=some x): ∃ cs n,v= .agg cs∧a_ S (fun t x cs=>av S w s n t x cs) (S.F u) (S.ex u x) cs.toList:=by
 cases V with
 | agg u' vs=>
  simp only [datum] at hx
  split at hx
  · rename_i hu
    obtain ⟨cs,g1,g2,g3,g4⟩:=hv
    simp only [gT] at hx
    obtain ⟨y,hy,hx⟩:=Option.bind_eq_some_iff.1 hx
    cases hx
    obtain ⟨n,hn⟩:=Gg (S.F u) (hP.flat u) g4 hy
    have hlen:=aB.length P S g4
    rw [List.take_of_length_le (by rw [hlen,g2,hu]; exact Nat.le_refl _)] at hn
    refine ⟨cs,n,g1, ?_⟩
    rw [hP.kP]
    exact hn
  · cases hx
 | d t y=>
  simp only [datum] at hx
  obtain ⟨rfl,h2⟩:=dn hx
  cases h2
  obtain ⟨ha,n,hr⟩:=hv
  have : ∃ cs,v= .agg cs:=by
   cases v <;> first | exact ⟨_,rfl⟩ | (simp [Go.Sy.isAgg,aZ] at ha)
  obtain ⟨cs,rfl⟩:=this
  cases n with
  | zero=>exact hr.elim
  | succ n=>exact ⟨cs,n,rfl,hr⟩
 | _=>cases hx
theorem uP {t:Ty} {ts:List Ty} (x y:ag S.C (t::ts)):iH S (t::ts) x y↔pQ S t (ag.head x) (ag.head y)∧iH S ts (ag.tail x) (ag.tail y):=by
 cases ts with
 | nil=>exact ⟨fun h=>⟨h,trivial⟩,fun h=>h.1⟩
 | cons u ts=>exact Iff.rfl
theorem M7 (hP:aL P S af) {s:St} {n m:Nat} {t:Nat} {T:Ty} (h4:match T with | .int _=>True | .bool=>True | .str=>True | _=>False) (h3:S.ty t=some T) {x y:T.den S.C} {c c':Value} (e2:av S w s n T x [c]) (f2:av S w s m T y [c']) (d:Nat):
 ∃ b0,(Op.equalIn (d+1) t c c').run P w= .ok b0 w∧(b0=true↔pQ S T x y):=by
 have bP:=(hP.ty t T h3).2
 cases n with
 | zero=>exact e2.elim
 | succ n=>
 cases m with
 | zero=>exact f2.elim
 | succ m=>
 cases T with
 | int k=>
  have e2: [c]= [Value.int k _]:=e2
  have f2: [c']= [Value.int k _]:=f2
  cases e2; cases f2
  exact ⟨_,run_equalIn_int w d t k k _ _ bP,by show _↔ @Eq Int _ _; exact beq_iff_eq⟩
 | bool=>
  have e2: [c]= [Value.bool _]:=e2
  have f2: [c']= [Value.bool _]:=f2
  cases e2; cases f2
  exact ⟨_,run_equalIn_bool' w d t _ _ bP,by show _↔ @Eq Bool _ _; exact beq_iff_eq⟩
 | str=>
  have e2: [c]= [Value.string ⟨List.toArray _⟩]:=e2
  have f2: [c']= [Value.string ⟨List.toArray _⟩]:=f2
  cases e2; cases f2
  exact ⟨_,run_equalIn_string w d t _ _ bP,by show _↔ @Eq (List UInt8) _ _; rw [ByteArray.toList_eq,ByteArray.toList_eq]; exact beq_iff_eq⟩
 | st u=>exact h4.elim
 | sl e=>exact h4.elim
 | pt=>exact h4.elim
theorem Fi (hP:aL P S af) {s:St} {d:Nat} {n m:Nat} : ∀ (fs:List Field) (ts:List Ty) (i:Nat) (xs ys:Array Value) (x y:ag S.C ts),uo S fs ts i→
 a_ S (fun t x cs=>av S w s n t x cs) ts x (xs.toList.drop i)→a_ S (fun t x cs=>av S w s m t x cs) ts y (ys.toList.drop i)→ ∃ b,(Op.eqFields (d+1) xs ys fs).run P w= .ok b w∧(b=true↔iH S ts x y)
 | [],[],_,_,_,_,_,_,_,_=>⟨true,by simp [Op.eqFields],by simp [iH]⟩
 | [],_::_,_,_,_,_,_,h,_,_=>h.elim
 | _::_,[],_,_,_,_,_,h,_,_=>h.elim
 | fd::fs,T::ts,i,xs,ys,x,y,⟨h1,h2,h3,h4,h5⟩,⟨c,r,e1,e2,e3⟩,⟨c',r',f1,f2,f3⟩=>by
  have nx:xs.toList.drop (i+1)=r:=by rw [← List.drop_drop,e1]; rfl
  have ny:ys.toList.drop (i+1)=r':=by rw [← List.drop_drop,f1]; rfl
  obtain ⟨b,g1,g2⟩:=Fi hP (d:=d) fs ts (i+1) xs ys (ag.tail x) (ag.tail y) h5 (by rw [nx]; exact e3) (by rw [ny]; exact f3)
  have hsz:Ty.sz S T=1∧aZ T=false:=by cases T <;> first | exact ⟨rfl,rfl⟩ | exact h4.elim
  have JX:i<xs.size:=by
   have :=congrArg List.length e1
   simp at this; omega
  have JY:i<ys.size:=by
   have :=congrArg List.length f1
   simp at this; omega
  have hm: ∀ ds,eo T ds=ds.headD Go.undef:=by intro ds; cases T <;> first | rfl | exact h4.elim
  have px:=mh hP h3 (cs:=xs) (off:=i) (by rw [hsz.1]; omega) w
  have py:=mh hP h3 (cs:=ys) (off:=i) (by rw [hsz.1]; omega) w
  rw [hm,e1,hsz.1] at px
  rw [hm,f1,hsz.1] at py
  have px:(part fd.type xs i).run P w= .ok c w:=px
  have py:(part fd.type ys i).run P w= .ok c' w:=py
  have heq: ∃ b0,(Op.equalIn (d+1) fd.type c c').run P w= .ok b0 w∧(b0=true↔pQ S T (ag.head x) (ag.head y)):=by
   have bP:=(hP.ty fd.type T h3).2
   cases n with
   | zero=>exact e2.elim
   | succ n=>
   cases m with
   | zero=>exact f2.elim
   | succ m=>
   cases T with
   | int k=>
    have e2: [c]= [Value.int k _]:=e2
    have f2: [c']= [Value.int k _]:=f2
    cases e2; cases f2
    exact ⟨_,run_equalIn_int w d fd.type k k _ _ bP,by show _↔ @Eq Int _ _; exact beq_iff_eq⟩
   | bool=>
    have e2: [c]= [Value.bool _]:=e2
    have f2: [c']= [Value.bool _]:=f2
    cases e2; cases f2
    exact ⟨_,run_equalIn_bool' w d fd.type _ _ bP,by show _↔ @Eq Bool _ _; exact beq_iff_eq⟩
   | str=>
    have e2: [c]= [Value.string ⟨List.toArray _⟩]:=e2
    have f2: [c']= [Value.string ⟨List.toArray _⟩]:=f2
    cases e2; cases f2
    exact ⟨_,run_equalIn_string w d fd.type _ _ bP,by show _↔ @Eq (List UInt8) _ _; rw [ByteArray.toList_eq,ByteArray.toList_eq]; exact beq_iff_eq⟩
   | st u=>exact h4.elim
   | sl e=>exact h4.elim
   | pt=>exact h4.elim
  obtain ⟨b0,k1,k2⟩:=heq
  rw [uP]
  simp only [Op.eqFields,h2,ne_eq,not_false_eq_true,if_true,h1,Sem.run_bind,px,py,k1,Result.andThen_ok]
  cases b0 with
  | true=>
   simp only [Bool.not_true,Bool.false_eq_true,if_false]
   exact ⟨b,g1,by rw [g2]; exact ⟨fun h=>⟨k2.1 rfl,h⟩,fun h=>h.2⟩⟩
  | false=>
   simp only [Bool.not_false,if_true,Sem.run_pure]
   exact ⟨false,rfl,fun h=>(by cases h),fun h=>(by have :=k2.2 h.1; cases this)⟩
def mA:(ts us:List Ty)→ag S.C (ts++us)→ag S.C ts
 | [],_,_=>()
 | _::ts,us,x=>ag.cons (ag.head x) (mA ts us (ag.tail x))
def tY:(ts us:List Ty)→ag S.C (ts++us)→ag S.C us
 | [],_,x=>x
 | _::ts,us,x=>tY ts us (ag.tail x)
theorem head_cons {t:Ty} {ts:List Ty} (x:t.den S.C) (r:ag S.C ts):ag.head (ag.cons x r)=x:=by cases ts <;> rfl
theorem tail_cons {t:Ty} {ts:List Ty} (x:t.den S.C) (r:ag S.C ts):ag.tail (ag.cons x r)=r:=by cases ts <;> rfl
theorem Cs: ∀ (ts us:List Ty) (x y:ag S.C (ts++us)),iH S (ts++us) x y↔iH S ts (mA ts us x) (mA ts us y)∧iH S us (tY ts us x) (tY ts us y)
 | [],us,x,y=>by
  show _↔True∧_
  rw [true_and]; rfl
 | t::ts,us,x,y=>by
  have h:=uP (S:=S) (t:=t) (ts:=ts++us) x y
  have h2:=uP (S:=S) (t:=t) (ts:=ts) (mA (t::ts) us x) (mA (t::ts) us y)
  show iH S (t::(ts++us)) x y↔_
  rw [h,h2,Cs ts us]
  simp only [mA,tY,head_cons,tail_cons]
  exact and_assoc.symm
theorem wN {R:(t:Ty)→t.den S.C→List Value→Prop} : ∀ (ts us:List Ty) (x:ag S.C (ts++us)) (cs:List Value),a_ S R (ts++us) x cs→a_ S R ts (mA ts us x) (cs.take ts.length)∧a_ S R us (tY ts us x) (cs.drop ts.length)∧ts.length≤cs.length
 | [],us,x,cs,h=>⟨rfl,h,Nat.zero_le _⟩
 | t::ts,us,x,cs,⟨c,r,hc,h1,h2⟩=>by
  subst hc
  obtain ⟨a,b,l⟩:=wN ts us _ _ h2
  refine ⟨⟨c,r.take ts.length,rfl, ?_, ?_⟩,b,by simpa using l⟩
  · simp only [mA,head_cons]; exact h1
  · simp only [mA,tail_cons]; exact a
theorem Aw (hP:aL P S af) {s:St} {d:Nat} {n m:Nat} : ∀ (fs:List Field) (ts:List Ty) (i:Nat) (xs ys:Array Value) (x y:ag S.C ts),uq P S fs ts i→
 a_ S (fun t x cs=>av S w s n t x cs) ts x (xs.toList.drop i)→a_ S (fun t x cs=>av S w s m t x cs) ts y (ys.toList.drop i)→ ∃ b,(Op.eqFields (d+3) xs ys fs).run P w= .ok b w∧(b=true↔iH S ts x y)
 | [],ts,_,_,_,_,_,h,_,_=>by
  have h:ts= []:=h
  subst h
  exact ⟨true,by simp [Op.eqFields],by simp [iH]⟩
 | fd::fs,ts,i,xs,ys,x,y,⟨h1,h2,h3⟩,hx,hy=>by
  have step: ∀ (b0 b:Bool) (c c':Value) (A B:Prop),(part fd.type xs i).run P w= .ok c w→(part fd.type ys i).run P w= .ok c' w→(Op.equalIn (d+3) fd.type c c').run P w= .ok b0 w→(b0=true↔A)→(Op.eqFields (d+3) xs ys fs).run P w= .ok b w→(b=true↔B)→
   ∃ b,(Op.eqFields (d+3) xs ys (fd::fs)).run P w= .ok b w∧(b=true↔A∧B):=by
   intro b0 b c c' A B px py k1 k2 g1 g2
   simp only [Op.eqFields,h2,ne_eq,not_false_eq_true,if_true,h1,Sem.run_bind,px,py,k1,Result.andThen_ok]
   cases b0 with
   | true=>
    simp only [Bool.not_true,Bool.false_eq_true,if_false]
    exact ⟨b,g1,by rw [g2]; exact ⟨fun h=>⟨k2.1 rfl,h⟩,fun h=>h.2⟩⟩
   | false=>
    simp only [Bool.not_false,if_true,Sem.run_pure]
    exact ⟨false,rfl,fun h=>(by cases h),fun h=>(by have :=k2.2 h.1; cases this)⟩
  rcases h3 with ⟨T,r,rfl,bP,hsc,h5⟩ | ⟨v,r,gs,rfl,bP,hu,hsi,hpos,hfl,h5⟩
  · obtain ⟨c,cr,e1,e2,e3⟩:=hx
    obtain ⟨c',Il,f1,f2,f3⟩:=hy
    have nx:xs.toList.drop (i+1)=cr:=by rw [← List.drop_drop,e1]; rfl
    have ny:ys.toList.drop (i+1)=Il:=by rw [← List.drop_drop,f1]; rfl
    obtain ⟨b,g1,g2⟩:=Aw hP (d:=d) fs r (i+1) xs ys (ag.tail x) (ag.tail y) h5 (by rw [nx]; exact e3) (by rw [ny]; exact f3)
    have O3:uo S [fd] [T] i:=⟨h1,h2,bP,hsc,trivial⟩
    have hsz:Ty.sz S T=1∧aZ T=false:=by cases T <;> first | exact ⟨rfl,rfl⟩ | exact hsc.elim
    have JX:i<xs.size:=by
     have :=congrArg List.length e1
     simp at this; omega
    have JY:i<ys.size:=by
     have :=congrArg List.length f1
     simp at this; omega
    have hm: ∀ ds,eo T ds=ds.headD Go.undef:=by intro ds; cases T <;> first | rfl | exact hsc.elim
    have px:=mh hP bP (cs:=xs) (off:=i) (by rw [hsz.1]; omega) w
    have py:=mh hP bP (cs:=ys) (off:=i) (by rw [hsz.1]; omega) w
    rw [hm,e1,hsz.1] at px
    rw [hm,f1,hsz.1] at py
    have px:(part fd.type xs i).run P w= .ok c w:=px
    have py:(part fd.type ys i).run P w= .ok c' w:=py
    obtain ⟨b0,k1,k2⟩:=M7 (w:=w) hP hsc bP e2 f2 (d+2)
    rw [uP]
    exact step b0 b c c' _ _ px py k1 k2 g1 g2
  · obtain ⟨x1,x2,lx⟩:=wN (S.F v) r x _ hx
    obtain ⟨y1,y2,ly⟩:=wN (S.F v) r y _ hy
    rw [List.drop_drop] at x2 y2
    obtain ⟨b,g1,g2⟩:=Aw hP (d:=d) fs r (i+(S.F v).length) xs ys _ _ h5 x2 y2
    rw [List.length_drop] at lx ly
    have px:=mh hP bP (cs:=xs) (off:=i) (by show i+(S.F v).length≤_; have :xs.toList.length=xs.size:=Array.length_toList; omega) w
    have py:=mh hP bP (cs:=ys) (off:=i) (by show i+(S.F v).length≤_; have :ys.toList.length=ys.size:=Array.length_toList; omega) w
    have hfo:P.underlying fd.type=some (.struct (P.fieldsOf fd.type)):=by unfold Program.fieldsOf; rw [hu]
    have yJ:P.fieldsOf fd.type=gs:=by unfold Program.fieldsOf; rw [hu]
    obtain ⟨b0,k1,k2⟩:=Fi hP (d:=d+1) gs.toList (S.F v) 0 ((xs.toList.drop i).take (S.F v).length).toArray ((ys.toList.drop i).take (S.F v).length).toArray _ _ hfl (by simpa using x1) (by simpa using y1)
    rw [Cs]
    refine step b0 b (.agg ((xs.toList.drop i).take (S.F v).length).toArray) (.agg ((ys.toList.drop i).take (S.F v).length).toArray) _ _ px py ?_ k2 g1 g2
    rw [run_equalIn_agg w (d+2) fd.type _ _ hfo hsi,yJ]
    exact k1
theorem NQ (hP:aL P S af) (h:Inv P S w0 M0 s0 dq env a w μ) (hd: ∀ d,o.dst=some d→d<a.tmps.size) {op:BinOp} {t t':TypeId} {x y:Operand} (ho:o.op= .binOp op t x y t') (he:S.eq t=true)
 (hl:(match aE S env.tm x,aE S env.tm y with
  | some p,some q=>structEq S op t p q
  | _,_=> .fail).leaf (V,us)) (hK:Goal P S w0 M0 s0 dq env a o.dst V us K):o.wp P a w K Q:=by
 obtain ⟨u,ht,⟨fs,hu,hfl⟩,hsi,hgt⟩:=hP.eq t he
 have hfo:P.underlying t=some (.struct (P.fieldsOf t)):=by unfold Program.fieldsOf; rw [hu]
 have yJ:P.fieldsOf t=fs:=by unfold Program.fieldsOf; rw [hu]
 split at hl
 · rename_i p q hx hy
   obtain ⟨cv,_⟩:=aW h hx
   obtain ⟨dX,_⟩:=aW h hy
   unfold structEq at hl
   rw [ht] at hl
   dsimp only at hl
   split at hl
   · rename_i c d hc hd'
     obtain ⟨xs,n,e1,r1⟩:=Cd hP cv hc
     obtain ⟨ys,m,e2,r2⟩:=Cd hP dX hd'
     obtain ⟨b,g1,g2⟩:=Aw hP (d:=9996) fs.toList (S.F u) 0 xs ys _ _ hfl (by simpa using r1) (by simpa using r2)
     have hrun:(Op.equalIn 10000 t (.agg xs) (.agg ys)).run P w= .ok b w:=by
      rw [run_equalIn_agg w 9999 t xs ys hfo hsi,yJ]
      exact g1
     have fin: ∀ (z:Bool),(binOp op t (.agg xs) (.agg ys)).run P w= .ok (.bool z) w→RV P S w (ay S w0 M0 s0 env.bx μ w) μ env.bx V (.bool z)→aq S V= []→us= []→o.wp P a w K Q:=by
      rintro z hz hr hi rfl
      refine wp_pure h (v:= .bool z) ?_ hd hr (by simp [hi]) hK
      unfold execOp
      simp only [ho,e1,e2]
      simp [run_eqGuard_agg w op t x y xs ys hgt,hz]
     split at hl
     · obtain ⟨rfl,rfl⟩:=bg hl
       refine fin b (by rw [run_eql_struct,hrun]; rfl) ?_ rfl rfl
       show Value.bool b=Value.bool (@decide _ (rS S _ _ _))
       congr 1
       cases hb:b with
       | true=>exact (@decide_eq_true _ (_) (g2.1 hb)).symm
       | false=>exact (@decide_eq_false _ (_) (fun hq=>by rw [g2.2 hq] at hb; cases hb)).symm
     · obtain ⟨rfl,rfl⟩:=bg hl
       refine fin (!b) (by rw [run_neq_struct,hrun]; rfl) ?_ rfl rfl
       show Value.bool (!b)=Value.bool (@decide _ (@instDecidableNot _ (rS S _ _ _)))
       congr 1
       cases hb:b with
       | true=>exact (@decide_eq_false _ (_) (fun hq=>hq (g2.1 hb))).symm
       | false=>exact (@decide_eq_true _ (_) (fun hq=>by rw [g2.2 hq] at hb; cases hb)).symm
     · exact hl.elim
   · exact hl.elim
 · exact hl.elim
theorem vZ {s:St} {bx:Bx S.C} {e:Ty} (he:aZ e=false): ∀ {vs:List (Sy.V S.C)} {cs:List Value} {l:List (e.den S.C)},aB P S w s μ bx vs cs→rowOf S e vs=some l→l.length=vs.length∧
 ∀ (j:Nat) (x:e.den S.C),l[j]? =some x→ ∃ c n,cs[j]? =some c∧av S w s n e x [c]
 | [],_,_,_,hl=>by
  cases hl
  exact ⟨rfl,fun j x h=>by simp at h⟩
 | v::vs,_,l,⟨c,r,rfl,h1,h2⟩,hl=>by
  simp only [rowOf] at hl
  obtain ⟨x,hx,hl⟩:=Option.bind_eq_some_iff.1 hl
  obtain ⟨l',hl',hl⟩:=Option.bind_eq_some_iff.1 hl
  cases hl
  obtain ⟨h3,h4⟩:=vZ he h2 hl'
  refine ⟨by simp [h3],fun j y hj=> ?_⟩
  cases j with
  | zero=>
   simp at hj
   subst hj
   obtain ⟨n,hn⟩:=BG he h1 hx
   exact ⟨c,n,rfl,hn⟩
  | succ j=>
   obtain ⟨c',n,h5,h6⟩:=h4 j y (by simpa using hj)
   exact ⟨c',n,by simpa using h5,h6⟩
theorem w8 (hP:aL P S af) {t n u:Nat} {e:Ty} (h:mQ S t=some (n,e,u)): ∃ te,S.ty t=some (.st u)∧P.underlying t=some (.array n te)∧S.ty te=some e∧Ty.sz S e=1∧aZ e=false∧S.F u=List.replicate n e:=by
 unfold mQ at h
 cases ha:S.ar t with
 | none=>rw [ha] at h; cases h
 | some p=>
  obtain ⟨n',e'⟩:=p
  rw [ha] at h
  dsimp only at h
  split at h
  · cases h
  · rename_i u' oa hu
    cases h
    obtain ⟨_,_,h3⟩:=hP.ty t _ hu
    rw [ha] at h3
    obtain ⟨te,h4,h5,h6,_⟩:=h3
    rcases h6 with ⟨h6,h7,h8⟩ | ⟨w,rfl,_⟩
    · exact ⟨te,hu,h4,h5,h6,h7,h8⟩
    · exact absurd rfl (oa w)
  · cases h
theorem Ht (hP:aL P S af) {t n m u:Nat} (h:uz S t=some (n,m,u)): ∃ te,S.ty t=some (.st u)∧P.underlying t=some (.array n te)∧S.ty te=some (.st m):=by
 unfold uz at h
 cases ha:S.ar t with
 | none=>rw [ha] at h; cases h
 | some p=>
  obtain ⟨n',e'⟩:=p
  rw [ha] at h
  dsimp only at h
  split at h
  · rename_i w u' hu
    cases h
    obtain ⟨_,_,h3⟩:=hP.ty t _ hu
    rw [ha] at h3
    obtain ⟨te,h4,h5,_⟩:=h3
    exact ⟨te,hu,h4,h5⟩
  · cases h
theorem Na (hP:aL P S af) {t n te:Nat} {e:Ty} (hu:P.underlying t=some (.array n te)) (he:S.ty te=some e) (h1:Ty.sz S e=1) {b o':Nat} {k:IntKind} {i:Int} (h0:0≤i) (hi:i<(n:Int)) (w:World):
 (Instr.indexAt t (.pointer (some ⟨b,o',none⟩)) (.int k i)).run P w= .ok (.pointer (some ⟨b,o'+i.toNat,none⟩)) w:=by
 simp [Instr.indexAt,asIntOf,run_underlying hu,h0,hi,hP.size he w,Addr.add_mid,h1,Instr.sureAddr]
theorem M9 (hP:aL P S af) {t n te:Nat} {e:Ty} (hu:P.underlying t=some (.array n te)) (he:S.ty te=some e) (h1:Ty.sz S e=1) (hst:aZ e=false) {cs:Array Value} {c:Value} {k:IntKind} {i:Int} (h0:0≤i) (hi:i<(n:Int)) (hc:cs.toList[i.toNat]? =some c) (w:World):
 (Instr.index t (.agg cs) (.int k i)).run P w= .ok c w:=by
 have hlt:i.toNat<cs.size:=by
  have :=(List.getElem?_eq_some_iff.1 hc).1
  simpa using this
 have :=mh hP he (cs:=cs) (off:=i.toNat) (by rw [h1]; omega) w
 rw [h1] at this
 simp only [Instr.index,asIntOf,Sem.run_bind,Sem.run_pure,Result.andThen_ok,run_underlying hu]
 simp only [h0,hi,and_self,if_true,Sem.run_bind,hP.size he w,Result.andThen_ok,h1,Nat.mul_one,this]
 congr 1
 have hm: ∀ ds,eo e ds=ds.headD Go.undef:=by intro ds; cases e <;> first | rfl | simp [aZ] at hst
 have j8:cs.toList[i.toNat]=c:=by
  have :=(List.getElem?_eq_some_iff.1 hc).2
  exact this
 rw [hm,List.drop_eq_getElem_cons (by simpa using hlt),j8]
 rfl
theorem OV (h:Inv P S w0 M0 s0 dq env a w μ) {o:Oper} {K:Act→World→Prop} {Q:Exit→Act→World→Prop} {V:Sy.V S.C} {v:Value} {us:aA S.C}
 (hrun:(execOp a.eval o).run P w= .ok (.value v) w) (hd: ∀ d,o.dst=some d→d<a.tmps.size) (hk: ∀ i,ah env.bx us i=env.bx i∨ ∃ ws,env.bx i=some (.cells ws)∧ah env.bx us i=some (.bI ws))
 (hv:Inv P S w0 M0 s0 dq { env with bx:=ah env.bx us } a w μ→RV P S w (ay S w0 M0 s0 (ah env.bx us) μ w) μ (ah env.bx us) V v) (hr: ∀ i ∈ aq S V,ah env.bx us i≠none)
 (hK: ∀ a' w' μ',Inv P S w0 M0 s0 dq (env.apply o.dst V us) a' w' μ'→a'.tmps.size=a.tmps.size→K a' w'):o.wp P a w K Q:=by
 unfold Oper.wp
 rw [hrun]
 have hI:=h.uT hk
 refine hK _ w μ (hI.put hd (hv hI) hr) ?_
 cases o.dst <;> simp [Act.put]
theorem Hp (hP:aL P S af) (h:Inv P S w0 M0 s0 dq env a w μ) (hd: ∀ d,o.dst=some d→d<a.tmps.size) {t:TypeId} {x i:Operand} {ids:List Nat} {n u:Nat} {e:Ty} (ho:o.op= .indexAddr t x i) (hte:mQ S t=some (n,e,u))
 (hl:(match aE S env.tm x,aE S env.tm i with
  | some v,some w=>match w.int? with
   | some (_,j)=>xb S n e u (restrict S env.bx ids) j v
   | none=> .fail
  | _,_=> .fail).leaf (V,us)) (hK:Goal P S w0 M0 s0 dq env a o.dst V us K):o.wp P a w K Q:=by
 obtain ⟨te,ht,hu,he,h1,hst,hF⟩:=w8 hP hte
 split at hl
 · rename_i v wv hx hi
   obtain ⟨hv,cT⟩:=aW h hx
   obtain ⟨l5,_⟩:=aW h hi
   split at hl
   · rename_i k j hn
     have hin:=iK l5 hn
     have run: ∀ (b off:Nat),a.eval x= .pointer (some ⟨b,off,none⟩)→0≤j→j<(n:Int)→(execOp a.eval o).run P w= .ok (.value (.pointer (some ⟨b,off+j.toNat,none⟩))) w:=by
      intro b off he' h0 hj
      unfold execOp
      simp only [ho,he',hin]
      simp [Na hP hu he h1 h0 hj]
     unfold xb at hl
     split at hl
     · rename_i b off
       have main: ∀ (vs:List (Sy.V S.C)),(env.bx b=some (.cells vs)∨env.bx b=some (.bI vs))→(match rowOf S e ((vs.drop off).take n) with
        | some l=> .gd (cZ j l.length) (ax S (.cJ e (gm S e l j)) [(b, .bI vs)])
        | none=> .fail:Rt S).leaf (V,us)→o.wp P a w K Q:=by
        intro vs hb bD
        clear hl
        split at bD
        · rename_i l hrow
          obtain ⟨hg,rfl,rfl⟩:=ee bD
          have g0:0≤j:=hg ⟨0≤j,inferInstance⟩ (by simp [cZ,gd])
          have g1:j<(l.length:Int):=hg ⟨j<(l.length:Int),inferInstance⟩ (by simp [cZ,gd])
          have hk: ∀ i,ah env.bx [(b,b9.bI vs)] i=env.bx i∨ ∃ ws,env.bx i=some (.cells ws)∧ah env.bx [(b,b9.bI vs)] i=some (.bI ws):=by
           intro i
           by_cases e':i=b
           · subst e'
             rcases hb with hb | hb
             · exact .inr ⟨vs,hb,aI ..⟩
             · exact .inl ((aI ..).trans hb.symm)
           · exact .inl (aY _ _ e')
          have hlen:l.length≤n∧l.length≤vs.length - off:=by
           have : ∀ (e:Ty) (vs:List (Sy.V S.C)) (l:List (e.den S.C)),rowOf S e vs=some l→l.length=vs.length:=by
            intro e vs
            induction vs with
            | nil=>intro l hl; cases hl; rfl
            | cons v vs ih=>
             intro l hl
             simp only [rowOf] at hl
             obtain ⟨x,hx,hl⟩:=Option.bind_eq_some_iff.1 hl
             obtain ⟨l',hl',hl⟩:=Option.bind_eq_some_iff.1 hl
             cases hl
             simp [ih l' hl']
           have :=this e _ l hrow
           rw [List.length_take,List.length_drop] at this
           omega
          have y4:a.eval x= .pointer (some ⟨(μ b).b,(μ b).o+off,none⟩):=hv
          refine OV (V:= .cJ e (gm S e l j)) h (run _ _ y4 g0 (by omega)) hd hk (fun hI=> ?_) (by simp [aq,ak]) hK
          have fX:ah env.bx [(b,b9.bI vs)] b=some (.bI vs):=aI ..
          obtain ⟨_,cs,cw,cn⟩:=hI.bw b _ fX
          obtain ⟨_,gD⟩:=vZ hst (aB.take P S n (aB.drop P S off cn)) hrow
          obtain ⟨c,m,hc,hr⟩:=gD j.toNat _ (nV g0 g1)
          refine ⟨(μ b).b,(μ b).o+off+j.toNat,[c],rfl,fun q u hq=> ?_,by rw [h1]; rfl,m,hr⟩
          cases q with
          | zero=>
           simp at hq
           subst hq
           rw [List.getElem?_take] at hc
           split at hc
           · rw [List.getElem?_drop] at hc
             have :=cw (off+j.toNat) c hc
             rw [Nat.add_zero,Nat.add_assoc]
             exact this
           · cases hc
          | succ q=>simp at hq
        · exact bD.elim
       split at hl
       · rename_i vs hb; exact main vs (.inl (dG hb)) hl
       · rename_i vs hb; exact main vs (.inr (dG hb)) hl
       · exact hl.elim
     · rename_i t' y
       split at hl
       · rename_i y' hc
         obtain ⟨rfl,rfl⟩:=dn hc
         split at hl
         · rename_i l hrow
           obtain ⟨hg,rfl,rfl⟩:=ee hl
           have g0:0≤j:=hg ⟨0≤j,inferInstance⟩ (by simp [cZ,gd])
           have g1:j<(l.length:Int):=hg ⟨j<(l.length:Int),inferInstance⟩ (by simp [cZ,gd])
           obtain ⟨b,o',ds,y4,cw,hlen,m,hr⟩:=hv
           obtain ⟨cn,_⟩:=kQ (P:=P) hP.tob6 μ env.bx hr
           obtain ⟨sB,gD⟩:=vZ hst (aB.take P S n cn) hrow
           rw [List.length_take] at sB
           obtain ⟨c,m',hc,hr'⟩:=gD j.toNat _ (nV g0 g1)
           refine wp_pure (V:= .cJ e (gm S e l j)) h (run _ _ y4 g0 (by omega)) hd ⟨b,o'+j.toNat,[c],rfl,fun q u hq=> ?_,by rw [h1]; rfl,m',hr'⟩ (by simp [aq,ak]) hK
           cases q with
           | zero=>
            simp at hq
            subst hq
            rw [List.getElem?_take] at hc
            split at hc
            · have :=cw j.toNat c hc
              rw [Nat.add_zero]
              exact this
            · cases hc
           | succ q=>simp at hq
         · exact hl.elim
       · exact hl.elim
     · exact hl.elim
   · exact hl.elim
 · exact hl.elim
theorem NN (hP:aL P S af) (h:Inv P S w0 M0 s0 dq env a w μ) (hd: ∀ d,o.dst=some d→d<a.tmps.size) {t:TypeId} {x y:Operand} {ids:List Nat} {n u:Nat} {e:Ty} (ho:o.op= .store t x y) (hte:mQ S t=some (n,e,u))
 (cE: ∀ V,aE S env.tm y=some V→ ∀ i ∈ aq S V,restrict S env.bx ids i=env.bx i)
 (hl:(match aE S env.tm x,aE S env.tm y with
  | some p,some v=>A9 S u (restrict S env.bx ids) v p
  | _,_=> .fail).leaf (V,us)) (hK:Goal P S w0 M0 s0 dq env a o.dst V us K):o.wp P a w K Q:=by
 obtain ⟨te,ht,_⟩:=w8 hP hte
 split at hl
 · rename_i p v hx hy
   unfold A9 at hl
   split at hl
   · rename_i b off
     split at hl
     · rename_i vs hb
       cases hf:fits S (cellsOf S v) (Ty.sz S (.st u))&&Nat.ble (off+Ty.sz S (.st u)) vs.length with
       | false=>rw [hf] at hl; exact hl.elim
       | true=>
        rw [hf] at hl
        obtain ⟨rfl,rfl⟩:=bg hl
        refine FT hP h hd (V:= .skip) (us:= [(b, .cells (setCells S vs off (cellsOf S v)))]) ho cE ?_ fun a' w' μ' hI hsz=> ?_
        · rw [ht,hx,hy]
          simp only [tS]
          rw [hb]
          dsimp only
          rw [hf]
          rfl
        · have hfr:=hI.uT (aa:=ah env.bx [(b, .bI (setCells S vs off (cellsOf S v)))]) fun i=>by
           by_cases e':i=b
           · subst e'
             exact .inr ⟨_,aI ..,aI ..⟩
           · exact .inl ((aY _ _ e').trans (aY _ _ e').symm)
          exact hK a' w' μ' hfr hsz
     · exact hl.elim
   · exact hl.elim
 · exact hl.elim
theorem Hr (hP:aL P S af) (h:Inv P S w0 M0 s0 dq env a w μ) (hd: ∀ d,o.dst=some d→d<a.tmps.size) {t:TypeId} {x i:Operand} {n u:Nat} {e:Ty} (ho:o.op= .index t x i) (hte:mQ S t=some (n,e,u))
 (hl:(match aE S env.tm x,aE S env.tm i with
  | some v,some w=>match w.int? with
   | some (_,j)=>xd S n e u j v
   | none=> .fail
  | _,_=> .fail).leaf (V,us)) (hK:Goal P S w0 M0 s0 dq env a o.dst V us K):o.wp P a w K Q:=by
 obtain ⟨te,ht,hu,he,h1,hst,hF⟩:=w8 hP hte
 split at hl
 · rename_i v wv hx hi
   obtain ⟨hv,cT⟩:=aW h hx
   obtain ⟨l5,_⟩:=aW h hi
   split at hl
   · rename_i k j hn
     have hin:=iK l5 hn
     unfold xd at hl
     split at hl
     · rename_i vs hcells
       split at hl
       · rename_i l hrow
         obtain ⟨hg,rfl,rfl⟩:=ee hl
         have g0:0≤j:=hg ⟨0≤j,inferInstance⟩ (by simp [cZ,gd])
         have g1:j<(l.length:Int):=hg ⟨j<(l.length:Int),inferInstance⟩ (by simp [cZ,gd])
         have p8: ∃ cs,a.eval x= .agg cs∧aB P S w (ay S w0 M0 s0 env.bx μ w) μ env.bx vs cs.toList:=by
          unfold rD at hcells
          split at hcells
          · rename_i u' vs'
            cases hb:Nat.beq u u' with
            | false=>rw [hb] at hcells; cases hcells
            | true=>
             rw [hb] at hcells
             cases hcells
             obtain ⟨cs,g1,g2,g3,g4⟩:=hv
             exact ⟨cs,g1,g4⟩
          · rename_i t' y
            obtain ⟨y',hc,hcells⟩:=Option.bind_eq_some_iff.1 hcells
            cases hcells
            obtain ⟨rfl,rfl⟩:=dn hc
            obtain ⟨ha,m,hr⟩:=hv
            have : ∃ cs,a.eval x= .agg cs:=by
             cases e':a.eval x <;> rw [e'] at ha <;> first | exact ⟨_,rfl⟩ | (simp [Go.Sy.isAgg,aZ] at ha)
            obtain ⟨cs,hcs⟩:=this
            rw [hcs] at hr
            exact ⟨cs,hcs,(kQ (P:=P) hP.tob6 μ env.bx hr).1⟩
          · cases hcells
         obtain ⟨cs,hcs,cn⟩:=p8
         obtain ⟨sB,gD⟩:=vZ hst (aB.take P S n cn) hrow
         rw [List.length_take] at sB
         obtain ⟨c,m',hc,hr'⟩:=gD j.toNat _ (nV g0 g1)
         have fY:cs.toList[j.toNat]? =some c:=by
          rw [List.getElem?_take] at hc
          split at hc
          · exact hc
          · cases hc
         refine wp_pure (V:= .d e (gm S e l j)) h (v:=c) ?_ hd ?_ (by simp [aq,ak]) hK
         · unfold execOp
           simp only [ho,hcs,hin]
           simp [M9 hP hu he h1 hst g0 (by omega:j<(n:Int)) fY]
         · have :=vG hr'
           have hm: ∀ ds,eo e ds=ds.headD Go.undef:=by intro ds; cases e <;> first | rfl | simp [aZ] at hst
           rw [hm] at this
           exact this
       · exact hl.elim
     · exact hl.elim
   · exact hl.elim
 · exact hl.elim
theorem BF {w k:Nat} {j:Int} {vs:List (Sy.V S.C)} : ∀ {i m:Nat},(uy S w k j vs i m).leaf (V,us)→ ∃ q,i≤q∧q<i+m∧j=(q:Int)∧V= .agg w ((vs.drop (q*k)).take k)∧us= []
 | _,0,h=>h.elim
 | i,m+1,h=>by
  rcases h with ⟨hj,h⟩ | ⟨_,h⟩
  · obtain ⟨rfl,rfl⟩:=bg h
    exact ⟨i,Nat.le_refl _,by omega,hj,rfl,rfl⟩
  · obtain ⟨q,h1,h2,h3⟩:=BF h
    exact ⟨q,by omega,by omega,h3⟩
theorem M_ (hP:aL P S af) {t n te m:Nat} (hu:P.underlying t=some (.array n te)) (he:S.ty te=some (.st m)) {cs:Array Value} {k:IntKind} {q:Nat} (hi:q<n) (hle:q*(S.F m).length+(S.F m).length≤cs.size) (w:World):
 (Instr.index t (.agg cs) (.int k (q:Int))).run P w= .ok (eo (.st m) ((cs.toList.drop (q*(S.F m).length)).take (S.F m).length)) w:=by
 have :=mh hP he (cs:=cs) (off:=q*(S.F m).length) hle w
 have h0:(0:Int)≤(q:Int):=by omega
 have hi':(q:Int)<(n:Int):=by omega
 have hsz:Ty.sz S (.st m)=(S.F m).length:=rfl
 rw [hsz] at this
 simp only [Instr.index,asIntOf,Sem.run_bind,Sem.run_pure,Result.andThen_ok,run_underlying hu]
 simp only [h0,hi',and_self,if_true,Sem.run_bind,hP.size he w,Result.andThen_ok,hsz,Int.toNat_natCast,this]
theorem Hq (hP:aL P S af) (h:Inv P S w0 M0 s0 dq env a w μ) (hd: ∀ d,o.dst=some d→d<a.tmps.size) {t:TypeId} {x i:Operand} {n m u:Nat} (ho:o.op= .index t x i) (hte:uz S t=some (n,m,u))
 (hl:(match aE S env.tm x,aE S env.tm i with
  | some v,some w=>match rD S u v,w.int? with
   | some vs,some (_,j)=>cond (Nat.beq vs.length (n*(S.F m).length)) (uy S m (S.F m).length j vs 0 n) .fail
   | _,_=> .fail
  | _,_=> .fail).leaf (V,us)) (hK:Goal P S w0 M0 s0 dq env a o.dst V us K):o.wp P a w K Q:=by
 obtain ⟨te,ht,hu,he⟩:=Ht hP hte
 split at hl
 · rename_i v wv hx hi
   obtain ⟨hv,cT⟩:=aW h hx
   obtain ⟨l5,_⟩:=aW h hi
   split at hl
   · rename_i vs k j hcells hn
     have hin:=iK l5 hn
     cases hb:Nat.beq vs.length (n*(S.F m).length) with
     | false=>rw [hb] at hl; exact hl.elim
     | true=>
      rw [hb,cond_true] at hl
      have hlen:=Nat.eq_of_beq_eq_true hb
      obtain ⟨q,_,hq,rfl,rfl,rfl⟩:=BF hl
      have p8: ∃ cs:Array Value,a.eval x= .agg cs∧vs.all (bH S)=true∧aB P S w (ay S w0 M0 s0 env.bx μ w) μ env.bx vs cs.toList∧ ∀ V ∈ vs, ∀ i ∈ ak S V,env.bx i≠none:=by
       unfold rD at hcells
       split at hcells
       · rename_i u' vs'
         cases hb:Nat.beq u u' with
         | false=>rw [hb] at hcells; cases hcells
         | true=>
          rw [hb] at hcells
          cases hcells
          obtain ⟨cs,g1,g2,g3,g4⟩:=hv
          exact ⟨cs,g1,g3,g4,fun V hV i hi=>cT i (by simp only [aq,List.mem_flatMap]; exact ⟨V,hV,hi⟩)⟩
       · rename_i t' y
         obtain ⟨y',hc,hcells⟩:=Option.bind_eq_some_iff.1 hcells
         cases hcells
         obtain ⟨rfl,rfl⟩:=dn hc
         obtain ⟨ha,r,hr⟩:=hv
         have : ∃ cs,a.eval x= .agg cs:=by
          cases e':a.eval x <;> rw [e'] at ha <;> first | exact ⟨_,rfl⟩ | (simp [Go.Sy.isAgg,aZ] at ha)
         obtain ⟨cs,hcs⟩:=this
         rw [hcs] at hr
         obtain ⟨x1,x2,x3⟩:=kQ (P:=P) hP.tob6 μ env.bx hr
         exact ⟨cs,hcs,x2,x1,fun V hV i hi=>by rw [x3 V hV] at hi; simp at hi⟩
       · cases hcells
      obtain ⟨cs,hcs,kg,cn,cE⟩:=p8
      have hcl:cs.size=n*(S.F m).length:=by
       have :=aB.length P S cn
       rw [hlen] at this
       simpa using this
      have hle:q*(S.F m).length+(S.F m).length≤n*(S.F m).length:=by
       have :(q+1)*(S.F m).length≤n*(S.F m).length:=Nat.mul_le_mul_right _ (by omega)
       rw [Nat.add_mul,Nat.one_mul] at this
       exact this
      have hvl:((vs.drop (q*(S.F m).length)).take (S.F m).length).length=(S.F m).length:=by
       rw [List.length_take,List.length_drop]; omega
      refine wp_pure (V:= .agg m ((vs.drop (q*(S.F m).length)).take (S.F m).length)) h (v:= .agg ((cs.toList.drop (q*(S.F m).length)).take (S.F m).length).toArray) ?_ hd
       ⟨_,rfl,hvl, ?_,by rw [List.toList_toArray]; exact aB.take P S _ (aB.drop P S _ cn)⟩ (fun i hi=> ?_) hK
      · unfold execOp
        simp only [ho,hcs,hin]
        simp [M_ hP hu he (cs:=cs) (k:=k) (by omega:q<n) (by omega),eo]
      · rw [List.all_eq_true] at kg ⊢
        exact fun V hV=>kg V (List.mem_of_mem_drop (List.mem_of_mem_take hV))
      · simp only [aq,List.mem_flatMap] at hi
        obtain ⟨V,hV,hi⟩:=hi
        exact cE V (List.mem_of_mem_drop (List.mem_of_mem_take hV)) i hi
   · exact hl.elim
 · exact hl.elim
end
end Go.Sy
namespace Go.Sy
section
variable {P:Program} {S:aK} {af:Nat→Nat}
variable {w0:World} {M0 s0:St} {dq:List Deferred} {env:Env S.C} {a:Act} {w:World} {μ:Nat→Loc} {K:Act→World→Prop} {Q:Exit→Act→World→Prop} {o:Oper} {V:V S.C} {us:aA S.C}
theorem K8 {x y:Operand} {n:Nat} (h:vE x y=some n):x= .const (.int .i64 (n:Int))∧y= .const (.int .i64 (n:Int))∧n≤8:=by
 unfold vE at h
 split at h
 · rename_i p q
   cases hc:Nat.beq p q&&Nat.ble p 8 with
   | false=>rw [hc] at h; cases h
   | true=>
    rw [hc,cond_true] at h
    cases h
    rw [Bool.and_eq_true] at hc
    have e1:=Nat.eq_of_beq_eq_true hc.1
    subst e1
    exact ⟨rfl,rfl,Nat.le_of_ble_eq_true hc.2⟩
 · cases h
theorem Bt {s:St} {bx:Bx S.C} : ∀ (n:Nat) (cs:List Value),cs=List.replicate n (Value.slice none 0 0)→aB P S w s μ bx (List.replicate n (.b_:Sy.V S.C)) cs
 | 0,_,h=>h
 | n+1,_,h=>⟨.slice none 0 0,List.replicate n (.slice none 0 0),h,rfl,Bt n _ rfl⟩
theorem Ll (hP:aL P S af) (h:Inv P S w0 M0 s0 dq env a w μ) (hd: ∀ d,o.dst=some d→d<a.tmps.size) {vw:Bool} {B:Nat} {t:TypeId} {x y:Operand} (ho:o.op= .makeSlice t x y)
 (hnew: ∀ u ∈ us,B≤u.1→u.1<B+16→env.bx u.1=none)
 (hl:(match dO S t,aE S env.tm x,aE S env.tm y with
  | some e,some v,some w=>match cond (vw&&zl e&&Nat.ble (af t) 64) (vE x y) none with
   | some n=>ax S (.cm B n) [(B, .cells (List.replicate n .b_))]
   | none=>match v.int?,w.int? with
    | some (.i64,n),some (.i64,m)=>Tr.gd [gd (0≤n),gd (n≤m),gd (m*af t≤limit)] (ax S (.az (B)) [(B, .arr e (List.replicate n.toNat (Ty.zero S e)))])
    | _,_=>Tr.fail
  | _,_,_=>Tr.fail).leaf (V,us)) (hK:Goal P S w0 M0 s0 dq env a o.dst V us K):o.wp P a w K Q:=by
 split at hl
 · rename_i e v u ht hx hy
   split at hl
   · rename_i n hn
     cases hc:(vw&&zl e&&Nat.ble (af t) 64) with
     | false=>rw [hc] at hn; cases hn
     | true=>
     rw [hc,cond_true] at hn
     simp only [Bool.and_eq_true] at hc
     obtain ⟨⟨_,dP⟩,dx⟩:=hc
     have dx:=Nat.le_of_ble_eq_true dx
     obtain ⟨hex,JB,Pc⟩:=K8 hn
     obtain ⟨rfl,rfl⟩:=bg hl
     obtain ⟨e1,rfl⟩: ∃ e1,e= .sl e1:=by
      cases e with
      | sl e1=>exact ⟨e1,rfl⟩
      | _=>cases dP
     have ht':=jo ht
     obtain ⟨te,ie,z,hu,hte,hie,hby,cD,_⟩:=hP.sl ht'
     obtain ⟨⟨i,z,h1,h2,h3,h4,h5⟩,_⟩:=hP.ty te _ hte
     rw [hie] at h1
     cases h1
     have hz:z.cells.toList= [.slice none 0 0]:=h5
     have hsz:ie.size=1:=h2
     have O7:(n:Int)*af t≤512:=by
      have q1:(af t:Int)≤64:=by omega
      have q2:(n:Int)≤8:=by omega
      exact Int.le_trans (Int.mul_le_mul q2 q1 (by omega) (by omega)) (by decide)
     have hrun:=run_make (P:=P) w t te ie z hu hie h3 .i64 .i64 n n (by omega) (Int.le_refl _) (by rw [hby,Int.mul_comm]; omega) (by omega)
     have hB:=hnew _ (List.mem_singleton.2 rfl) (Nat.le_refl _) (by show B<B+16; omega)
     have hcells:(madeCells z.cells (n*1)).toList=List.replicate n (Value.slice none 0 0):=by
      have hzs:z.cells= #[.slice none 0 0]:=by
       have :z.cells=z.cells.toList.toArray:=by simp
       rw [this,hz]
      rw [hzs,Nat.mul_one]
      unfold madeCells
      apply List.ext_getElem
      · simp
      · intro j vi hj2
        simp [Nat.mod_one]
     have nt:=ld (w:=w) (cs:=madeCells z.cells (n*1)) (t:=te)
     rw [size_madeCells,Nat.mul_one] at nt
     refine nC (i:=B) (B:= .cells (List.replicate n .b_)) (V:= .cm B n) (v:= .slice (some ⟨w.heap.size,0,none⟩) n n) (L:=⟨w.heap.size,0,n,0,false,fun _ _=>False⟩) (w':=w.alloc (.cells (madeCells z.cells (n*1)) te)) h ?_ hd (aO.alloc w _ _) hB (fun b o' hf=>Nat.le_of_eq hf.1.symm)
      (fun hl _ h3=>⟨⟨?_, ?_, ?_,_, ?_,Bt n _ hcells⟩, ?_⟩) (fun vs hvs v hv j hj=> ?_) (fun j hj=> .inl (by simpa [aq,ak] using hj)) hK
     · unfold execOp
       simp only [ho,hex,JB]
       have :(Instr.makeSlice t (.int .i64 (n:Int)) (.int .i64 (n:Int))).run P w= .ok (.slice (some ⟨w.heap.size,0,none⟩) n n) (w.alloc (.cells (madeCells z.cells (n*1)) te)):=by
        rw [hrun,hsz]; rfl
       simp [this,Act.eval]
     · rw [List.all_eq_true]
       intro v hv
       rw [List.eq_of_mem_replicate hv]; rfl
     · simp
     · simpa using nt.1
     · simpa using nt.2
     · show Value.slice _ n n= .slice (some ⟨(ai μ B _ B).b,(ai μ B _ B).o,none⟩) n n
       rw [aI]
     · have :v= .b_:=by
        rcases hvs with hvs | hvs
        · cases hvs; exact List.eq_of_mem_replicate hv
        · cases hvs
       rw [this] at hj
       simp [ak] at hj
   · exact Ln hP h hd ho hnew (by rw [ht,hx,hy]; exact hl) hK
 · exact hl.elim
theorem Ge {e:Ty} : ∀ {vs:List (Sy.V S.C)} {l:List (List (e.den S.C))},qR S e vs=some l→l.length=vs.length
 | [],l,h=>by cases h; rfl
 | v::vs,l,h=>by
  cases v with
  | aP b e' x=>
   simp only [qR] at h
   obtain ⟨y,hy,h⟩:=Option.bind_eq_some_iff.1 h
   obtain ⟨r,hr,h⟩:=Option.bind_eq_some_iff.1 h
   cases h
   show (y::r).length=_
   simp only [List.length_cons]
   exact congrArg (· +1) (Ge hr)
  | _=>cases h
theorem Gc {s:St} {bx:Bx S.C} {e:Ty} : ∀ {vs:List (Sy.V S.C)} {l:List (List (e.den S.C))} {cs:List Value},qR S e vs=some l→aB P S w s μ bx vs cs→ ∀ (i:Nat) (x:List (e.den S.C)),l[i]? =some x→ ∃ c,cs[i]? =some c∧bV S w s (.sl e) x c
 | [],l,cs,h,_,i,x,hx=>by cases h; simp at hx
 | v::vs,l,cs,h,⟨c,r,hc,h1,h2⟩,i,x,hx=>by
  cases v with
  | aP b e' y=>
   simp only [qR] at h
   obtain ⟨z,hz,h⟩:=Option.bind_eq_some_iff.1 h
   obtain ⟨q,hq,h⟩:=Option.bind_eq_some_iff.1 h
   cases h
   subst hc
   cases i with
   | zero=>
    have hx:some z=some x:=hx
    cases hx
    refine ⟨c,rfl, ?_⟩
    obtain ⟨he,hz⟩:=dn hz
    cases he
    cases hz
    exact h1.1
   | succ i=>
    have hx:q[i]? =some x:=hx
    exact Gc hq h2 i x hx
  | _=>cases h
theorem Hu {nl:Bool} (h:Inv P S w0 M0 s0 dq env a w μ) (hd: ∀ d,o.dst=some d→d<a.tmps.size) {x:Operand} {B:Nat} {ids:List Nat} (ho:execOp a.eval o=pure (.value (a.eval x)))
 (hnew: ∀ u ∈ us,B≤u.1→u.1<B+16→env.bx u.1=none)
 (hl:(match aE S env.tm x with
  | some .b_=>cond nl (ax S .b_ []) (match dO S o.type with
   | some e=>ax S (.aP B e []) [(B, .tail)]
   | none=> .fail)
  | some (.cm b n)=>settle S (dO S o.type) (restrict S env.bx ids) b n
  | some v=>ax S v []
  | none=> .fail).leaf (V,us)) (hK:Goal P S w0 M0 s0 dq env a o.dst V us K):o.wp P a w K Q:=by
 have hrun:(execOp a.eval o).run P w= .ok (.value (a.eval x)) w:=by rw [ho]; rfl
 split at hl
 · rename_i hx
   exact zB (nl:=nl) h hd (x:=x) (B:=B) ho hnew (by rw [hx]; exact hl) hK
 · rename_i b n hx
   obtain ⟨hv,hr⟩:=aW h hx
   unfold settle at hl
   split at hl
   · rename_i vs hb
     have hb:=dG hb
     split at hl
     · obtain ⟨rfl,rfl⟩:=bg hl
       exact wp_pure h hrun hd hv hr hK
     · split at hl
       · rename_i e he
         split at hl
         · rename_i l hlr
           cases hn:Nat.beq n vs.length with
           | false=>rw [hn] at hl; exact hl.elim
           | true=>
            rw [hn,cond_true] at hl
            have hn:=Nat.eq_of_beq_eq_true hn
            obtain ⟨rfl,rfl⟩:=bg hl
            have hall: ∀ i,ah env.bx [(b,b9.bI vs)] i=env.bx i∨ ∃ ws,env.bx i=some (.cells ws)∧ah env.bx [(b,b9.bI vs)] i=some (.bI ws):=fun i=>by
             by_cases e:i=b
             · subst e; exact .inr ⟨vs,hb,aI _ _ _⟩
             · exact .inl (aY _ _ e)
            have hI:=h.uT hall
            obtain ⟨_,cs,cw,cn⟩:=hI.bw b (.bI vs) (aI _ _ _)
            have sB:=Ge hlr
            have hv:a.eval x= .slice (some ⟨(μ b).b,(μ b).o,none⟩) n n:=hv
            unfold Oper.wp
            rw [hrun]
            refine hK _ w μ (hI.put hd (V:= .d (.sl (.sl e)) l) ?_ (by simp [aq,ak])) ?_
            · rw [hv,hn, ← sB]
              refine A5 (Nat.le_refl _) fun i y hy=> ?_
              obtain ⟨c,hc,ha,m,hm⟩:=Gc hlr cn i y hy
              refine ⟨[c],rfl,fun j u hj=> ?_,m, ?_⟩
              · cases j with
                | zero=>
                 simp at hj
                 subst hj
                 have :=cw i c hc
                 rw [show i*Ty.sz S (.sl e)=i from Nat.mul_one i]
                 exact this
                | succ j=>simp at hj
              · rwa [av.jZ ha rfl] at hm
            · cases o.dst <;> simp [Act.put]
         · exact hl.elim
       · exact hl.elim
   · exact hl.elim
 · rename_i v J5 Pd hx
   refine zB (nl:=nl) h hd (x:=x) (B:=B) ho hnew ?_ hK
   rw [hx]
   cases v with
   | b_=>exact absurd rfl J5
   | _=>exact hl
 · exact hl.elim
theorem Iy (hP:aL P S af) (h:Inv P S w0 M0 s0 dq env a w μ) (hd: ∀ d,o.dst=some d→d<a.tmps.size) {op:BinOp} {t t':TypeId} {x:Operand} (ho:o.op= .binOp op t x (.const .nilIface) t')
 (hl:(match aE S env.tm x with
  | some (.err b)=>cond (S.om t) (match op with
   | .eql=>ax S (.d .bool b) []
   | .neq=>ax S (.d .bool (Bool.not b)) []
   | _=> .fail) .fail
  | _=> .fail).leaf (V,us)) (hK:Goal P S w0 M0 s0 dq env a o.dst V us K):o.wp P a w K Q:=by
 split at hl
 · rename_i b hx
   obtain ⟨hv,_⟩:=aW h hx
   have hv:wJ b (a.eval x):=hv
   cases hi:S.om t with
   | false=>rw [hi] at hl; exact hl.elim
   | true=>
    rw [hi,cond_true] at hl
    obtain ⟨ms,hu⟩:=hP.om t hi
    have hif:P.isIface t=true:=by unfold Program.isIface; rw [hu]
    have hg:(eqGuard op t x (.const .nilIface) (a.eval x) .nilIface).run P w= .ok () w:=by
     cases b with
     | true=>
      have hv:a.eval x= .nilIface:=hv
      rw [hv,eqGuard_nil_constR]; rfl
     | false=>
      obtain ⟨u,p,hv⟩:=hv
      rw [hv]
      exact xP rfl w
    have fin: ∀ r:Bool,V= .d .bool r→us= []→(binOp op t (a.eval x) .nilIface).run P w= .ok (.bool r) w→o.wp P a w K Q:=by
     rintro r rfl rfl hr
     refine wp_pure h (V:= .d .bool r) (v:= .bool r) ?_ hd (lR ..) (by simp [aq,ak]) hK
     unfold execOp
     simp only [ho]
     have e:a.eval (.const .nilIface)= .nilIface:=rfl
     rw [e]
     simp [hg,hr]
    split at hl
    · obtain ⟨h1,h2⟩:=bg hl
      refine fin b h1 h2 ?_
      cases b with
      | true=>
       have hv:a.eval x= .nilIface:=hv
       rw [hv]; exact run_eql_nil_nil_at w t hif
      | false=>
       obtain ⟨u,p,hv⟩:=hv
       rw [hv]; exact run_eql_iface_nil w t hif u p
    · obtain ⟨h1,h2⟩:=bg hl
      refine fin (Bool.not b) h1 h2 ?_
      cases b with
      | true=>
       have hv:a.eval x= .nilIface:=hv
       rw [hv]; exact run_neq_nil_nil_at w t hif
      | false=>
       obtain ⟨u,p,hv⟩:=hv
       rw [hv]; exact run_neq_iface_nil w t hif u p
    · exact hl.elim
 · exact hl.elim
theorem zH {T:gA S} {B:Nat} {op:BinOp} {t t' ty:TypeId} {x y:Operand} {tm:Nat→Sy.V S.C} {bx:Bx S.C} (hy:y≠ .const .nilIface):
 b7 S T af B (.binOp op t x y t') ty tm bx=cond (S.eq t) (match aE S tm x,aE S tm y with
 | some a,some b=>structEq S op t a b
 | _,_=> .fail) (match aE S tm x,aE S tm y with
 | some a,some b=>match uA S op t a b with
  | some (gs,v)=> .gd gs (ax S v [])
  | none=> .fail
 | _,_=> .fail):=by
 cases y with
 | const v=>cases v <;> first | rfl | exact absurd rfl hy
 | _=>rfl
end
end Go.Sy
