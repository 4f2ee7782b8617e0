import Derived.Lib.Strings
import Derived.Laws.MakeOwn
import Derived.Great.BuildSlice
import Derived.Deep.Upon
import Derived.Laws.StructEq
import Derived.Stop.IfaceNil
import Derived.Laws.Entries
import Derived.Test.YtfacjammklpmpaaDoorSa
set_option linter.unusedVariables false
set_option linter.unusedSimpArgs false
namespace Go.Sy
section
variable {P:Program} {S:aK} {af:Nat→Nat}
variable {w0:World} {M0 s0:St} {dq:List Deferred} {env:Env S.C} {a:Act} {w:World} {μ:Nat→Loc} {K:Act→World→Prop} {Q:Exit→Act→World→Prop} {o:Oper} {V:V S.C} {us:aA S.C}
theorem Iy (s:List UInt8) (i j:Nat):(⟨s.toArray⟩:ByteArray).extract i j=⟨((s.take j).drop i).toArray⟩:=by
 apply ByteArray.ext
 apply Array.ext'
 rw [Lib.extract_data]
 simp [List.drop_take]
theorem size_mk (s:List UInt8):ByteArray.size ⟨s.toArray⟩=s.length:=by show s.toArray.size=_; simp
theorem oM {k:IntKind} {i:Int} {y:Nat} (code:BoundsCode) (h0:0≤i) (h1:i≤(y:Int)) (w:World):(Instr.sliceBound (.int k i) y code).run P w= .ok i.toNat w:=by
 simp [Instr.sliceBound,asIntOf,h0,h1]
theorem D6 (h:Inv P S w0 M0 s0 dq env a w μ) {x:Option Operand} {l:Option (Sy.V S.C)} (hx:iK S env.tm x=some l):
 (x=none∧l=none)∨ ∃ y v,x=some y∧l=some v∧RV P S w (ay S w0 M0 s0 env.bx μ w) μ env.bx v (a.eval y):=by
 cases x with
 | none=>cases hx; exact .inl ⟨rfl,rfl⟩
 | some y=>
  simp only [iK] at hx
  obtain ⟨v,hv,hx⟩:=Option.bind_eq_some_iff.1 hx
  cases hx
  exact .inr ⟨y,v,rfl,rfl,(aW h hv).1⟩
theorem ov {s:St} {bx:Bx S.C} {V:Sy.V S.C} {v:Value} {n:Int} (h:RV P S w s μ bx V v) (hi:l7 S V=some n): ∃ k,v= .int k n:=by
 unfold l7 at hi
 cases e:V.int? with
 | none=>rw [e] at hi; cases hi
 | some p=>
  rw [e] at hi
  cases hi
  exact ⟨p.1,iH h e⟩
theorem nQ (h:Inv P S w0 M0 s0 dq env a w μ) {lo hi:Option Operand} {l hh:Option (Sy.V S.C)} (hlo:iK S env.tm lo=some l) (hhi:iK S env.tm hi=some hh) {n cap:Nat} (hcap:n≤cap)
 {gs:List Gd} {i j:Int} (hb:bounds S n l hh=some (gs,i,j)) (hg: ∀ g ∈ gs,g.p) (Km:Bool):
 (Instr.sliceBounds Km n cap (lo.map a.eval) (hi.map a.eval) none).run P w= .ok (i.toNat,j.toNat,cap) w∧0≤i∧i≤j∧j≤(n:Int)∧(hh=none→j=n):=by
 rcases D6 h hlo with ⟨rfl,rfl⟩ | ⟨x,v,rfl,rfl,hv⟩ <;> rcases D6 h hhi with ⟨rfl,rfl⟩ | ⟨y,u,rfl,rfl,hu⟩
 · cases hb
   exact ⟨by simp [Instr.sliceBounds],by omega,by omega,by omega,fun _=>rfl⟩
 · simp only [bounds] at hb
   obtain ⟨m,hm,hb⟩:=Option.bind_eq_some_iff.1 hb
   cases hb
   obtain ⟨k,hk⟩:=ov hu hm
   have g0:0≤j:=hg ⟨0≤j,inferInstance⟩ (by simp [gd])
   have g1:j≤(n:Int):=hg ⟨j≤(n:Int),inferInstance⟩ (by simp [gd])
   refine ⟨?_,by omega,by omega,g1,fun h=>by cases h⟩
   simp only [Option.map,hk,Instr.sliceBounds]
   simp [oM (P:=P) _ g0 (show j≤(cap:Int) by omega)]
 · simp only [bounds] at hb
   obtain ⟨m,hm,hb⟩:=Option.bind_eq_some_iff.1 hb
   cases hb
   obtain ⟨k,hk⟩:=ov hv hm
   have g0:0≤i:=hg ⟨0≤i,inferInstance⟩ (by simp [gd])
   have g1:i≤(n:Int):=hg ⟨i≤(n:Int),inferInstance⟩ (by simp [gd])
   refine ⟨?_,g0,g1,by omega,fun _=>rfl⟩
   simp only [Option.map,hk,Instr.sliceBounds]
   simp [oM (P:=P) _ g0 g1]
 · simp only [bounds] at hb
   obtain ⟨m,hm,hb⟩:=Option.bind_eq_some_iff.1 hb
   obtain ⟨p,hp,hb⟩:=Option.bind_eq_some_iff.1 hb
   cases hb
   obtain ⟨k,hk⟩:=ov hv hm
   obtain ⟨k',hk'⟩:=ov hu hp
   have g0:0≤j:=hg ⟨0≤j,inferInstance⟩ (by simp [gd])
   have g1:j≤(n:Int):=hg ⟨j≤(n:Int),inferInstance⟩ (by simp [gd])
   have g2:0≤i:=hg ⟨0≤i,inferInstance⟩ (by simp [gd])
   have g3:i≤j:=hg ⟨i≤j,inferInstance⟩ (by simp [gd])
   refine ⟨?_,g2,g3,g1,fun h=>by cases h⟩
   simp only [Option.map,hk,hk',Instr.sliceBounds]
   simp [oM (P:=P) _ g0 (show j≤(cap:Int) by omega),oM (P:=P) .sliceB g2 (show i≤(j.toNat:Int) by omega)]
def jK (ad:Option Addr) (cap lo sz:Nat):Option Addr:=if cap=lo then ad else ad.map (·.add (lo*sz))
theorem MK (hP:aL P S af) {t:Nat} {e:Ty} (ht:S.ty t=some (.sl e)) {ad:Option Addr} {n cap i j:Nat} {lo hi:Option Value}
 (hb:(Instr.sliceBounds true n cap lo hi none).run P w= .ok (i,j,cap) w):(Instr.sliceAt t (.slice ad n cap) lo hi none).run P w= .ok (.slice (jK ad cap i (Ty.sz S e)) (j - i) (cap - i)) w:=by
 obtain ⟨te,ie,z,hu,he,_⟩:=hP.sl ht
 simp [Instr.sliceAt,Instr.slice,run_underlying hu,hb,hP.size he,jK]
theorem xE {α:Type} (l:List α) {i j:Int} {hh:Option (Sy.V S.C)} (h0:0≤i) (h1:i≤j) (h2:j≤(l.length:Int)) (hn:hh=none→j=(l.length:Int)):
 iT S l i j hh=(l.take j.toNat).drop i.toNat:=by
 cases hh with
 | none=>
  have :=hn rfl
  show l.drop i.toNat=_
  rw [this,show ((l.length:Int)).toNat=l.length from by omega,List.take_length]
 | some v=>rfl
theorem Lf {R:(t:Ty)→t.den S.C→List Value→Prop} {s:St} {e:Ty} {b o':Nat} {l:List (e.den S.C)} (h:qZ S R w s e b o' l) (i j:Nat):qZ S R w s e b (o'+i*Ty.sz S e) ((l.take j).drop i):=fun k x hk=>by
 have hk':l[i+k]? =some x:=by
  rw [List.getElem?_drop,List.getElem?_take] at hk
  split at hk
  · exact hk
  · cases hk
 obtain ⟨ds,d1,d2,d3⟩:=h (i+k) x hk'
 refine ⟨ds,d1, ?_,d3⟩
 rw [show o'+i*Ty.sz S e+k*Ty.sz S e=o'+(i+k)*Ty.sz S e from by rw [Nat.add_mul]; omega]
 exact d2
theorem A8 {s:St} {e:Ty} {l:List (e.den S.C)} {ad:Option Addr} {cap:Nat} (h:bT S w s (.sl e) l (.slice ad l.length cap)) {i j:Nat} (h1:i≤j) (h2:j≤l.length):
 bT S w s (.sl e) ((l.take j).drop i) (.slice (jK ad cap i (Ty.sz S e)) (j - i) (cap - i)):=by
 obtain ⟨iS,cap',he,hle,hel⟩:=ji h
 cases he
 have hlen:((l.take j).drop i).length=j - i:=by rw [List.length_drop,List.length_take]; omega
 rcases hel with hel | ⟨b,o',n,rfl,hel⟩
 · exact ⟨rfl,1,_,_,by rw [hlen]; rfl,by rw [hlen]; omega, .inl (by rw [hlen]; omega)⟩
 · by_cases hc:cap=i
   · exact ⟨rfl,1,_,_,by rw [hlen]; rfl,by rw [hlen]; omega, .inl (by rw [hlen]; omega)⟩
   · refine ⟨rfl,n+1,_,_,by rw [hlen]; rfl,by rw [hlen]; omega, .inr ⟨b,o'+i*Ty.sz S e, ?_,Lf hel i j⟩⟩
     rw [jK,if_neg hc]
     simp [Addr.add_mid]
theorem MM {t:Nat} (hu:P.underlying t=some .string) (s:List UInt8) {i j:Nat} {lo hi:Option Value}
 (hb:(Instr.sliceBounds false s.length s.length lo hi none).run P w= .ok (i,j,s.length) w):(Instr.sliceAt t (.string ⟨s.toArray⟩) lo hi none).run P w= .ok (.string ⟨((s.take j).drop i).toArray⟩) w:=by
 have e1:=Iy s i j
 have hsz:=size_mk s
 simp [Instr.sliceAt,Instr.slice,run_underlying hu,hsz,hb,e1]
theorem Hw {n:Nat} {hh:Option (Sy.V S.C)} {gs:List Gd} {i j:Int} (hb:bounds S n none hh=some (gs,i,j)):i=0:=by
 cases hh with
 | none=>cases hb; rfl
 | some u=>
  simp only [bounds] at hb
  obtain ⟨m,hm,hb⟩:=Option.bind_eq_some_iff.1 hb
  cases hb; rfl
theorem Bb {s':St} {bx:Bx S.C} {k:Nat} {e:Ty} {l:List (e.den S.C)} (hb:bx k=some (.arr e l)) {ad:Option Addr} {n cap:Nat} (ha:gJ (μ k) ad n cap (Ty.sz S e)) {N:Nat} {lo hh:Option (Sy.V S.C)} {gs:List Gd} {i j:Int}
 (hbd:bounds S N lo hh=some (gs,i,j)) (h0:0≤i) (h1:i≤j) (h2:j≤(l.length:Int)) (h3:j≤(cap:Int)):
 RV P S w s' μ bx (mw S k i j lo) (.slice (jK ad cap i.toNat (Ty.sz S e)) (j.toNat - i.toNat) (cap - i.toNat)):=by
 have hn: ∀ e' (l':List (e'.den S.C)),bx k=some (.arr e' l')→e'=e∧l'.length=l.length∧Ty.sz S e'=Ty.sz S e:=by
  intro e' l' h
  rw [hb] at h
  cases h
  exact ⟨rfl,rfl,rfl⟩
 cases lo with
 | none=>
  have :=Hw hbd
  subst this
  refine ⟨⟨_,_,_,rfl⟩,fun e' l' hb'=> ?_⟩
  obtain ⟨_,q2,q3⟩:=hn e' l' hb'
  rw [q2,q3]
  have hs:jK ad cap 0 (Ty.sz S e)=ad:=by
   unfold jK
   split
   · rfl
   · rw [ha.addr]
     split
     · rfl
     · simp [Addr.add_mid]
  refine ⟨h1,by omega,ad,cap, ?_,ha.addr,ha.dU,ha.cells,ha.isNil,by omega⟩
  rw [show (0:Int).toNat=0 from rfl,hs]; rfl
 | some u=>
  refine ⟨⟨_,_,_,rfl⟩,fun e' l' hb'=> ?_⟩
  obtain ⟨_,q2,q3⟩:=hn e' l' hb'
  rw [q2,q3]
  refine ⟨h0,by omega,by omega,_,_,by rw [show (j - i).toNat=j.toNat - i.toNat from by omega],by omega, ?_⟩
  by_cases hz:(j - i).toNat=0
  · exact .inl hz
  · refine .inr ?_
    have fB:(μ k).nil=false:=by
     cases hn:(μ k).nil with
     | false=>rfl
     | true=>have :=ha.isNil hn; have :=ha.dU; omega
    unfold jK
    rw [if_neg (by omega),ha.addr,fB]
    simp [Addr.add_mid]
theorem Nf (hP:aL P S af) (h:Inv P S w0 M0 s0 dq env a w μ) (hd: ∀ d,o.dst=some d→d<a.tmps.size) {t:TypeId} {x:Operand} {lo hi:Option Operand} {ids:List Nat} {vw:Bool} (ho:o.op= .slice t x lo hi none)
 (hl:(match S.ty t,aE S env.tm x,iK S env.tm lo,iK S env.tm hi with
  | some T,some v,some l,some h=>AY S vw T (restrict S env.bx ids) l h v
  | _,_,_,_=> .fail).leaf (V,us)) (hK:Goal P S w0 M0 s0 dq env a o.dst V us K):o.wp P a w K Q:=by
 split at hl
 · rename_i T v l hh ht hx hlo hhi
   obtain ⟨hv,cR⟩:=aW h hx
   have run: ∀ (e:Ty) (ad:Option Addr) (n cap i j:Nat),S.ty t=some (.sl e)→a.eval x= .slice ad n cap→(Instr.sliceBounds true n cap (lo.map a.eval) (hi.map a.eval) none).run P w= .ok (i,j,cap) w→
    (execOp a.eval o).run P w= .ok (.value (.slice (jK ad cap i (Ty.sz S e)) (j - i) (cap - i))) w:=by
    intro e ad n cap i j ht he hb
    unfold execOp
    simp only [ho,he]
    simp [MK hP ht hb]
   have data: ∀ (e:Ty) (s:List (e.den S.C)),bT S w (ay S w0 M0 s0 env.bx μ w) (.sl e) s (a.eval x)→(if T= .sl e then match bounds S s.length l hh with
    | some (gs,a,b)=>Tr.gd gs (ax S (.d (.sl e) (iT S s a b hh)) [])
    | none=> .fail else .fail:Rt S).leaf (V,us)→o.wp P a w K Q:=by
    intro e s hr hl1
    clear hl
    split at hl1
    · rename_i hT
      subst hT
      split at hl1
      · rename_i gs i j hb
        obtain ⟨hg,rfl,rfl⟩:=d_ hl1
        obtain ⟨ad,cap,he,hcap,_⟩:=ji hr
        obtain ⟨b1,b2,b3,b4,b5⟩:=nQ h hlo hhi hcap hb hg true
        rw [he] at hr
        refine wp_pure (V:= .d (.sl e) (iT S s i j hh)) h (run e ad _ cap _ _ ht he b1) hd ?_ (by simp [aq,ak]) hK
        show bT S w _ (.sl e) (iT S s i j hh) _
        rw [xE s b2 b3 b4 b5]
        exact A8 hr (by omega) (by omega)
      · exact hl1.elim
    · exact hl1.elim
   unfold AY at hl
   split at hl
   · rename_i s
     split at hl
     · rename_i hT
       subst hT
       split at hl
       · rename_i gs i j hb
         obtain ⟨hg,rfl,rfl⟩:=d_ hl
         have he:=nL hv
         obtain ⟨b1,b2,b3,b4,b5⟩:=nQ h hlo hhi (Nat.le_refl _) hb hg false
         have hu:P.underlying t=some .string:=(hP.ty t _ ht).2
         refine wp_pure (V:= .d .str (iT S s i j hh)) h (v:= .string ⟨((List.take j.toNat s).drop i.toNat).toArray⟩) ?_ hd ?_ (by simp [aq,ak]) hK
         · unfold execOp
           simp only [ho,he]
           rw [Sem.run_bind,show Option.map a.eval none=none from rfl,MM hu s b1]
           rfl
         · show bT S w _ .str (iT S s i j hh) _
           rw [xE s b2 b3 b4 b5]
           exact tQ ..
       · exact hl.elim
     · exact hl.elim
   · exact data _ _ hv hl
   · rename_i k e s
     split at hl
     · rename_i hT
       subst hT
       split at hl
       · rename_i gs i j hb
         obtain ⟨hg,rfl,rfl⟩:=d_ hl
         obtain ⟨ad,cap,he,hcap,_⟩:=ji hv.1
         obtain ⟨b1,b2,b3,b4,b5⟩:=nQ h hlo hhi hcap hb hg true
         have hr:=hv.1
         rw [he] at hr
         have hsub:=A8 hr (show i.toNat≤j.toNat by omega) (by omega)
         cases hh with
         | some ec=>
          refine wp_pure (V:= .d (.sl e) (cut s i j)) h (run e ad _ cap _ _ ht he b1) hd hsub (by simp [aq,ak]) hK
         | none=>
          have hj:=b5 rfl
          have C5:cutFrom s i=(s.take j.toNat).drop i.toNat:=by
           show s.drop i.toNat=_
           rw [hj,show ((s.length:Int)).toNat=s.length from by omega,List.take_length]
          refine wp_pure (V:= .aP k e (cutFrom s i)) h (run e ad _ cap _ _ ht he b1) hd ⟨by rw [C5]; exact hsub,fun hb'=> ?_⟩ (fun i hi=>cR i hi) hK
          have hlen:(cutFrom s i).length=j.toNat - i.toNat:=by rw [C5,List.length_drop,List.length_take]; omega
          obtain ⟨iS,cap',he',sH⟩:=hv.2 hb'
          rw [he] at he'
          cases he'
          refine ⟨_,_,by rw [hlen], ?_⟩
          rw [hlen]
          rcases sH with ⟨rfl,rfl,hn⟩ | ⟨b,o',rfl,t1,t2⟩
          · exact .inl ⟨by unfold jK; split <;> rfl,by omega,hn⟩
          · by_cases hc:cap=i.toNat
            · refine .inr ⟨b,o',by rw [jK,if_pos hc], ?_,fun hlt=>by omega⟩
              rw [t1]; congr 1; omega
            · refine .inr ⟨b,o'+i.toNat*Ty.sz S e,by rw [jK,if_neg hc]; simp [Addr.add_mid], ?_,fun hlt=> ?_⟩
              · rw [t1]; congr 1; omega
              · obtain ⟨t2,t3⟩:=t2 (by omega)
                refine ⟨t2, ?_⟩
                rw [t3]
                have :s.length*Ty.sz S e=i.toNat*Ty.sz S e+(j.toNat - i.toNat)*Ty.sz S e:=by rw [← Nat.add_mul]; congr 1; omega
                omega
       · exact hl.elim
     · exact hl.elim
   · rename_i k
     split at hl
     · rename_i e s hb
       have hb:=dD hb
       split at hl
       · rename_i hT
         subst hT
         split at hl
         · rename_i gs i j hbd
           cases vw with
           | true=>
            obtain ⟨hg,rfl,rfl⟩:=d_ hl
            obtain ⟨ad,cap,he,hao⟩:=hv.2 e s (.inl hb)
            obtain ⟨b1,b2,b3,b4,b5⟩:=nQ h hlo hhi hao.fits hbd hg true
            have hfit:=hao.fits
            refine wp_pure (V:=mw S k i j l) h (run e ad _ cap _ _ ht he b1) hd (Bb hb hao hbd b2 b3 b4 (by omega)) (fun q hq=> ?_) hK
            have :q=k:=by cases l <;> simpa [mw,aq,ak] using hq
            rw [this,hb]; simp
           | false=>
           have hl:(Tr.gd gs (ax S (.d (.sl e) (iT S s i j hh)) [(k, .bn e s)]):Rt S).leaf (V,us):=hl
           obtain ⟨hg,rfl,rfl⟩:=d_ hl
           have eS:Tk S env.bx (ah env.bx [(k, .bn e s)]):=Tk.Ba (by rw [hb]; exact .arr e s)
           obtain ⟨ad,cap,he,hao⟩:=hv.2 e s (.inl hb)
           obtain ⟨b1,b2,b3,b4,b5⟩:=nQ h hlo hhi hao.fits hbd hg true
           refine Oz (V:= .d (.sl e) (iT S s i j hh)) hP.tobY h (run e ad _ cap _ _ ht he b1) hd eS (fun hI=> ?_) (by simp [aq,ak]) hK
           have hr:=ye hP.tobY hI (Tk.refl S _) (aI env.bx k (some (.bn e s))) (bl.step P S (FQ eS) (fun i B0 bA=> ?_) (fun j hj=>cR j hj) hv)
           · rw [he] at hr
             show bT S w _ (.sl e) (iT S s i j hh) _
             rw [xE s b2 b3 b4 b5]
             have hr':bT S w (bC S w0 M0 s0 (ah env.bx [(k, .bn e s)]) (ah env.bx [(k, .bn e s)]) μ w) (.sl e) s (.slice ad s.length cap):=⟨rfl,hr⟩
             refine bT.mono S (fun b o ⟨h1,h2,h3⟩=>⟨⟨h1,h2,fun i hi=> ?_⟩,rfl⟩) (A8 hr' (show i.toNat≤j.toNat by omega) (by omega))
             rcases h3 i hi with ⟨e',l',hf⟩ | hf
             · unfold live at hi; rw [hf] at hi; exact hi.elim
             · exact hf
           · rcases eS i with e1 | ⟨e1,_⟩ | ⟨e',l',e1,e2⟩
             · exact ⟨B0,e1.trans bA,cg.refl S _ _⟩
             · exact ⟨_,e1,by cases B0 <;> rfl⟩
             · rw [bA] at e1; cases e1 <;> exact ⟨_,e2,rfl,rfl,rfl⟩
         · exact hl.elim
       · exact hl.elim
     · rename_i e s hb
       have hb:=dD hb
       refine data e s ?_ hl
       obtain ⟨n,hn⟩:=ye hP.tobY h (Tk.refl S _) hb hv
       obtain ⟨ad,cap,he,hao⟩:=hv.2 e s (.inr hb)
       rw [he] at hn ⊢
       refine ⟨rfl,n,hn.mono S (fun b o ⟨h1,h2,h3⟩=>⟨⟨h1,h2,fun i hi=> ?_⟩,rfl⟩) (Nat.le_refl _)⟩
       rcases h3 i hi with ⟨e',l',hf⟩ | hf
       · unfold live at hi; rw [hf] at hi; exact hi.elim
       · exact hf
     · exact hl.elim
   · rename_i k n
     split at hl
     · rename_i e s hb
       have hb:=dD hb
       obtain ⟨hn0,hnl,ad,cap,he,hao⟩:=hv.2 e s hb
       obtain ⟨g1,g2,g3,g4,g5⟩:=h.bw k _ hb
       have hcap:=hao.dU
       have hfit:=hao.fits
       have ids: ∀ i j, ∀ q ∈ aq S (mw S k i j l),env.bx q≠none:=fun i j q hq=>by
        have :q=k:=by cases l <;> simpa [mw,aq,ak] using hq
        rw [this,hb]; simp
       split at hl
       · rename_i hT
         subst hT
         cases hh with
         | none=>
          dsimp only at hl
          split at hl
          · rename_i gs i j hbd
            obtain ⟨hg,rfl,rfl⟩:=d_ hl
            obtain ⟨b1,b2,b3,b4,b5⟩:=nQ h hlo hhi hao.fits hbd hg true
            exact wp_pure (V:=mw S k i j l) h (run e ad _ cap _ _ ht he b1) hd (Bb hb hao hbd b2 b3 (by omega) (by omega)) (ids i j) hK
          · exact hl.elim
         | some u=>
          dsimp only at hl
          split at hl
          · rename_i gs i j hbd
            obtain ⟨hg,rfl,rfl⟩:=d_ hl
            obtain ⟨b1,b2,b3,b4,b5⟩:=nQ (cap:=cap) h hlo hhi (show s.length≤cap by omega) hbd hg true
            obtain ⟨hi',Jx⟩: ∃ y,hi=some y:=by
             cases hi with
             | none=>cases hhi
             | some y=>exact ⟨y,rfl⟩
            subst Jx
            have Hh:(Instr.sliceBounds true n.toNat cap (lo.map a.eval) ((some hi').map a.eval) none).run P w= .ok (i.toNat,j.toNat,cap) w:=b1
            exact wp_pure (V:=mw S k i j l) h (run e ad _ cap _ _ ht he Hh) hd (Bb hb hao hbd b2 b3 b4 (by omega)) (ids i j) hK
          · exact hl.elim
       · exact hl.elim
     · exact hl.elim
   · exact hl.elim
 · exact hl.elim
theorem KH (hP:aL P S af) (h:Inv P S w0 M0 s0 dq env a w μ) (hd: ∀ d,o.dst=some d→d<a.tmps.size) {c:Call} (ho:o.op= .call c) (hc:c.callee= .builtin .len) {args:List (Sy.V S.C)} {ids:List Nat}
 (hargs:c.args.toList.mapM (aE S env.tm)=some args)
 (hl:(match args,(c.argTypes[0]?).bind S.ty with
  | [v],some T=>zm S T (restrict S env.bx ids) v
  | _,_=> .fail).leaf (V,us)) (hK:Goal P S w0 M0 s0 dq env a o.dst V us K):o.wp P a w K Q:=by
 split at hl
 · rename_i v T CX
   obtain ⟨t,ht,hT⟩:=Option.bind_eq_some_iff.1 CX
   clear CX
   have hone: ∃ x,c.args= #[x]∧aE S env.tm x=some v:=by
    cases e:c.args.toList with
    | nil=>rw [e] at hargs; simp at hargs
    | cons x r=>
     rw [e] at hargs
     cases r with
     | nil=>
      refine ⟨x, ?_, ?_⟩
      · have :c.args=c.args.toList.toArray:=by simp
        rw [this,e]
      · simp at hargs
        cases hx:aE S env.tm x with
        | none=>rw [hx] at hargs; simp at hargs
        | some v'=>rw [hx] at hargs; simp at hargs; rw [hargs]
     | cons y r=>
      simp at hargs
      cases hx:aE S env.tm x with
      | none=>rw [hx] at hargs; simp at hargs
      | some v'=>
       rw [hx] at hargs
       cases hy:aE S env.tm y with
       | none=>rw [hy] at hargs; simp at hargs
       | some u'=>
        rw [hy] at hargs
        cases hr:List.mapM (aE S env.tm) r with
        | none=>rw [hr] at hargs; simp at hargs
        | some q=>rw [hr] at hargs; simp at hargs
   obtain ⟨x,hx,DG⟩:=hone
   have hv:=(aW h DG).1
   clear hargs DG
   have fin: ∀ (n:Nat),(Builtin.len_ c.argTypes o.type #[a.eval x]).run P w= .ok (goInt n) w→V= .d (.int .i64) (n:Int)→us= []→o.wp P a w K Q:=by
    rintro n hr rfl rfl
    refine wp_pure (V:= .d (.int .i64) (n:Int)) h (v:=goInt n) ?_ hd (iq ..) (by simp [aq,ak]) hK
    unfold execOp
    simp only [ho]
    simp [resolve,hc,hx,invoke,builtin,hr]
   have slc: ∀ (e:Ty) (n cap:Nat) (ad:Option Addr),T= .sl e→a.eval x= .slice ad n cap→(Builtin.len_ c.argTypes o.type #[a.eval x]).run P w= .ok (goInt n) w:=by
    rintro e n cap ad rfl he
    obtain ⟨te,ie,z,hu,_⟩:=hP.sl hT
    rw [he]
    simp [Builtin.len_,ht,run_underlying hu]
   unfold zm at hl
   split at hl
   · rename_i s
     split at hl
     · rename_i gm
       subst gm
       obtain ⟨e1,e2⟩:=bg hl
       refine fin _ ?_ e1 e2
       have hu:P.underlying t=some .string:=(hP.ty t _ hT).2
       rw [nL hv]
       simp only [Builtin.len_,ht]
       simp [run_underlying hu]
       exact congrArg (fun n:Nat=>goInt n) (size_mk s)
     · exact hl.elim
   · split at hl
     · rename_i e
       obtain ⟨e1,e2⟩:=bg hl
       exact fin 0 (slc e 0 0 none rfl hv) e1 e2
     · exact hl.elim
   · rename_i e l
     split at hl
     · rename_i gm
       obtain ⟨e1,e2⟩:=bg hl
       obtain ⟨ad,cap,he,_⟩:=ji hv
       exact fin _ (slc e _ cap ad gm he) e1 e2
     · exact hl.elim
   · rename_i k e l
     split at hl
     · rename_i gm
       obtain ⟨e1,e2⟩:=bg hl
       obtain ⟨ad,cap,he,_⟩:=ji hv.1
       exact fin _ (slc e _ cap ad gm he) e1 e2
     · exact hl.elim
   · rename_i k
     have own: ∀ (e:Ty) (l:List (e.den S.C)),(env.bx k=some (.arr e l)∨env.bx k=some (.bn e l))→(if T= .sl e then ax S (.d (.int .i64) (l.length:Int)) [] else .fail:Rt S).leaf (V,us)→o.wp P a w K Q:=by
      intro e l hb hl1
      split at hl1
      · rename_i gm
        obtain ⟨e1,e2⟩:=bg hl1
        obtain ⟨ad,cap,he,_⟩:=hv.2 e l hb
        exact fin _ (slc e _ cap ad gm he) e1 e2
      · exact hl1.elim
     split at hl
     · rename_i hb; exact own _ _ (.inl (dD hb)) hl
     · rename_i hb; exact own _ _ (.inr (dD hb)) hl
     · rename_i u l q hb
       have hb:=dD hb
       split at hl
       · rename_i gm
         obtain ⟨e1,e2⟩:=bg hl
         obtain ⟨ad,cap,he,_⟩:=hv.1.2 u l q hb
         exact fin _ (slc (.st u) _ cap ad gm he) e1 e2
       · exact hl.elim
     · exact hl.elim
   · rename_i b n
     split at hl
     · rename_i e l hb
       have hb:=dD hb
       split at hl
       · rename_i gm
         obtain ⟨e1,e2⟩:=bg hl
         obtain ⟨hn0,hnl,ad,cap,he,_⟩:=hv.2 e l hb
         refine fin _ (slc e _ cap ad gm he) ?_ e2
         rw [e1,show ((n.toNat:Nat):Int)=n from by omega]
       · exact hl.elim
     · exact hl.elim
   · exact hl.elim
 · exact hl.elim
theorem ML (hP:aL P S af) {t:Nat} {e:Ty} (ht:S.ty t=some (.sl e)) {ad:Option Addr} {n cap:Nat} {k1 k2 k3:IntKind} {i j m:Int} (h0:0≤i) (h1:i≤j) (h2:j≤m) (h3:m≤(cap:Int)):
 ∃ v,(Instr.sliceAt t (.slice ad n cap) (some (.int k1 i)) (some (.int k2 j)) (some (.int k3 m))).run P w= .ok v w:=by
 obtain ⟨te,ie,z,hu,he,_⟩:=hP.sl ht
 refine ⟨.slice (if m.toNat=i.toNat then ad else ad.map (·.add (i.toNat*Ty.sz S e))) (j.toNat - i.toNat) (m.toNat - i.toNat), ?_⟩
 simp [Instr.sliceAt,Instr.slice,run_underlying hu,Instr.sliceBounds,oM (P:=P) _ (show 0≤m by omega) h3,oM (P:=P) (i:=j) (y:=m.toNat) _ (by omega) (by omega),oM (P:=P) (i:=i) (y:=j.toNat) _ (by omega) (by omega),hP.size he]
theorem Nd (hP:aL P S af) (h:Inv P S w0 M0 s0 dq env a w μ) (hd: ∀ d,o.dst=some d→d<a.tmps.size) {t:TypeId} {x lo hi mx:Operand} {ids:List Nat} (ho:o.op= .slice t x (some lo) (some hi) (some mx))
 (hl:(match S.ty t,aE S env.tm x,aE S env.tm lo,aE S env.tm hi,aE S env.tm mx with
  | some T,some v,some l,some h,some m=>AX S T (restrict S env.bx ids) l h m v
  | _,_,_,_,_=> .fail).leaf (V,us)) (hK:Goal P S w0 M0 s0 dq env a o.dst V us K):o.wp P a w K Q:=by
 split at hl
 · rename_i T v l hh m ht hx hlo hhi JN
   obtain ⟨hv,cR⟩:=aW h hx
   unfold AX at hl
   split at hl
   · rename_i k
     split at hl
     · rename_i e s hb
       have hb:=dD hb
       split at hl
       · rename_i hT
         subst hT
         split at hl
         · rename_i i j c e1 e2 e3
           obtain ⟨hg,rfl,rfl⟩:=d_ hl
           have g0:0≤i:=hg ⟨0≤i,inferInstance⟩ (by simp [gd])
           have g1:i≤j:=hg ⟨i≤j,inferInstance⟩ (by simp [gd])
           have g2:j≤c:=hg ⟨j≤c,inferInstance⟩ (by simp [gd])
           have g3:c≤(s.length:Int):=hg ⟨c≤(s.length:Int),inferInstance⟩ (by simp [gd])
           obtain ⟨ad,cap,he,hao⟩:=hv.2 e s (.inl hb)
           have hfit:=hao.fits
           obtain ⟨k1,q1⟩:=ov (aW h hlo).1 e1
           obtain ⟨k2,q2⟩:=ov (aW h hhi).1 e2
           obtain ⟨k3,q3⟩:=ov (aW h JN).1 e3
           obtain ⟨r,hr⟩:=ML (P:=P) (w:=w) hP ht (ad:=ad) (n:=s.length) (cap:=cap) (k1:=k1) (k2:=k2) (k3:=k3) g0 g1 g2 (by omega)
           refine wp_pure (V:= .undef) h (v:=r) ?_ hd trivial (by simp [aq,ak]) hK
           unfold execOp
           simp only [ho,he,Option.map,q1,q2,q3]
           simp [hr]
         · exact hl.elim
       · exact hl.elim
     · exact hl.elim
   · exact hl.elim
 · exact hl.elim
end
end Go.Sy
namespace Go.Sy
section
variable {P:Program} {S:aK} {af:Nat→Nat}
variable {w0:World} {M0 s0:St} {dq:List Deferred} {env:Env S.C} {a:Act} {w:World} {μ:Nat→Loc} {K:Act→World→Prop} {Q:Exit→Act→World→Prop} {o:Oper} {V:V S.C} {us:aA S.C}
theorem aB.map {w w':World} {s s':St} {μ μ':Nat→Loc} {bx aa:Bx S.C} (h: ∀ V v,bl P S w s μ bx V v→(∀ j ∈ ak S V,bx j≠none)→bl P S w' s' μ' aa V v):
 ∀ {vs:List (Sy.V S.C)} {cs:List Value},(∀ v ∈ vs, ∀ j ∈ ak S v,bx j≠none)→aB P S w s μ bx vs cs→aB P S w' s' μ' aa vs cs
 | [],_,_,h'=>h'
 | v::vs,_,hr,⟨c,r,h1,h2,h3⟩=>⟨c,r,h1,h _ _ h2 (hr v (by simp)),aB.map h (fun v hv=>hr v (by simp [hv])) h3⟩
theorem Kl {v:Value} (h:isAgg v=false):v.cells.toList= [v]:=av.jV (t:= .bool) h rfl
theorem FL {s:St} {bx:Bx S.C} {V:Sy.V S.C} {v:Value} (hs:bG S V=true) (h:bl P S w s μ bx V v):isAgg v=false∧v.oneCell'=true:=by
 cases V with
 | d t x=>
  obtain ⟨ha,n,hn⟩:=h
  cases t with
  | st u=>simp [bG] at hs
  | int k=>rw [mH (w:=w) (s:=s) ⟨ha,n,hn⟩]; exact ⟨rfl,rfl⟩
  | bool=>rw [nK (w:=w) (s:=s) ⟨ha,n,hn⟩]; exact ⟨rfl,rfl⟩
  | str=>rw [nL (w:=w) (s:=s) ⟨ha,n,hn⟩]; exact ⟨rfl,rfl⟩
  | pt=>
   cases n with
   | zero=>exact hn.elim
   | succ n=>
    have hn:v.cells.toList= [.pointer none]:=hn
    rw [av.jV (t:= .pt) ha rfl] at hn
    cases hn
    exact ⟨rfl,rfl⟩
  | sl e=>obtain ⟨a,cap,he,_⟩:=ji (w:=w) (s:=s) ⟨ha,n,hn⟩; rw [he]; exact ⟨rfl,rfl⟩
 | pr p i=>cases h; exact ⟨rfl,rfl⟩
 | aP b e l=>obtain ⟨a,cap,he,_⟩:=ji h.1; rw [he]; exact ⟨rfl,rfl⟩
 | az b=>obtain ⟨⟨⟨a,n,c,rfl⟩,_⟩,_⟩:=h; exact ⟨rfl,rfl⟩
 | ptr b off=>cases h; exact ⟨rfl,rfl⟩
 | cG b i off=>obtain ⟨⟨⟨p,rfl⟩,_⟩,_⟩:=h; exact ⟨rfl,rfl⟩
 | cH t x=>obtain ⟨b,o',ds,rfl,_⟩:=h; exact ⟨rfl,rfl⟩
 | nil=>cases h; exact ⟨rfl,rfl⟩
 | b8=>cases h; exact ⟨rfl,rfl⟩
 | fv A R g=>obtain ⟨f,first,cap,rfl,_⟩:=h; exact ⟨rfl,rfl⟩
 | undef=>simp [bG] at hs
 | skip=>simp [bG] at hs
 | pre b n=>simp [bG] at hs
 | win b i n=>simp [bG] at hs
 | cj b n=>simp [bG] at hs
 | split b c=>simp [bG] at hs
 | i_ c=>simp [bG] at hs
 | err b=>simp [bG] at hs
 | fe f vs=>simp [bG] at hs
 | agg u vs=>simp [bG] at hs
 | gG vs=>simp [bG] at hs
theorem qP {s:St} {bx:Bx S.C} : ∀ {vs:List (Sy.V S.C)} {cs:List Value},vs.all (bG S)=true→aB P S w s μ bx vs cs→ ∀ c ∈ cs,c.oneCell'=true
 | [],_,_,h,c,hc=>by cases h; simp at hc
 | V::vs,_,hs,⟨c,r,h1,h2,h3⟩,d,hd=>by
  subst h1
  simp only [List.all_cons,Bool.and_eq_true] at hs
  rcases List.mem_cons.1 hd with rfl | hd
  · exact (FL hs.1 h2).2
  · exact qP hs.2 h3 d hd
theorem xk (hS:bY S) {s:St} {bx:Bx S.C} {V:Sy.V S.C} {v:Value} (hs:(cellsOf S V).all (bG S)=true) (h:RV P S w s μ bx V v):
 aB P S w s μ bx (cellsOf S V) v.cells.toList∧ ∀ u ∈ cellsOf S V, ∀ j ∈ ak S u,j ∈ aq S V:=by
 have one: ∀ (W:Sy.V S.C),V=W→cellsOf S V= [W]→bl P S w s μ bx W v→(∀ j ∈ ak S W,j ∈ aq S V)→aB P S w s μ bx (cellsOf S V) v.cells.toList∧ ∀ u ∈ cellsOf S V, ∀ j ∈ ak S u,j ∈ aq S V:=by
  intro W hW he h1 h2
  rw [he] at hs
  simp only [List.all_cons,Bool.and_eq_true] at hs
  refine ⟨?_,fun u hu j hj=> ?_⟩
  · rw [he,Kl (FL hs.1 h1).1]
    exact ⟨v,[],rfl,h1,rfl⟩
  · rw [he] at hu
    simp at hu
    subst hu
    exact h2 j hj
 cases V with
 | d t x=>
  obtain ⟨ha,n,hn⟩:=h
  obtain ⟨h1,h2,h3⟩:=kM (P:=P) hS μ bx hn
  exact ⟨h1,fun u hu j hj=>by rw [h3 u hu] at hj; simp at hj⟩
 | agg u vs=>
  obtain ⟨cs,rfl,_,_,hvs⟩:=h
  exact ⟨hvs,fun v hv j hj=>by simp only [aq,List.mem_flatMap]; exact ⟨v,hv,hj⟩⟩
 | gG vs=>simp [cellsOf,bG] at hs
 | fe f vs=>simp [cellsOf,bG] at hs
 | undef=>simp [cellsOf,bG] at hs
 | skip=>simp [cellsOf,bG] at hs
 | pr p i=>exact one _ rfl rfl h (fun j hj=>hj)
 | aP b e l=>exact one _ rfl rfl h (fun j hj=>hj)
 | az b=>exact one _ rfl rfl h (fun j hj=>hj)
 | pre b n=>simp [cellsOf,bG] at hs
 | win b i n=>simp [cellsOf,bG] at hs
 | cj b n=>simp [cellsOf,bG] at hs
 | split b c=>simp [cellsOf,bG] at hs
 | i_ c=>simp [cellsOf,bG] at hs
 | err b=>simp [cellsOf,bG] at hs
 | ptr b off=>exact one _ rfl rfl h (fun j hj=>hj)
 | cG b i off=>exact one _ rfl rfl h (fun j hj=>hj)
 | cH t x=>exact one _ rfl rfl h (fun j hj=>hj)
 | nil=>exact one _ rfl rfl h (fun j hj=>hj)
 | b8=>exact one _ rfl rfl h (fun j hj=>hj)
 | fv A R g=>exact one _ rfl rfl h (fun j hj=>hj)
theorem xX {vs:List (Sy.V S.C)} {n:Nat} (h:fits S vs n=true):vs.length=n∧vs.all (bG S)=true:=by
 unfold fits at h
 rw [Bool.and_eq_true] at h
 exact ⟨Nat.eq_of_beq_eq_true h.1,h.2⟩
theorem k6 {w:World} {cs:Array Value} {t:TypeId} :(w.alloc (.cells cs t)).there w.heap.size 0 cs.size∧(w.alloc (.cells cs t)).rangeAt w.heap.size 0 cs.toList:=by
 refine ⟨fun j hj=> ?_,fun j v hv=> ?_⟩
 · rw [Nat.zero_add]
   simp [hj]
 · rw [Nat.zero_add]
   simpa using hv
theorem Gl (hP:aL P S af) (h:Inv P S w0 M0 s0 dq env a w μ) (hd: ∀ d,o.dst=some d→d<a.tmps.size) {B:Nat} {t:TypeId} {cells:Array Value} {vs:List (Sy.V S.C)}
 (hrun:(execOp a.eval o).run P w= .ok (.value (.pointer (some ⟨w.heap.size,0,none⟩))) (w.alloc (.cells cells t))) (hB:env.bx B=none)
 (hs:vs.all (bG S)=true) (hv:aB P S w (ay S w0 M0 s0 env.bx μ w) μ env.bx vs cells.toList) (hr: ∀ v ∈ vs, ∀ j ∈ ak S v,env.bx j≠none)
 (hK:Goal P S w0 M0 s0 dq env a o.dst (.ptr B 0) [(B, .cells vs)] K):o.wp P a w K Q:=by
 have hlen:=aB.length P S hv
 refine nD (i:=B) (B:= .cells vs) (V:= .ptr B 0) (L:=⟨w.heap.size,0,vs.length,0,false,fun _ _=>False⟩) h hrun hd (aO.alloc w _ _) hB (fun b o' hf=>Nat.le_of_eq hf.1.symm) (fun _ _ h3=>⟨⟨hs,rfl, ?_,cells.toList,k6.2, ?_⟩, ?_⟩)
  (fun vs' hvs v hv j hj=> ?_) (fun j hj=> .inl (by simpa [aq,ak] using hj)) hK
 · have :=(k6 (w:=w) (cs:=cells) (t:=t)).1
   rw [show cells.size=vs.length from by rw [← hlen]; simp] at this
   exact this
 · exact aB.map h3 hr hv
 · show Value.pointer _=_
   rw [aI]
 · rcases hvs with hvs | hvs
   · cases hvs; exact hr v hv j hj
   · cases hvs
theorem Oy (hP:aL P S af) (h:Inv P S w0 M0 s0 dq env a w μ) (hd: ∀ d,o.dst=some d→d<a.tmps.size) {B c:Nat} {t:TypeId} {cells:Array Value} {vs:List (Sy.V S.C)}
 (hrun:(execOp a.eval o).run P w= .ok (.value (.pointer (some ⟨w.heap.size,0,none⟩))) (w.alloc (.cells cells t))) (hB:env.bx B=none)
 (hs:(Sy.V.ptr c 0::vs).all (bG S)=true) (hv:aB P S w (ay S w0 M0 s0 env.bx μ w) μ env.bx (.ptr c 0::vs) cells.toList) (hr: ∀ v ∈ Sy.V.ptr c 0::vs, ∀ j ∈ ak S v,env.bx j≠none)
 (hK:Goal P S w0 M0 s0 dq env a o.dst (.split B c) [(B, .cells vs)] K):o.wp P a w K Q:=by
 obtain ⟨u,r,hcs,hu,hv⟩:=hv
 have hlen:=aB.length P S hv
 have hc0:env.bx c≠none:=hr (.ptr c 0) (by simp) c (by simp [ak])
 have Jf:c≠B:=fun e=>hc0 (e▸hB)
 have hu:u= .pointer (some ⟨(μ c).b,(μ c).o,none⟩):=hu
 have hsz:cells.size=vs.length+1:=by rw [← Array.length_toList,hcs,List.length_cons,hlen]
 simp only [List.all_cons,Bool.and_eq_true] at hs
 refine nD (i:=B) (B:= .cells vs) (V:= .split B c) (L:=⟨w.heap.size,1,vs.length,0,false,fun _ _=>False⟩) h hrun hd (aO.alloc w _ _) hB (fun b o' hf=>Nat.le_of_eq hf.1.symm) (fun _ _ h3=>⟨⟨hs.2,rfl, ?_,r, ?_, ?_⟩, ?_⟩)
  (fun vs' hvs v hv j hj=> ?_) (fun j hj=> ?_) hK
 · intro j hj
   have :=(k6 (w:=w) (cs:=cells) (t:=t)).1 (1+j) (by have :j<vs.length:=hj; omega)
   rw [Nat.zero_add] at this
   exact this
 · intro j v hj
   have :=(k6 (w:=w) (cs:=cells) (t:=t)).2 (1+j) v (by rw [hcs,Nat.add_comm]; simpa using hj)
   rw [Nat.zero_add] at this
   exact this
 · exact aB.map h3 (fun v hv=>hr v (by simp [hv])) hv
 · refine ⟨w.heap.size,0,rfl,fun j v hj=> ?_,by rw [aI],by rw [aI]⟩
   have hj0:j=0∧v= .pointer (some ⟨(ai μ B ⟨w.heap.size,1,vs.length,0,false,fun _ _=>False⟩ c).b,(ai μ B ⟨w.heap.size,1,vs.length,0,false,fun _ _=>False⟩ c).o,none⟩):=by
    cases j with
    | zero=>exact ⟨rfl,by simpa using hj.symm⟩
    | succ j=>simp at hj
   obtain ⟨rfl,rfl⟩:=hj0
   rw [aY _ _ Jf]
   refine ⟨?_,by simp, .inr (.inr h.gL.size),fun i hi hf=> ?_⟩
   · have :=(k6 (w:=w) (cs:=cells) (t:=t)).2 0 u (by rw [hcs]; rfl)
     rw [Nat.zero_add] at this
     rw [← hu]
     exact this
   · by_cases e:i=B
     · subst e
       rw [aI] at hf
       have h1:1≤0+0:=(Loc.ia (fun _ _ h=>h) hf).2.1
       omega
     · have hl:=(dA S (show ai env.bx B (some (.cells vs)) i=env.bx i from aY _ _ e)).1 hi
       rw [aY _ _ e] at hf
       have :=(ju P S (h.bw i) (h.ext i hl) hl hf).1
       omega
 · rcases hvs with hvs | hvs
   · cases hvs; exact hr v (by simp [hv]) j hj
   · cases hvs
 · have hj:j ∈ [B,c]:=hj
   simp only [List.mem_cons,List.not_mem_nil,or_false] at hj
   rcases hj with rfl | rfl
   · exact .inl rfl
   · exact .inr hc0
theorem pn {s:St} {bx:Bx S.C} : ∀ (ts:List Ty),ts.all (fun t=> !aZ t)=true→aB P S w s μ bx (ts.map (zeroCell S)) (ts.map qU)∧(ts.map (zeroCell S)).all (bG S)=true∧ ∀ v ∈ ts.map (zeroCell S),ak S v= []
 | [],_=>⟨rfl,rfl,by simp⟩
 | t::ts,h=>by
  simp only [List.all_cons,Bool.and_eq_true,Bool.not_eq_true'] at h
  obtain ⟨h1,h2,h3⟩:=pn ts h.2
  refine ⟨⟨_,_,rfl, ?_,h1⟩, ?_, ?_⟩
  · cases t with
    | int k=>exact iq ..
    | bool=>exact lN ..
    | str=>exact tQ ..
    | pt=>rfl
    | sl e=>rfl
    | st u=>simp [aZ] at h
  · simp only [List.map_cons,List.all_cons,Bool.and_eq_true]
    exact ⟨by cases t <;> first | rfl | simp [aZ] at h,h2⟩
  · intro v hv
    simp only [List.map_cons,List.mem_cons] at hv
    rcases hv with rfl | hv
    · cases t <;> rfl
    · exact h3 v hv
theorem Gz (hS:bY S) {s:St} {bx:Bx S.C} (T:Ty):aB P S w s μ bx (zeroCells S T) (pq S T)∧(zeroCells S T).all (bG S)=true∧ ∀ v ∈ zeroCells S T,ak S v= []:=by
 cases T with
 | st u=>exact pn (S.F u) (hS.flat u)
 | int k=>exact pn [.int k] rfl
 | bool=>exact pn [.bool] rfl
 | str=>exact pn [.str] rfl
 | pt=>exact pn [.pt] rfl
 | sl e=>exact pn [.sl e] rfl
theorem Hr (hP:aL P S af) (h:Inv P S w0 M0 s0 dq env a w μ) (hd: ∀ d,o.dst=some d→d<a.tmps.size) {B:Nat} {t:TypeId} (ho:o.op= .alloc t)
 (hnew: ∀ u ∈ ([(B+1, .buf []),(B, .aQ (B+1))]:aA S.C),B≤u.1→u.1<B+16→env.bx u.1=none) (hb:sS S t=true)
 (hK:Goal P S w0 M0 s0 dq env a o.dst (.ptr B 0) [(B+1, .buf []),(B, .aQ (B+1))] K):o.wp P a w K Q:=by
 obtain ⟨T,e,dw,rfl⟩: ∃ T e,S.bt=some (T,e)∧t=T:=by
  unfold sS at hb
  split at hb
  · rename_i u hu
    exact ⟨u.1,u.2,hu,(Nat.eq_of_beq_eq_true hb).symm⟩
  · cases hb
 obtain ⟨_,i,z,h1,h2,h3⟩:=hP.bt _ dw
 have n1:=hnew (B+1, .buf []) (by simp) (by show B≤B+1; omega) (by show B+1<B+16; omega)
 have n0:=hnew (B, .aQ (B+1)) (by simp) (Nat.le_refl _) (by show B<B+16; omega)
 have hrow:kD S w ⟨0,0,0,0,true,fun _ _=>False⟩ []:=⟨rfl,rfl,fun _=>rfl,_,_,dw,World.ownsRowF_nil ..⟩
 obtain ⟨hI,_,_⟩:=h.zy (aO.refl w _) n1 (B:= .buf []) (L:=⟨0,0,0,0,true,fun _ _=>False⟩) (fun b o' hf=>by have h1:o'<0+0:=hf.2.2; omega) (fun _ _ _=>hrow) (fun vs hvs=>by rcases hvs with hvs | hvs <;> cases hvs) (fun _ _ h=>h)
 have hne: ∀ (i:Nat) (B0:Option (b7 S.C)),i=B→ai env.bx (B+1) (some (.buf [])) i=env.bx i:=fun i _ e=>aY _ _ (by omega)
 refine nD (env:= { env with bx:=ai env.bx (B+1) (some (.buf [])) }) (i:=B) (B:= .aQ (B+1)) (V:= .ptr B 0) (v:= .pointer (some ⟨w.heap.size,0,none⟩)) (w':=w.alloc (.cells #[.pointer none, .slice none 0 0] t)) (L:=⟨w.heap.size,0,2,0,false,fun _ _=>False⟩) hI ?_ hd (aO.alloc w _ _) ((hne B none rfl).trans n0) (fun b o' hf=>Nat.le_of_eq hf.1.symm)
  (fun _ _ _=>⟨⟨rfl,rfl, ?_, .slice none 0 0,⟨t,e, .pointer none,dw,(by show (w.heap.push _)[w.heap.size]? =some _; simp), .inl rfl⟩,fun l hl=> ?_⟩, ?_⟩) (fun vs hvs=>by rcases hvs with hvs | hvs <;> cases hvs) (fun j hj=> .inl (by simpa [aq,ak] using hj)) hK
 · unfold execOp
   simp only [ho]
   simp [Instr.alloc,zeroValue,typeInfo,h1,h2,h3,newVar,newRow]
 · rw [aY _ _ (show B+1≠B by omega)]
   show ai env.bx (B+1) (some (.buf [])) (B+1)≠none
   rw [aI]; simp
 · rw [aY _ _ (show B+1≠B by omega)] at hl
   have hl:ai env.bx (B+1) (some (.buf [])) (B+1)=some (.buf l):=hl
   rw [aI] at hl
   cases hl
   rw [aY _ _ (show B+1≠B by omega),aI]
   rfl
 · show Value.pointer _=_
   rw [aI]
theorem GZ (hP:aL P S af) (h:Inv P S w0 M0 s0 dq env a w μ) (hd: ∀ d,o.dst=some d→d<a.tmps.size) {B:Nat} {t:TypeId} (ho:o.op= .alloc t)
 (hnew: ∀ u ∈ us,B≤u.1→u.1<B+16→env.bx u.1=none)
 (hl:(match S.ty t with
  | some u=>ax S (.ptr B 0) [(B, .cells (zeroCells S u))]
  | none=>cond (sS S t) (ax S (.ptr B 0) [(B+1, .buf []),(B, .aQ (B+1))]) .fail).leaf (V,us)) (hK:Goal P S w0 M0 s0 dq env a o.dst V us K):o.wp P a w K Q:=by
 split at hl
 · rename_i T ht
   obtain ⟨rfl,rfl⟩:=bg hl
   obtain ⟨⟨i,z,h1,h2,h3,h4,h5⟩,_⟩:=hP.ty t T ht
   obtain ⟨z1,z2,z3⟩:=Gz (P:=P) (w:=w) (μ:=μ) hP.tobY (s:=ay S w0 M0 s0 env.bx μ w) (bx:=env.bx) T
   refine Gl hP h hd (cells:=z.cells) (t:=t) ?_ (hnew (B, .cells (zeroCells S T)) (List.mem_singleton.2 rfl) (Nat.le_refl _) (by show B<B+16; omega)) z2 (by rw [h5]; exact z1) (fun v hv j hj=>by rw [z3 v hv] at hj; simp at hj) hK
   unfold execOp
   simp only [ho]
   simp [Instr.alloc,zeroValue,typeInfo,h1,h3,newVar,newRow]
 · cases hb:sS S t with
   | false=>rw [hb] at hl; exact hl.elim
   | true=>
    rw [hb] at hl
    obtain ⟨rfl,rfl⟩:=bg hl
    exact Hr hP h hd ho hnew hb hK
theorem Hy (hP:aL P S af) (h:Inv P S w0 M0 s0 dq env a w μ) (hd: ∀ d,o.dst=some d→d<a.tmps.size) {B:Nat} {t:TypeId} {x:Operand} (ho:o.op= .box t x)
 (hnew: ∀ u ∈ us,B≤u.1→u.1<B+16→env.bx u.1=none)
 (hl:(match S.ty t,aE S env.tm x with
  | some u,some v=>cond (fits S (cellsOf S v) (Ty.sz S u)) (match S.sp t with
   | false=>ax S (.ptr (B) 0) [(B, .cells (cellsOf S v))]
   | true=>match cellsOf S v with
    | .ptr c 0::vs=>ax S (.split B c) [(B, .cells vs)]
    | _=> .fail) .fail
  | _,_=> .fail).leaf (V,us)) (hK:Goal P S w0 M0 s0 dq env a o.dst V us K):o.wp P a w K Q:=by
 split at hl
 · rename_i T v ht hx
   cases hf:fits S (cellsOf S v) (Ty.sz S T) with
   | false=>rw [hf] at hl; exact hl.elim
   | true=>
    rw [hf,cond_true] at hl
    obtain ⟨f1,f2⟩:=xX hf
    obtain ⟨hv,cR⟩:=aW h hx
    obtain ⟨c1,c2⟩:=xk hP.tobY f2 hv
    split at hl
    rotate_left
    · split at hl
      · rename_i c vs hcs
        obtain ⟨rfl,rfl⟩:=bg hl
        rw [hcs] at f2 c1 c2
        refine Oy hP h hd (cells:=(a.eval x).cells) (t:=t) ?_ (hnew (B, .cells vs) (List.mem_singleton.2 rfl) (Nat.le_refl _) (by show B<B+16; omega)) f2 c1 (fun v hv j hj=>cR j (c2 v hv j hj)) hK
        unfold execOp
        simp only [ho]
        simp [Instr.box,newVar,newRow]
      · exact hl.elim
    obtain ⟨rfl,rfl⟩:=bg hl
    refine Gl hP h hd (cells:=(a.eval x).cells) (t:=t) ?_ (hnew (B, .cells (cellsOf S v)) (List.mem_singleton.2 rfl) (Nat.le_refl _) (by show B<B+16; omega)) f2 c1 (fun v hv j hj=>cR j (c2 v hv j hj)) hK
    unfold execOp
    simp only [ho]
    simp [Instr.box,newVar,newRow]
 · exact hl.elim
end
end Go.Sy
namespace Go.Sy
theorem mW {w:World} {b o b' o':Nat} {cs vals:List Value} (h:w.rangeAt b' o' cs) (hd:b'≠b∨o'+cs.length≤o∨o+vals.length≤o'):(w.setCells b o vals).rangeAt b' o' cs:=fun j v hj=>by
 have hjl:=(List.getElem?_eq_some_iff.1 hj).1
 rw [World.cell?_setCells_out b vals o w ⟨b',o'+j,none⟩ fun hb _=>by
  have hb:b'=b:=hb
  show o'+j<o∨o+vals.length≤o'+j
  rcases hd with hd | hd | hd
  · exact absurd hb hd
  · omega
  · omega]
 exact h j v hj
theorem EE {w:World} {b o:Nat} {cs vals:List Value} (h:w.rangeAt b o cs) (k:Nat) (hk:k+vals.length≤cs.length):(w.setCells b (o+k) vals).rangeAt b o (cs.take k++vals++cs.drop (k+vals.length)):=fun j v hj=>by
 have hin:=World.cell?_setCells_in b vals (o+k) w (fun i hi=>by
  have :(cs[k+i]?).isSome=true:=by rw [List.getElem?_eq_getElem (by omega)]; rfl
  obtain ⟨u,hu⟩:=Option.isSome_iff_exists.1 this
  rw [Nat.add_assoc,h _ _ hu]; rfl)
 by_cases h1:j<k
 · rw [List.append_assoc,List.getElem?_append_left (by simp; omega),List.getElem?_take,if_pos h1] at hj
   rw [World.cell?_setCells_out b vals (o+k) w ⟨b,o+j,none⟩ fun _ _=> .inl (by show o+j<o+k; omega)]
   exact h j v hj
 · by_cases h2:j<k+vals.length
   · rw [List.append_assoc,List.getElem?_append_right (by simp; omega),List.getElem?_append_left (by simp; omega)] at hj
     have hlen:(List.take k cs).length=k:=by simp; omega
     rw [hlen] at hj
     have :=hin (j - k) (by omega)
     rw [show o+k+(j - k)=o+j from by omega] at this
     rw [this, ← hj,List.getElem?_eq_getElem]
   · rw [List.append_assoc,List.getElem?_append_right (by simp; omega),List.getElem?_append_right (by simp; omega),List.getElem?_drop] at hj
     have hlen:(List.take k cs).length=k:=by simp; omega
     rw [hlen] at hj
     rw [World.cell?_setCells_out b vals (o+k) w ⟨b,o+j,none⟩ fun _ _=> .inr (by show o+k+vals.length≤o+j; omega)]
     rw [show k+vals.length+(j - k - vals.length)=j from by omega] at hj
     exact h j v hj
theorem ql {w:World} {b o:Nat} {vals:List Value} (ht:w.there b o vals.length):(w.setCells b o vals).rangeAt b o vals:=fun j v hj=>by
 have hjl:=(List.getElem?_eq_some_iff.1 hj).1
 rw [World.cell?_setCells_in b vals o w (fun i hi=>(ht i hi).1) j hjl, ← hj,List.getElem?_eq_getElem]
theorem nw {w:World} {b o n b' o':Nat} {vals:List Value} (h:w.there b o n) (hs:w.there b' o' vals.length):(w.setCells b' o' vals).there b o n:=fun j hj=>by
 have hc:=aO.setCells w b' o' vals hs
 have hlt:b<w.heap.size:=by
  obtain ⟨v,hv⟩:=Option.isSome_iff_exists.1 (h j hj).1
  exact World.block_lt_of_cell? w _ hv
 exact ⟨hc.some _ _ hlt (h j hj).1,(World.frozen?_setCells ..).trans (h j hj).2⟩
section
variable {P:Program} {S:aK} {af:Nat→Nat}
variable {w0:World} {M0 s0:St} {dq:List Deferred} {env:Env S.C} {a:Act} {w:World} {μ:Nat→Loc} {K:Act→World→Prop} {Q:Exit→Act→World→Prop} {o:Oper} {V:V S.C} {us:aA S.C}
theorem KP {s:St} {bx:Bx S.C} {i:Nat} {L:Loc} {B:b7 S.C} (hb:bx i=some B) (hl:live S bx i) (hB: ∀ l,B≠ .buf l) (h:RB P S w s μ bx L B):w.there L.b L.o L.n:=by
 unfold live at hl
 rw [hb] at hl
 cases B with
 | cells vs=>exact h.2.2.1
 | arr e l=>exact h.2.2.2.1
 | aF u l q=>exact h.2.2.2.1
 | tail=>exact h
 | bH vs=>exact hl.elim
 | bn e l=>exact hl.elim
 | dead=>exact hl.elim
 | aQ j=>
  obtain ⟨h1,h2,_,v,⟨T,e,p,_,h3,_⟩,_⟩:=h
  intro k hk
  rw [h1,h2] at *
  rw [Lib.cell_of_heap h3,Lib.frozen_of_heap h3]
  refine ⟨by simp; omega,rfl⟩
 | buf l=>exact absurd rfl (hB l)
theorem Inv.write (h:Inv P S w0 M0 s0 dq env a w μ) {i:Nat} {B0 B':b7 S.C} (hi:env.bx i=some B0) (hl0:live S env.bx i) (IW: ∀ l,B0≠ .buf l) {o':Nat} {vals:List Value}
 (h1:(μ i).o≤o') (h2:o'+vals.length≤(μ i).o+(μ i).n) (hc:cg S (μ i) (μ i) B0 B')
 (hb:aV w (ay S w0 M0 s0 env.bx μ w) (w.setCells (μ i).b o' vals) (ay S w0 M0 s0 (ai env.bx i (some B')) μ (w.setCells (μ i).b o' vals))→
  (∀ V v,bl P S w (ay S w0 M0 s0 env.bx μ w) μ env.bx V v→(∀ j ∈ ak S V,env.bx j≠none)→
   bl P S (w.setCells (μ i).b o' vals) (ay S w0 M0 s0 (ai env.bx i (some B')) μ (w.setCells (μ i).b o' vals)) μ (ai env.bx i (some B')) V v)→
  RB P S (w.setCells (μ i).b o' vals) (ay S w0 M0 s0 (ai env.bx i (some B')) μ (w.setCells (μ i).b o' vals)) μ (ai env.bx i (some B')) (μ i) B')
 (hr: ∀ vs,(B'= .cells vs∨B'= .bH vs)→ ∀ v ∈ vs, ∀ j ∈ ak S v,env.bx j≠none):
 Inv P S w0 M0 s0 dq { env with bx:=ai env.bx i (some B') } a (w.setCells (μ i).b o' vals) μ:=by
 have p8:=jM (KP hi hl0 IW (h.bw i B0 hi)) h1 h2
 have hU: ∀ j, ¬ j=i→ai env.bx i (some B') j=env.bx j∧μ j=μ j:=fun j hj=>⟨aY _ _ hj,rfl⟩
 have hT: ∀ b o,(b=(μ i).b∧o'≤o∧o<o'+vals.length)→b<w.heap.size→ ∃ j,j=i∧live S env.bx j∧(μ j).au b o:=fun b o sk _=>
  ⟨i,rfl,hl0, .inl ⟨sk.1,by omega,by omega⟩⟩
 have hf: ∀ j,j=i→live S (ai env.bx i (some B')) j→ ∀ b o,(μ j).au b o→w.heap.size≤b∨ ∃ k,k=i∧live S env.bx k∧(μ k).au b o:=by
  rintro j rfl _ b o hfo
  exact .inr ⟨j,rfl,hl0,hfo⟩
 have j4: ∀ j B0,env.bx j=some B0→ ∃ B1,ai env.bx i (some B') j=some B1∧cg S (μ j) (μ j) B0 B1:=by
  intro j B1 hj
  by_cases e:j=i
  · subst e
    rw [hi] at hj
    cases hj
    exact ⟨B',aI _ _ _,hc⟩
  · exact ⟨B1,by rw [aY _ _ e]; exact hj,cg.refl S _ _⟩
 have hw:=aO.setCells w (μ i).b o' vals p8
 have hl:=h.later (U:=fun j=>j=i) hw hT hU hf
 refine h.step (U:=fun j=>j=i) hw hT hU hf j4 ?_ ?_ ?_ ?_
 · rintro j k rfl rfl hne; exact absurd rfl hne
 · rintro j B1 rfl jn
   rw [aI] at jn
   cases jn
   exact hb hl fun V v hv hr=>bl.step P S hl j4 hr hv
 · rintro j vs rfl hvs v hv k hk
   rw [aI] at hvs
   have h0:=hr vs (by rcases hvs with hvs | hvs <;> · cases hvs; simp) v hv k hk
   obtain ⟨B1,jn⟩:=Option.ne_none_iff_exists'.1 h0
   obtain ⟨B2,IV,_⟩:=j4 k B1 jn
   rw [IV]; simp
 · rintro j rfl sw
   have sw:live S (ai env.bx j (some B')) j:=sw
   rw [aI]
   have hx:=h.ext j hl0
   rw [hi] at hx
   rcases hx with hx | hx
   · cases B0 <;> simp only [kU] at hx
     cases B' <;> simp only [cg] at hc <;> first | exact .inl trivial | (unfold live at sw; rw [aI] at sw; exact sw.elim)
   · exact .inr hx
theorem run_store (hP:aL P S af) {t:Nat} {T:Ty} (ht:S.ty t=some T) {b o':Nat} {v:Value} (hs:v.cells.size=Ty.sz S T) (bV:w.there b o' v.cells.toList.length) (h1: ∀ c ∈ v.cells.toList,c.oneCell'=true):
 (Instr.storeAt t (.pointer (some ⟨b,o',none⟩)) v).run P w= .ok () (w.setCells b o' v.cells.toList):=by
 obtain ⟨⟨i,z,hi,hsz,_⟩,_⟩:=hP.ty t T ht
 have h2:=run_storeAt_mid (P:=P) w b o' t v.cells (by simpa using bV) (by rw [hi]; simp [hsz,hs]) (Array.all_eq_true_iff_forall_mem.2 fun c hc=>h1 c (by simpa using hc))
 exact h2
theorem Gp (h:Inv P S w0 M0 s0 dq env a w μ) (hd: ∀ d,o.dst=some d→d<a.tmps.size) {w':World} {us:aA S.C}
 (hrun:(execOp a.eval o).run P w= .ok .skip w') (hI:Inv P S w0 M0 s0 dq { env with bx:=ah env.bx us } a w' μ)
 (hK:Goal P S w0 M0 s0 dq env a o.dst .skip us K):o.wp P a w K Q:=by
 unfold Oper.wp
 rw [hrun]
 refine hK _ w' μ (hI.put hd (V:= .skip) (v:=undef) rfl (by simp [aq,ak])) ?_
 cases o.dst <;> simp [Act.put]
theorem Fy {vs ws:List (Sy.V S.C)} {off:Nat} {p:Sy.V S.C→Bool} (h1:vs.all p=true) (h2:ws.all p=true):(setCells S vs off ws).all p=true:=by
 unfold Sy.setCells
 rw [List.all_eq_true] at *
 intro x hx
 simp only [List.mem_append] at hx
 rcases hx with (hx | hx) | hx
 · exact h1 x (List.mem_of_mem_take hx)
 · exact h2 x hx
 · exact h1 x (List.mem_of_mem_drop hx)
theorem FA {vs ws:List (Sy.V S.C)} {off:Nat} {x:Sy.V S.C} (hx:x ∈ setCells S vs off ws):x ∈ vs∨x ∈ ws:=by
 unfold Sy.setCells at hx
 simp only [List.mem_append] at hx
 rcases hx with (hx | hx) | hx
 · exact .inl (List.mem_of_mem_take hx)
 · exact .inr hx
 · exact .inl (List.mem_of_mem_drop hx)
theorem Fz {vs ws:List (Sy.V S.C)} {off:Nat} (h:off+ws.length≤vs.length):(setCells S vs off ws).length=vs.length:=by
 unfold Sy.setCells; simp; omega
theorem AT {s:St} {bx:Bx S.C} {vs ws:List (Sy.V S.C)} {cs ds:List Value} {off:Nat} (h1:aB P S w s μ bx vs cs) (h2:aB P S w s μ bx ws ds):
 aB P S w s μ bx (setCells S vs off ws) (cs.take off++ds++cs.drop (off+ds.length)):=by
 unfold Sy.setCells
 rw [aB.length P S h2]
 exact aB.append P S (aB.append P S (h1.take P S off) h2) (h1.drop P S _)
theorem rL {bx aa:Bx S.C} {t:Ty} {V:Sy.V S.C} (h: ∀ i ∈ aq S V,aa i=bx i):datum S aa t V=datum S bx t V∧cQ S aa V=cQ S bx V:=by
 have pI: ∀ (W:Sy.V S.C) (t:Ty),(∀ i ∈ ak S W,aa i=bx i)→cF S aa t W=cF S bx t W:=by
  intro W t hW
  cases W with
  | az b=>simp only [cF]; rw [hW b (by simp [ak])]
  | _=>rfl
 have CI: ∀ (W:Sy.V S.C),(∀ i ∈ ak S W,aa i=bx i)→cn S aa W=cn S bx W:=by
  intro W hW
  cases W with
  | az b=>simp only [cn]; rw [hW b (by simp [ak])]
  | _=>rfl
 have NA: ∀ (ts:List Ty) (vs:List (Sy.V S.C)),(∀ v ∈ vs, ∀ i ∈ ak S v,aa i=bx i)→gH S aa ts vs=gH S bx ts vs:=by
  intro ts
  induction ts with
  | nil=>intro vs _; rfl
  | cons t ts ih=>
   intro vs hvs
   cases vs with
   | nil=>rfl
   | cons v vs=>
    simp only [gH]
    rw [pI v t (hvs v (by simp)),ih vs fun v hv=>hvs v (by simp [hv])]
 have imp_eq: ∀ (t:Ty) (vs:List (Sy.V S.C)),(∀ v ∈ vs, ∀ i ∈ ak S v,aa i=bx i)→gQ S aa t vs=gQ S bx t vs:=by
  intro t vs hvs
  cases t with
  | st u=>simp only [gQ]; rw [NA _ vs hvs]
  | _=>
   cases vs with
   | nil=>rfl
   | cons v vs=>exact pI v _ (hvs v (by simp))
 cases V with
 | agg u vs=>
  have hvs: ∀ v ∈ vs, ∀ i ∈ ak S v,aa i=bx i:=fun v hv i hi=>h i (by simp only [aq,List.mem_flatMap]; exact ⟨v,hv,hi⟩)
  refine ⟨?_, ?_⟩
  · cases t <;> simp only [datum]
    rw [imp_eq _ vs hvs]
  · simp only [cQ]
    clear h
    induction vs with
    | nil=>rfl
    | cons v vs ih=>
     simp only [List.flatMap_cons]
     rw [CI v (hvs v (by simp)),ih fun v hv=>hvs v (by simp [hv])]
 | az b=>exact ⟨by cases t <;> first | rfl | exact pI (.az b) _ h,CI (.az b) h⟩
 | _=>exact ⟨by cases t <;> rfl,rfl⟩
theorem FN (hP:aL P S af) (h:Inv P S w0 M0 s0 dq env a w μ) (hd: ∀ d,o.dst=some d→d<a.tmps.size) {t:TypeId} {x y:Operand} {ids:List Nat} (ho:o.op= .store t x y)
 (cC: ∀ V,aE S env.tm y=some V→ ∀ i ∈ aq S V,restrict S env.bx ids i=env.bx i)
 (hl:(match S.ty t,aE S env.tm x,aE S env.tm y with
  | some u,some p,some v=>tP S u (restrict S env.bx ids) v p
  | _,_,_=> .fail).leaf (V,us)) (hK:Goal P S w0 M0 s0 dq env a o.dst V us K):o.wp P a w K Q:=by
 split at hl
 · rename_i T p v ht hx hy
   obtain ⟨hp,_⟩:=aW h hx
   obtain ⟨hv,cR⟩:=aW h hy
   cases p with
   | ptr b off=>
    simp only [tP] at hl
    split at hl
    · rename_i vs hb
      have hb:=dD hb
      cases hf:fits S (cellsOf S v) (Ty.sz S T)&&Nat.ble (off+Ty.sz S T) vs.length with
      | false=>rw [hf] at hl; exact hl.elim
      | true=>
       rw [hf] at hl
       obtain ⟨rfl,rfl⟩:=bg hl
       rw [Bool.and_eq_true] at hf
       obtain ⟨f1,f2⟩:=xX hf.1
       have f3:=Nat.le_of_ble_eq_true hf.2
       obtain ⟨c1,c2⟩:=xk hP.tobY f2 hv
       have HZ:=aB.length P S c1
       obtain ⟨b1,b2,b3,cs,b4,b5⟩:=h.bw b _ hb
       have OB:=aB.length P S b5
       have bp:live S env.bx b:=by unfold live; rw [hb]; trivial
       have hle:off+(a.eval y).cells.toList.length≤cs.length:=by omega
       have bV:w.there (μ b).b ((μ b).o+off) (a.eval y).cells.toList.length:=jM b3 (by omega) (by omega)
       have hp:a.eval x= .pointer (some ⟨(μ b).b,(μ b).o+off,none⟩):=hp
       have hrun:(execOp a.eval o).run P w= .ok .skip (w.setCells (μ b).b ((μ b).o+off) (a.eval y).cells.toList):=by
        unfold execOp
        simp only [ho,hp]
        have :=run_store hP ht (b:=(μ b).b) (o':=(μ b).o+off) (v:=a.eval y) (w:=w) (by rw [← f1, ← HZ]; simp) bV (qP f2 c1)
        simp [this]
       refine Gp h hd hrun ?_ hK
       show Inv P S w0 M0 s0 dq { env with bx:=ai env.bx b (some (.cells (setCells S vs off (cellsOf S v)))) } a _ μ
       refine h.write hb bp (fun _ e=>nomatch e) (by omega) (by omega) rfl (fun hl lQ=>⟨Fy b1 f2,by rw [Fz (by omega)]; exact b2,nw b3 bV,_,EE b4 off hle, ?_⟩) fun ws ic u hu j hj=> ?_
       · refine AT (aB.map lQ (fun v hv=>h.jB b vs (.inl hb) v hv) b5) (aB.map lQ (fun u hu j hj=>cR j (c2 u hu j hj)) c1)
       · rcases ic with ic | ic
         · cases ic
           rcases FA hu with hu | hu
           · exact h.jB b vs (.inl hb) u hu j hj
           · exact cR j (c2 u hu j hj)
         · cases ic
    · exact hl.elim
   | cG b i off=>
    simp only [tP] at hl
    split at hl
    · rename_i e l hb
      have hb:=dD hb
      split at hl
      · rename_i z hz
        obtain ⟨d1,d2⟩:=rL (t:=T) (cC v hy)
        rw [d1] at hz
        rw [d2] at hl
        cases hf:Nat.ble (off+Ty.sz S T) (Ty.sz S e)&&(cQ S env.bx v).all (fun u=> !Nat.beq u.1 b) with
        | false=>rw [hf] at hl; exact hl.elim
        | true=>
         rw [hf,cond_true] at hl
         rw [Bool.and_eq_true] at hf
         split at hl
         · rename_i e' he'
           obtain ⟨rfl,rfl⟩:=bg hl
           have f3:=Nat.le_of_ble_eq_true hf.1
           obtain ⟨k1,r1⟩:=uI hP.tobY h (Tk.refl S env.bx) hv hz
           have h1:=h.tk hP.tobY k1
           have cB:ah env.bx (cQ S env.bx v) b=some (.arr e l):=by
            rw [o8 _ _ fun u hu=> ?_]
            · exact hb
            · have :=List.all_eq_true.1 hf.2 u hu
              intro e
              rw [e,Nat.beq_refl] at this
              cases this
           obtain ⟨_,sE⟩:=h1.iQ 0 |> fun _=>(show RV P S w (ay S w0 M0 s0 env.bx μ w) μ env.bx (.cG b i off) (a.eval x) from hp)
           obtain ⟨i0,i1,sF⟩:=sE e l (.inl hb)
           obtain ⟨g1,g2,g3,g4,g5⟩:=h1.bw b _ cB
           have oa:l[i.toNat]? =some (gi S e l i):=nW i0 (by omega)
           obtain ⟨ds,Ie,Cc,n,Ig⟩:=g5 _ _ oa
           have r2:bT S w (ay S w0 M0 s0 (ah env.bx (cQ S env.bx v)) μ w) T z (a.eval y):=by
            refine r1.mono S fun b' o' ⟨q1,q2,q3⟩=>⟨⟨q1,q2,fun j hj=> ?_⟩,rfl⟩
            rcases q3 j ((dA S (k1.cY hj)).1 hj) with ⟨_,_,hq⟩ | hq
            · unfold live at hj; rw [hq] at hj; exact hj.elim
            · exact hq
           obtain ⟨m,r3⟩:=r2.2
           have hvl:=r3.length S
           have hrow:(i.toNat+1)*Ty.sz S e≤(μ b).cap*Ty.sz S e:=Nat.mul_le_mul_right _ (by omega)
           rw [Nat.add_mul,Nat.one_mul] at hrow
           have bp:live S (ah env.bx (cQ S env.bx v)) b:=by unfold live; rw [cB]; trivial
           have bV:w.there (μ b).b ((μ b).o+(i.toNat*Ty.sz S e+off)) (a.eval y).cells.toList.length:=jM g4 (by omega) (by omega)
           obtain ⟨x1,x2,x3⟩:=kM (P:=P) hP.tobY μ (ah env.bx (cQ S env.bx v)) r3
           obtain ⟨y1,y2,y3⟩:=kM (P:=P) hP.tobY μ (ah env.bx (cQ S env.bx v)) Ig
           have OV:=aB.length P S x1
           have OW:=aB.length P S y1
           have hrun:(execOp a.eval o).run P w= .ok .skip (w.setCells (μ b).b ((μ b).o+(i.toNat*Ty.sz S e+off)) (a.eval y).cells.toList):=by
            unfold execOp
            rw [show (μ b).o+i.toNat*Ty.sz S e+off=(μ b).o+(i.toNat*Ty.sz S e+off) from by omega] at sF
            simp only [ho,sF]
            have :=run_store hP ht (b:=(μ b).b) (o':=(μ b).o+(i.toNat*Ty.sz S e+off)) (v:=a.eval y) (w:=w) (by rw [← hvl]; simp) bV (qP x2 x1)
            simp [this]
           refine Gp h hd hrun ?_ hK
           rw [fu]
           show Inv P S w0 M0 s0 dq { env with bx:=ai (ah env.bx (cQ S env.bx v)) b (some (.arr e (l.set i.toNat e'))) } a _ μ
           refine h1.write (B':= .arr e (l.set i.toNat e')) cB bp (fun _ e=>nomatch e) (by omega) (by omega) ⟨rfl,rfl,by simp⟩ (fun hl lQ=>⟨g1,g2,by simpa using g3,nw g4 bV,fun k q hk=> ?_⟩) fun ws ic=>by rcases ic with ic | ic <;> cases ic
           by_cases ek:i.toNat=k
           · subst ek
             rw [List.getElem?_set_self (by omega)] at hk
             cases hk
             rw [show (μ b).o+(i.toNat*Ty.sz S e+off)=(μ b).o+i.toNat*Ty.sz S e+off from by omega] at hl ⊢
             refine ⟨_, ?_,EE (cs:=ds) (vals:=(a.eval y).cells.toList) Cc off (by omega), ?_⟩
             · rw [List.length_append,List.length_append,List.length_take,List.length_drop]; omega
             · obtain ⟨q,hq⟩:=DI (P:=P) hP.tobY (AT (off:=off) y1 x1) he'
               refine ⟨q, ?_⟩
               have :=hq.mono S hl (Nat.le_refl _)
               rw [List.take_of_length_le (by rw [List.length_append,List.length_append,List.length_take,List.length_drop]; omega)] at this
               exact this
           · rw [List.getElem?_set_ne ek] at hk
             obtain ⟨ds',p1,p2,p3,p4⟩:=g5 k q hk
             refine ⟨ds',p1,mW p2 (.inr ?_),p3,p4.mono S hl (Nat.le_refl _)⟩
             rcases Nat.lt_or_gt_of_ne ek with hlt | hlt
             · right
               have :(i.toNat+1)*Ty.sz S e≤k*Ty.sz S e:=Nat.mul_le_mul_right _ (by omega)
               rw [Nat.add_mul,Nat.one_mul] at this
               omega
             · left
               have :(k+1)*Ty.sz S e≤i.toNat*Ty.sz S e:=Nat.mul_le_mul_right _ (by omega)
               rw [Nat.add_mul,Nat.one_mul] at this
               omega
         · exact hl.elim
      · exact hl.elim
    · exact hl.elim
   | _=>exact hl.elim
 · exact hl.elim
end
end Go.Sy
namespace Go.Sy
section
variable {P:Program} {S:aK} {af:Nat→Nat}
variable {w0:World} {M0 s0:St} {dq:List Deferred} {env:Env S.C} {a:Act} {w:World} {μ:Nat→Loc} {K:Act→World→Prop} {Q:Exit→Act→World→Prop} {o:Oper} {V:V S.C} {us:aA S.C}
theorem kX {α β:Type} {f:α→Option β} {x:α} {r:List α} {ys:List β} (h:(x::r).mapM f=some ys): ∃ y zs,f x=some y∧r.mapM f=some zs∧ys=y::zs:=by
 rw [List.mapM_cons] at h
 cases hx:f x with
 | none=>rw [hx] at h; cases h
 | some y=>
  rw [hx] at h
  cases hr:r.mapM f with
  | none=>rw [hr] at h; cases h
  | some zs=>rw [hr] at h; cases h; exact ⟨y,zs,rfl,rfl,rfl⟩
def uo (P:Program) (S:aK) (w:World) (s:St) (μ:Nat→Loc) (bx:Bx S.C):List (Nat×Sy.V S.C)→List (Nat×Value)→Prop
 | [],qs=>qs= []
 | p::ps,qs=> ∃ v r,qs=(p.1,v)::r∧RV P S w s μ bx p.2 v∧uo P S w s μ bx ps r
theorem zK (h:Inv P S w0 M0 s0 dq env a w μ): ∀ {parts:List (Nat×Operand)} {ps:List (Nat×Sy.V S.C)},parts.mapM (fun (p:Nat×Operand)=>(aE S env.tm p.2).map fun v=>(p.1,v))=some ps→
 uo P S w (ay S w0 M0 s0 env.bx μ w) μ env.bx ps (parts.map fun (i,x)=>(i,a.eval x))∧ ∀ p ∈ ps, ∃ x i,(i,x) ∈ parts∧aE S env.tm x=some p.2
 | [],ps,hp=>by cases hp; exact ⟨rfl,by simp⟩
 | (i,x)::r,ps,hp=>by
  obtain ⟨y,zs,h1,h2,rfl⟩:=kX hp
  obtain ⟨h3,h4⟩:=zK h h2
  cases hx:aE S env.tm x with
  | none=>rw [hx] at h1; cases h1
  | some v=>
   rw [hx] at h1
   cases h1
   refine ⟨⟨a.eval x,_,rfl,(aW h hx).1,h3⟩,fun p hp=> ?_⟩
   rcases List.mem_cons.1 hp with rfl | hp
   · exact ⟨x,i,by simp,hx⟩
   · obtain ⟨x',i',h5,h6⟩:=h4 p hp
     exact ⟨x',i',by simp [h5],h6⟩
theorem uu (h:Inv P S w0 M0 s0 dq env a w μ): ∀ {xs:List Operand} {vs:List (Sy.V S.C)},xs.mapM (aE S env.tm)=some vs→
 dJ P S w (ay S w0 M0 s0 env.bx μ w) μ env.bx vs (xs.map a.eval)∧ ∀ v ∈ vs, ∃ x ∈ xs,aE S env.tm x=some v
 | [],vs,hp=>by cases hp; exact ⟨rfl,by simp⟩
 | x::r,ps,hp=>by
  obtain ⟨y,zs,h1,h2,rfl⟩:=kX hp
  obtain ⟨h3,h4⟩:=uu h h2
  refine ⟨⟨a.eval x,_,rfl,(aW h h1).1,h3⟩,fun p hp=> ?_⟩
  rcases List.mem_cons.1 hp with rfl | hp
  · exact ⟨x,by simp,h1⟩
  · obtain ⟨x',h5,h6⟩:=h4 p hp
    exact ⟨x',by simp [h5],h6⟩
theorem CG (off:Nat): ∀ (l:List Value) (k:Nat) (cells:Array Value),off+k+l.length≤cells.size→
 ((l.zipIdx k).foldl (fun cs p=>cs.setIfInBounds (off+p.2) p.1) cells).toList=cells.toList.take (off+k)++l++cells.toList.drop (off+k+l.length)
 | [],k,cells,h=>by simp
 | v::l,k,cells,h=>by
  simp only [List.zipIdx_cons,List.foldl_cons]
  simp only [List.length_cons] at h
  rw [CG off l (k+1) _ (by simp; omega)]
  have hc:(cells.setIfInBounds (off+k) v).toList=cells.toList.set (off+k) v:=by simp
  have hlen:cells.toList.length=cells.size:=by simp
  rw [hc,show off+(k+1)=off+k+1 from rfl,List.drop_set_of_lt (by omega)]
  have ht:(cells.toList.set (off+k) v).take (off+k+1)=cells.toList.take (off+k)++ [v]:=by
   rw [List.take_add_one,List.take_set_of_le (Nat.le_refl _),List.getElem?_set_self (by omega)]
   rfl
  rw [ht,List.length_cons]
  simp [show off+k+1+l.length=off+k+(l.length+1) from by omega]
theorem xW (place:Nat→Option (Nat×Nat)) {i off size:Nat} (hp:place i=some (off,size)) {v:Value} (hv:v.cells.size=size) {cells:Array Value} (hle:off+size≤cells.size) (rest:List (Nat×Value)):
 ∃ cells',cells'.toList=cells.toList.take off++v.cells.toList++cells.toList.drop (off+v.cells.toList.length)∧Instr.fill place cells ((i,v)::rest)=Instr.fill place cells' rest:=by
 refine ⟨v.cells.zipIdx.foldl (fun cs (c,j)=>cs.setIfInBounds (off+j) c) cells, ?_, ?_⟩
 · have :=CG off v.cells.toList 0 cells (by simp; omega)
   simp only [Nat.add_zero] at this
   rw [← this]
   congr 1
   rw [← Array.foldl_toList]
   simp
 · simp only [Instr.fill,hp]
   rw [if_neg]
   simp only [hv]
   simp
   omega
theorem CA (hS:bY S) {s:St} {bx:Bx S.C} {u:Nat} {place:Nat→Option (Nat×Nat)} (hp: ∀ f o T,S.eO u f=some (o,T)→place f=some (o,Ty.sz S T)):
 ∀ {ps:List (Nat×Sy.V S.C)} {qs:List (Nat×Value)} {vs vs':List (Sy.V S.C)} {cells:Array Value},uo P S w s μ bx ps qs→aB P S w s μ bx vs cells.toList→vs.all (bG S)=true→rU S u vs ps=some vs'→
 ∃ cells',Instr.fill place cells qs=some cells'∧aB P S w s μ bx vs' cells'.toList∧vs'.all (bG S)=true∧vs'.length=vs.length∧ ∀ v ∈ vs',v ∈ vs∨ ∃ p ∈ ps, ∀ j ∈ ak S v,j ∈ aq S p.2
 | [],qs,vs,vs',cells,h1,h2,h3,h4=>by
  cases h1; cases h4
  exact ⟨cells,rfl,h2,h3,rfl,fun v hv=> .inl hv⟩
 | (i,W)::ps,qs,vs,vs',cells,⟨v,r,hq,hv,hr⟩,h2,h3,h4=>by
  subst hq
  simp only [rU] at h4
  split at h4
  · rename_i off T hf
    cases hc:fits S (cellsOf S W) (Ty.sz S T)&&Nat.ble (off+Ty.sz S T) vs.length with
    | false=>rw [hc] at h4; cases h4
    | true=>
     rw [hc,cond_true] at h4
     rw [Bool.and_eq_true] at hc
     obtain ⟨f1,f2⟩:=xX hc.1
     have f3:=Nat.le_of_ble_eq_true hc.2
     obtain ⟨c1,c2⟩:=xk hS f2 hv
     have l1:=aB.length P S c1
     have l2:=aB.length P S h2
     obtain ⟨cells',e1,e2⟩:=xW place (hp _ _ _ hf) (v:=v) (cells:=cells) (by rw [← f1, ← l1]; simp) (by rw [← l2] at f3; simpa using f3) r
     obtain ⟨xj,g1,g2,g3,g4,g5⟩:=CA hS hp (cells:=cells') hr (by rw [e1]; exact AT h2 c1) (Fy h3 f2) h4
     refine ⟨xj,by rw [e2]; exact g1,g2,g3,by rw [g4,Fz (by omega)],fun v hv=> ?_⟩
     rcases g5 v hv with hv | ⟨p,hp,hv⟩
     · rcases FA hv with hv | hv
       · exact .inl hv
       · exact .inr ⟨(i,W),by simp,c2 v hv⟩
     · exact .inr ⟨p,by simp [hp],hv⟩
  · cases h4
theorem HB (hP:aL P S af) (h:Inv P S w0 M0 s0 dq env a w μ) (hd: ∀ d,o.dst=some d→d<a.tmps.size) {t:TypeId} {parts:Array (Nat×Operand)} (ho:o.op= .build t parts)
 (hl:(match S.ty t with
  | some (.st u)=>match parts.toList.mapM (fun (p:Nat×Operand)=>(aE S env.tm p.2).map fun v=>(p.1,v)) with
   | some ps=>match rU S u (zeroCells S (.st u)) ps with
    | some vs=>ax S (.agg u vs) []
    | none=> .fail
   | none=> .fail
  | _=> .fail).leaf (V,us)) (hK:Goal P S w0 M0 s0 dq env a o.dst V us K):o.wp P a w K Q:=by
 split at hl
 · rename_i u ht
   split at hl
   · rename_i ps hps
     split at hl
     · rename_i vs hvs
       obtain ⟨rfl,rfl⟩:=bg hl
       obtain ⟨p1,p2⟩:=zK h hps
       obtain ⟨⟨i,z,h1,h2,h3,h4,h5⟩,⟨OR,Jd⟩,vl⟩:=hP.ty t _ ht
       obtain ⟨b0,hb0⟩:=Option.isSome_iff_exists.1 Jd
       obtain ⟨z1,z2,z3⟩:=Gz (P:=P) (w:=w) (μ:=μ) hP.tobY (s:=ay S w0 M0 s0 env.bx μ w) (bx:=env.bx) (.st u)
       have Je: ∃ place:Nat→Option (Nat×Nat),(∀ qs,P.built t qs=Instr.fill place z.cells qs)∧ ∀ f o T,S.eO u f=some (o,T)→place f=some (o,Ty.sz S T):=by
        cases har:S.ar t with
        | some p=>
         rw [har] at vl
         obtain ⟨te,hu,hte,_,hfl⟩:=vl
         obtain ⟨⟨ie,ze,e1,e2,_⟩,_⟩:=hP.ty te _ hte
         refine ⟨fun i=>some (i*ie.size,ie.size),fun qs=> ?_,fun f o' T hf=> ?_⟩
         · unfold Program.built
           simp only [h1,hu,h3,e1]
         · obtain ⟨rfl,rfl,_⟩:=hfl f o' T hf
           simp [e2]
        | none=>
        rw [har] at vl
        obtain ⟨fs,hu,lT⟩:=vl
        unfold Program.built at hb0
        simp only [h1,hu,h3] at hb0
        cases iW:fs.toList.mapM (fun f=>(P.info? f.type).map fun i=>(f.offset,i.size)) with
        | none=>rw [iW] at hb0; cases hb0
        | some places=>
         refine ⟨(places.toArray[·]?),fun qs=> ?_,fun f o' T hf=> ?_⟩
         · unfold Program.built
           simp only [h1,hu,h3,iW]
         · obtain ⟨fd,d1,d2,d3,d4,d5⟩:=lT f o' T hf
           obtain ⟨⟨i',z',e1,e2,_⟩,_⟩:=hP.ty _ _ d3
           have gB: ∀ (l:List Field) (ys:List (Nat×Nat)) (k:Nat) (fd:Field),l.mapM (fun f=>(P.info? f.type).map fun i=>(f.offset,i.size))=some ys→l[k]? =some fd→ ∃ y,ys[k]? =some y∧(P.info? fd.type).map (fun i=>(fd.offset,i.size))=some y:=by
            intro l
            induction l with
            | nil=>intro ys k fd _ hk; simp at hk
            | cons x l ih=>
             intro ys k fd hys hk
             obtain ⟨y,zs,q1,q2,rfl⟩:=kX hys
             cases k with
             | zero=>simp at hk; subst hk; exact ⟨y,by simp,q1⟩
             | succ k=>
              obtain ⟨y',q3,q4⟩:=ih zs k fd q2 (by simpa using hk)
              exact ⟨y',by simpa using q3,q4⟩
           obtain ⟨y,q1,q2⟩:=gB fs.toList places f fd iW (by simpa using d1)
           rw [e1] at q2
           simp at q2
           simp [q1, ← q2,d2,e2]
       obtain ⟨place,g1,g2⟩:=Je
       obtain ⟨cells',k1,k2,k3,k4,k5⟩:=CA hP.tobY g2 (cells:=z.cells) p1 (by rw [h5]; exact z1) z2 hvs
       refine wp_pure (V:= .agg u vs) h (v:= .agg cells') ?_ hd ⟨cells',rfl, ?_,k3,k2⟩ (fun j hj=> ?_) hK
       · unfold execOp
         simp only [ho]
         have :=run_build (P:=P) w t (parts.map fun (i,x)=>(i,a.eval x)) cells' (by rw [g1,Array.toList_map]; exact k1)
         simp [this]
       · rw [k4]; simp [zeroCells]
       · simp only [aq,List.mem_flatMap] at hj
         obtain ⟨v,hv,hj⟩:=hj
         rcases k5 v hv with hv | ⟨p,hp,hv⟩
         · rw [z3 v hv] at hj; simp at hj
         · obtain ⟨x,i',_,hx⟩:=p2 p hp
           exact (aW h hx).2 j (hv j hj)
     · exact hl.elim
   · exact hl.elim
 · exact hl.elim
end
end Go.Sy
namespace Go.Sy
section
variable {P:Program} {S:aK} {af:Nat→Nat}
variable {w0:World} {M0 s0:St} {dq:List Deferred} {env:Env S.C} {a:Act} {w:World} {μ:Nat→Loc} {K:Act→World→Prop} {Q:Exit→Act→World→Prop} {o:Oper} {V:V S.C} {us:aA S.C}
def cE (bx:Bx S.C) (us:aA S.C):Prop:= ∀ u ∈ us, ∃ e l,u.2= .bn e l∧cO S (bx u.1) e l
theorem cE.append {bx:Bx S.C} {us vs:aA S.C} (h1:cE bx us) (h2:cE bx vs):cE bx (us++vs):=fun u hu=>(List.mem_append.1 hu).elim (h1 u) (h2 u)
theorem cE.at {bx:Bx S.C} : ∀ {us:aA S.C} (aa:Bx S.C),cE bx us→ ∀ i,(ah aa us i=aa i∧ ∀ u ∈ us,u.1≠i)∨((∃ u ∈ us,u.1=i)∧ ∃ e l,cO S (bx i) e l∧ah aa us i=some (.bn e l))
 | [],aa,_,i=> .inl ⟨rfl,by simp⟩
 | u::us,aa,h,i=>by
  rcases cE.at (us:=us) (ai aa u.1 (some u.2)) (fun v hv=>h v (by simp [hv])) i with ⟨h1,h2⟩ | ⟨⟨v,hv,h1⟩,h2⟩
  · by_cases e:u.1=i
    · right
      refine ⟨⟨u,by simp,e⟩, ?_⟩
      obtain ⟨e',l,h3,h4⟩:=h u (by simp)
      refine ⟨e',l,e▸h4, ?_⟩
      show ah (ai aa u.1 (some u.2)) us i=_
      rw [h1, ← e,aI,h3]
    · left
      refine ⟨?_,fun v hv=> ?_⟩
      · show ah (ai aa u.1 (some u.2)) us i=_
        rw [h1,aY _ _ (Ne.symm e)]
      · rcases List.mem_cons.1 hv with rfl | hv
        · exact e
        · exact h2 v hv
  · exact .inr ⟨⟨v,by simp [hv],h1⟩,h2⟩
theorem cE.tk {bx:Bx S.C} {us US:aA S.C} (h:cE bx US) (hs: ∀ u ∈ us,u ∈ US):Tk S (ah bx us) (ah bx US):=by
 intro i
 have h0:cE bx us:=fun u hu=>h u (hs u hu)
 rcases cE.at bx h i with ⟨h1,h2⟩ | ⟨_,e,l,h1,h2⟩
 · rcases cE.at bx h0 i with ⟨h3,_⟩ | ⟨⟨u,hu,h3⟩,_⟩
   · exact .inl (h1.trans h3.symm)
   · exact absurd h3 (h2 u (hs u hu))
 · rcases cE.at bx h0 i with ⟨h3,_⟩ | ⟨_,e',l',h3,h4⟩
   · exact .inr (.inr ⟨e,l,by rw [h3]; exact h1,h2⟩)
   · generalize bx i=X at h1 h3
     cases h1 <;> cases h3 <;> exact .inl (h2.trans h4.symm)
theorem cE.mj {bx:Bx S.C} {US:aA S.C} (h:cE bx US):Tk S bx (ah bx US):=cE.tk (us:= []) h (by simp)
theorem cE.cn (bx:Bx S.C) (V:Sy.V S.C):cE bx (cn S bx V):=by
 cases V with
 | az b=>
  unfold Sy.cn
  dsimp only
  split
  · rename_i e l hb
    intro u hu
    simp at hu
    subst hu
    exact ⟨e,l,rfl,by rw [hb]; exact .arr e l⟩
  · rename_i w l hb
    intro u hu
    simp at hu
    subst hu
    exact ⟨.st w,l,rfl,by rw [hb]; exact .aF w l⟩
  · intro u hu; simp at hu
 | _=>intro u hu; simp [Sy.cn] at hu
theorem cE.cQ (bx:Bx S.C) (V:Sy.V S.C):cE bx (cQ S bx V):=by
 cases V with
 | agg u vs=>
  intro x hx
  simp only [Sy.cQ,List.mem_flatMap] at hx
  obtain ⟨v,_,hx⟩:=hx
  exact cE.cn bx v x hx
 | az b=>exact cE.cn bx (.az b)
 | _=>intro u hu; simp [Sy.cQ,Sy.cn] at hu
theorem wA {aa:Bx S.C} (hk:Tk S env.bx aa):aV w (bC S w0 M0 s0 env.bx aa μ w) w (ay S w0 M0 s0 aa μ w):=fun b o ⟨q1,q2,q3⟩=>
 ⟨⟨q1,q2,fun j hj=>by
  rcases q3 j ((dA S (hk.cY hj)).1 hj) with ⟨_,_,hq⟩ | hq
  · unfold live at hj; rw [hq] at hj; exact hj.elim
  · exact hq⟩,rfl⟩
def cz (w:World) (s:St) (e:Ty) (l:List (e.den S.C)) (cs:List Value):Prop:=
 cs.length=l.length*Ty.sz S e∧ ∀ i x,l[i]? =some x→ ∃ n,av S w s n e x ((cs.drop (i*Ty.sz S e)).take (Ty.sz S e))
theorem cz.nil {s:St} {e:Ty} :cz w s e ([]:List (e.den S.C)) []:=⟨by simp,fun i x h=>by simp at h⟩
theorem cz.later {w':World} {s s':St} (hl:aV w s w' s') {e:Ty} {l:List (e.den S.C)} {cs:List Value} (h:cz w s e l cs):cz w' s' e l cs:=
 ⟨h.1,fun i x hi=>(h.2 i x hi).imp fun _ hr=>hr.mono S hl (Nat.le_refl _)⟩
theorem cz.append {s:St} {e:Ty} {l l':List (e.den S.C)} {cs cs':List Value} (h:cz w s e l cs) (h':cz w s e l' cs'):cz w s e (l++l') (cs++cs'):=by
 refine ⟨by simp [h.1,h'.1,Nat.add_mul],fun i x hi=> ?_⟩
 by_cases hlt:i<l.length
 · rw [List.getElem?_append_left hlt] at hi
   obtain ⟨n,hn⟩:=h.2 i x hi
   refine ⟨n, ?_⟩
   have :(i+1)*Ty.sz S e≤l.length*Ty.sz S e:=Nat.mul_le_mul_right _ (by omega)
   rw [Nat.add_mul,Nat.one_mul, ← h.1] at this
   rw [List.drop_append_of_le_length (by omega),List.take_append_of_le_length (by simp; omega)]
   exact hn
 · rw [List.getElem?_append_right (by omega)] at hi
   obtain ⟨n,hn⟩:=h'.2 _ x hi
   refine ⟨n, ?_⟩
   have h1:i*Ty.sz S e=cs.length+(i - l.length)*Ty.sz S e:=by
    rw [h.1, ← Nat.add_mul]; congr 1; omega
   rw [h1,List.drop_append]
   simp only [List.drop_of_length_le (Nat.le_add_right cs.length _),List.nil_append,Nat.add_sub_cancel_left]
   exact hn
theorem cz.set {s:St} {e:Ty} {l:List (e.den S.C)} {cs:List Value} (h:cz w s e l cs) {i:Nat} (hi:i<l.length) {x:e.den S.C} {n:Nat} {ds:List Value} (hx:av S w s n e x ds):
 cz w s e (l.set i x) (cs.take (i*Ty.sz S e)++ds++cs.drop (i*Ty.sz S e+ds.length)):=by
 have hd:=hx.length S
 have hle:(i+1)*Ty.sz S e≤l.length*Ty.sz S e:=Nat.mul_le_mul_right _ (by omega)
 rw [Nat.add_mul,Nat.one_mul, ← h.1] at hle
 refine ⟨?_,fun k y hk=> ?_⟩
 · rw [List.length_append,List.length_append,List.length_take,List.length_drop,List.length_set, ← h.1]; omega
 · by_cases ek:i=k
   · subst ek
     rw [List.getElem?_set_self hi] at hk
     cases hk
     refine ⟨n, ?_⟩
     rw [List.append_assoc,List.drop_append_of_le_length (by simp; omega),List.drop_of_length_le (by simp; omega),List.nil_append, ← hd,List.take_left]
     exact hx
   · rw [List.getElem?_set_ne ek] at hk
     have hkl:=(List.getElem?_eq_some_iff.1 hk).1
     obtain ⟨m,hm⟩:=h.2 k y hk
     refine ⟨m, ?_⟩
     rcases Nat.lt_or_gt_of_ne ek with hlt | hlt
     · have hki:(i+1)*Ty.sz S e≤k*Ty.sz S e:=Nat.mul_le_mul_right _ (by omega)
       rw [Nat.add_mul,Nat.one_mul] at hki
       have hpre:(cs.take (i*Ty.sz S e)++ds).length=i*Ty.sz S e+ds.length:=by rw [List.length_append,List.length_take]; omega
       rw [show k*Ty.sz S e=(cs.take (i*Ty.sz S e)++ds).length+(k*Ty.sz S e - (i*Ty.sz S e+ds.length)) from by rw [hpre]; omega,List.drop_append]
       simp only [List.drop_of_length_le (Nat.le_add_right _ _),List.nil_append,Nat.add_sub_cancel_left,List.drop_drop]
       rw [show i*Ty.sz S e+ds.length+(k*Ty.sz S e - (i*Ty.sz S e+ds.length))=k*Ty.sz S e from by omega]
       exact hm
     · have hki:(k+1)*Ty.sz S e≤i*Ty.sz S e:=Nat.mul_le_mul_right _ (by omega)
       rw [Nat.add_mul,Nat.one_mul] at hki
       rw [List.append_assoc,List.drop_append_of_le_length (by simp; omega),List.take_append_of_le_length (by simp; omega),List.drop_take,List.take_take]
       rw [show min (Ty.sz S e) (i*Ty.sz S e - k*Ty.sz S e)=Ty.sz S e from by omega]
       exact hm
theorem cz.replicate {s:St} {e:Ty} {x:e.den S.C} {n:Nat} {z:Array Value} (hx:av S w s n e x z.toList) (k:Nat):cz w s e (List.replicate k x) (madeCells z (k*Ty.sz S e)).toList:=by
 have hz:=hx.length S
 have hzs:z.size=Ty.sz S e:=by rw [← hz]; simp
 refine ⟨by simp [size_madeCells],fun i y hi=>⟨n, ?_⟩⟩
 have yJ:=(List.getElem?_eq_some_iff.1 hi).1
 rw [List.length_replicate] at yJ
 rw [List.getElem?_replicate,if_pos yJ] at hi
 cases hi
 have :((madeCells z (k*Ty.sz S e)).toList.drop (i*Ty.sz S e)).take (Ty.sz S e)=z.toList:=by
  apply List.ext_getElem?
  intro j
  rw [List.getElem?_take]
  have hrow:(i+1)*Ty.sz S e≤k*Ty.sz S e:=Nat.mul_le_mul_right _ (by omega)
  rw [Nat.add_mul,Nat.one_mul] at hrow
  by_cases hj:j<Ty.sz S e
  · rw [if_pos hj,List.getElem?_drop]
    have hmod:(i*Ty.sz S e+j) % z.size=j:=by
     rw [hzs,Nat.mul_comm,Nat.mul_add_mod,Nat.mod_eq_of_lt hj]
    simp [madeCells]
    rw [List.getElem?_range (by omega)]
    rw [Option.map_some,hmod]
    simp [hzs,hj]
  · rw [if_neg hj,List.getElem?_eq_none (by omega)]
 rw [this]
 exact hx
theorem Fc {s:St} {e:Ty} {b:Nat} : ∀ {l:List (e.den S.C)} {o':Nat},(∀ i x,l[i]? =some x→ ∃ ds,ds.length=Ty.sz S e∧w.rangeAt b (o'+i*Ty.sz S e) ds∧ ∃ n,av S w s n e x ds)→
 ∃ cs,w.rangeAt b o' cs∧cz w s e l cs
 | [],_,_=>⟨[],fun j v h=>by simp at h,cz.nil⟩
 | x::l,o',h=>by
  obtain ⟨ds,d1,d2,n,d3⟩:=h 0 x rfl
  obtain ⟨cs,c1,c2⟩:=Fc (s:=s) (l:=l) (o':=o'+Ty.sz S e) fun i y hi=>by
   obtain ⟨ds,d1,d2,d3⟩:=h (i+1) y (by simpa using hi)
   refine ⟨ds,d1, ?_,d3⟩
   rw [Nat.add_mul,Nat.one_mul] at d2
   rw [show o'+Ty.sz S e+i*Ty.sz S e=o'+(i*Ty.sz S e+Ty.sz S e) from by omega]
   exact d2
  simp only [Nat.zero_mul,Nat.add_zero] at d2
  refine ⟨ds++cs,fun j v hj=> ?_,cz.append (l:= [x]) (l':=l) ⟨by simp [d1],fun i y hi=> ?_⟩ c2⟩
  · by_cases hlt:j<ds.length
    · rw [List.getElem?_append_left hlt] at hj; exact d2 j v hj
    · rw [List.getElem?_append_right (by omega)] at hj
      have :=c1 _ v hj
      rw [show o'+Ty.sz S e+(j - ds.length)=o'+j from by omega] at this
      exact this
  · cases i with
    | zero=>simp at hi; subst hi; exact ⟨n,by simpa [← d1] using d3⟩
    | succ i=>simp at hi
theorem cz.row {s:St} {e:Ty} {l:List (e.den S.C)} {cs:List Value} (h:cz w s e l cs) {w':World} {b o':Nat} (hr:w'.rangeAt b o' cs):
 ∀ i x,l[i]? =some x→ ∃ ds,ds.length=Ty.sz S e∧w'.rangeAt b (o'+i*Ty.sz S e) ds∧ ∃ n,av S w s n e x ds:=fun i x hi=>by
 obtain ⟨n,hn⟩:=h.2 i x hi
 exact ⟨_,hn.length S,oF hr _ _,n,hn⟩
theorem wC (hP:aL P S af) {t:Nat} {T:Ty} (ht:S.ty t=some T) (s:St): ∃ n,av S w s n T (Ty.zero S T) (pq S T):=by
 have z1: ∀ (T:Ty),aZ T=false→av S w s 1 T (Ty.zero S T) [qU T]:=by
  intro T hT
  cases T with
  | int k=>rfl
  | bool=>rfl
  | str=>rfl
  | pt=>rfl
  | sl e=>exact ⟨none,0,rfl,Nat.le_refl _, .inl rfl⟩
  | st u=>simp [aZ] at hT
 cases T with
 | st u=>
  obtain ⟨_,⟨hz,_⟩,_⟩:=hP.ty t _ ht
  refine ⟨2, ?_⟩
  show a_ S _ (S.F u) (S.ex u (S.z u)) ((S.F u).map qU)
  rw [hz]
  have : ∀ (ts:List Ty),ts.all (fun t=> !aZ t)=true→a_ S (fun t x cs=>av S w s 1 t x cs) ts (nH S ts) (ts.map qU):=by
   intro ts
   induction ts with
   | nil=>intro _; rfl
   | cons t ts ih=>
    intro h
    simp only [List.all_cons,Bool.and_eq_true,Bool.not_eq_true'] at h
    refine ⟨_,_,rfl, ?_, ?_⟩
    · rw [show ag.head (nH S (t::ts))=Ty.zero S t from by cases ts <;> rfl]
      exact z1 t h.1
    · rw [show ag.tail (nH S (t::ts))=nH S ts from by cases ts <;> rfl]
      exact ih h.2
  exact this _ (hP.flat u)
 | int k=>exact ⟨1,z1 _ rfl⟩
 | bool=>exact ⟨1,z1 _ rfl⟩
 | str=>exact ⟨1,z1 _ rfl⟩
 | pt=>exact ⟨1,z1 _ rfl⟩
 | sl e=>exact ⟨1,z1 _ rfl⟩
theorem Bf (hS:bY S) (h:Inv P S w0 M0 s0 dq env a w μ) (hd: ∀ d,o.dst=some d→d<a.tmps.size) {us:aA S.C} {B:Nat} {e:Ty} {l:List (e.den S.C)} {t:TypeId} {cap:Nat} {cells:Array Value} {cs:List Value}
 (hk:Tk S env.bx (ah env.bx us)) (hB:ah env.bx us B=none) {w1:World} (hw1:w1.heap=w.heap) (yW:w1.os=w.os∧w1.tape=w.tape∧w1.output=w.output)
 (hrun:(execOp a.eval o).run P w= .ok (.value (.slice (some ⟨w.heap.size,0,none⟩) l.length cap)) (w1.alloc (.cells cells t)))
 (hle:l.length≤cap) (hcap:cells.size=cap*Ty.sz S e) (hcs:cz w (ay S w0 M0 s0 (ah env.bx us) μ w) e l cs) (hpre:cs <+: cells.toList)
 (hK:Goal P S w0 M0 s0 dq env a o.dst (.az B) (us++ [(B, .arr e l)]) K):o.wp P a w K Q:=by
 have h1:=h.tk hS hk
 have mQ:aO w (w1.alloc (.cells cells t)) (fun _ _=>False):=by
  have c1:aO w w1 (fun _ _=>False):=⟨yW.1,yW.2.1,yW.2.2,by rw [hw1]; exact Nat.le_refl _,fun b _ _=>by rw [hw1],fun b o _ _=>cell_of_heap (by rw [hw1]),fun b o _ h=>by rw [cell_of_heap (by rw [hw1]:w1.heap[b]? =w.heap[b]?)]; exact h,fun b o _ _=>uQ (by rw [hw1])⟩
  exact c1.trans (aO.alloc w1 _ (fun _ _=>False)) (fun _ _ h=>h) (fun _ _ _ h=>h)
 have nt:=k6 (w:=w1) (cs:=cells) (t:=t)
 rw [hw1] at nt
 have JW:(w1.alloc (.cells cells t)).rangeAt w.heap.size 0 cs:=fun j v hj=>nt.2 j v (by
  obtain ⟨r,hr⟩:=hpre
  rw [← hr,List.getElem?_append_left (List.getElem?_eq_some_iff.1 hj).1]
  exact hj)
 refine nD (env:= { env with bx:=ah env.bx us }) (i:=B) (B:= .arr e l) (V:= .az B) (L:=⟨w.heap.size,0,cap*Ty.sz S e,cap,false,fun _ _=>False⟩) h1 hrun hd mQ hB (fun b o' hf=>Nat.le_of_eq hf.1.symm)
  (fun hl _ h3=>⟨⟨rfl,(fun h=>by cases h),hle,(by show World.there _ w.heap.size 0 (cap*Ty.sz S e); rw [← hcap]; exact nt.1),fun i x hi=> ?_⟩,⟨⟨⟨_,_,_,rfl⟩,fun u' l' q' hb=> ?_⟩,fun e' l' hb=> ?_⟩⟩) (fun vs hvs=>by rcases hvs with hvs | hvs <;> cases hvs) (fun j hj=> .inl (by simpa [aq,ak] using hj)) ?_
 · obtain ⟨ds,d1,d2,n,d3⟩:=hcs.row JW i x hi
   exact ⟨ds,d1,d2,n,d3.mono S hl (Nat.le_refl _)⟩
 · dsimp only at hb
   rw [aI] at hb
   cases hb
 · dsimp only at hb
   rw [aI] at hb
   rcases hb with hb | hb
   · cases hb
     rw [aI]
     exact ⟨_,cap,rfl,rfl,rfl,rfl,(fun h=>by cases h),hle⟩
   · cases hb
 · intro a' w' μ' hI hs
   refine hK a' w' μ' ?_ hs
   have :(env.apply o.dst (.az B) (us++ [(B, .arr e l)]))=(Env.apply { env with bx:=ah env.bx us } o.dst (.az B) [(B, .arr e l)]):=by
    simp only [Env.apply,fu]
   rw [this]
   exact hI
theorem KZ (hP:aL P S af) (h:Inv P S w0 M0 s0 dq env a w μ) (hd: ∀ d,o.dst=some d→d<a.tmps.size) {B:Nat} {t:TypeId} {x y:Operand} (ho:o.op= .makeSlice t x y)
 (hnew: ∀ u ∈ us,B≤u.1→u.1<B+16→env.bx u.1=none)
 (hl:(match dM S t,aE S env.tm x,aE S env.tm y with
  | some e,some v,some w=>match v.int?,w.int? with
   | some (.i64,n),some (.i64,m)=>Tr.gd [gd (0≤n),gd (n≤m),gd (m*af t≤limit)] (ax S (.az (B)) [(B, .arr e (List.replicate n.toNat (Ty.zero S e)))])
   | _,_=>Tr.fail
  | _,_,_=>Tr.fail).leaf (V,us)) (hK:Goal P S w0 M0 s0 dq env a o.dst V us K):o.wp P a w K Q:=by
 split at hl
 · rename_i e v u ht hx hy
   split at hl
   · rename_i n m hn hm
     obtain ⟨hg,rfl,rfl⟩:=d_ hl
     have g1:0≤n:=hg (gd (0≤n)) (by simp)
     have g2:n≤m:=hg (gd (n≤m)) (by simp)
     have g3:m*af t≤limit:=hg (gd (m*af t≤limit)) (by simp)
     have ht':=jl ht
     obtain ⟨te,ie,z,hu,hte,hie,hby,cB,_⟩:=hP.sl ht'
     obtain ⟨⟨i,z,h1,h2,h3,h4,h5⟩,_⟩:=hP.ty te _ hte
     rw [hie] at h1
     cases h1
     have e1:=iH (aW h hx).1 hn
     have e2:=iH (aW h hy).1 hm
     have hmn:(m.toNat:Int)=m:=by omega
     have hpos:(af t:Int)≥1:=by omega
     have hml:m≤140737488355328:=by
      have :m*1≤m*(af t:Int):=Int.mul_le_mul_of_nonneg_left hpos (by omega)
      have :limit=140737488355328:=rfl
      omega
     have hrun:=run_make (P:=P) w t te ie z hu hie h3 .i64 .i64 n m g1 g2 (by rw [hby,Int.mul_comm]; have :limit=140737488355328:=rfl; omega) (by omega)
     obtain ⟨q,hq⟩:=wC (w:=w) hP hte (ay S w0 M0 s0 (ah env.bx []) μ w)
     rw [← h5] at hq
     have hB:=hnew _ (List.mem_singleton.2 rfl) (Nat.le_refl _) (by show B<B+16; omega)
     refine Bf (t:=te) (us:= []) (e:=e) (l:=List.replicate n.toNat (Ty.zero S e)) (cap:=m.toNat) (cells:=madeCells z.cells (m.toNat*ie.size)) (cs:=(madeCells z.cells (n.toNat*Ty.sz S e)).toList) (w1:=w) hP.tobY h hd (Tk.refl S _) hB rfl ⟨rfl,rfl,rfl⟩ ?_ (by simp; omega)
      (by rw [size_madeCells,h2]) (cz.replicate hq _) ?_ hK
     · unfold execOp
       simp only [ho,e1,e2,List.length_replicate]
       simp [hrun]
     · rw [h2]
       simp only [madeCells,Array.toList_map,Array.toList_range]
       have :n.toNat*Ty.sz S e≤m.toNat*Ty.sz S e:=Nat.mul_le_mul_right _ (by omega)
       refine List.IsPrefix.map _ ?_
       exact ⟨(List.range (m.toNat*Ty.sz S e)).drop (n.toNat*Ty.sz S e),by
        conv=>rhs; rw [← List.take_append_drop (n.toNat*Ty.sz S e) (List.range (m.toNat*Ty.sz S e))]
        congr 1
        rw [List.take_range,Nat.min_eq_left this]⟩
   · exact hl.elim
 · exact hl.elim
end
end Go.Sy
namespace Go.Sy
section
variable {P:Program} {S:aK} {af:Nat→Nat}
variable {w0:World} {M0 s0:St} {dq:List Deferred} {env:Env S.C} {a:Act} {w:World} {μ:Nat→Loc} {K:Act→World→Prop} {Q:Exit→Act→World→Prop} {o:Oper} {V:V S.C} {us:aA S.C}
theorem CD {bx aa:Bx S.C} {e:Ty} : ∀ {ps:List (Nat×Sy.V S.C)} {l:List (e.den S.C)},(∀ p ∈ ps, ∀ i ∈ aq S p.2,aa i=bx i)→kP S aa e l ps=kP S bx e l ps
 | [],_,_=>rfl
 | (i,v)::ps,l,h=>by
  obtain ⟨h1,h2⟩:=rL (t:=e) (h (i,v) (by simp))
  simp only [kP,h1,h2]
  congr 1
  cases datum S bx e v with
  | none=>rfl
  | some x=>simp only [Option.bind_some]; rw [CD fun p hp=>h p (by simp [hp])]
theorem CB {bx:Bx S.C} {e:Ty} : ∀ {ps:List (Nat×Sy.V S.C)} {l l':List (e.den S.C)} {us:aA S.C},kP S bx e l ps=some (l',us)→cE bx us∧l'.length=l.length
 | [],_,_,_,h=>by cases h; exact ⟨fun u hu=>by simp at hu,rfl⟩
 | (i,v)::ps,l,l',us,h=>by
  simp only [kP] at h
  cases hi:Nat.blt i (List.length l) with
  | false=>rw [hi] at h; cases h
  | true=>
   rw [hi,cond_true] at h
   obtain ⟨x,hx,h⟩:=Option.bind_eq_some_iff.1 h
   obtain ⟨⟨l2,u2⟩,h2,h⟩:=Option.bind_eq_some_iff.1 h
   cases h
   obtain ⟨g1,g2⟩:=CB h2
   exact ⟨(cE.cQ bx v).append g1,by rw [g2,List.length_set]⟩
theorem CC (hS:bY S) (h:Inv P S w0 M0 s0 dq env a w μ) {e:Ty} {US:aA S.C} (hU:cE env.bx US): ∀ {ps:List (Nat×Sy.V S.C)} {qs:List (Nat×Value)} {l l':List (e.den S.C)} {us:aA S.C} {cells:Array Value},
 uo P S w (ay S w0 M0 s0 env.bx μ w) μ env.bx ps qs→cz w (bC S w0 M0 s0 env.bx (ah env.bx US) μ w) e l cells.toList→kP S env.bx e l ps=some (l',us)→(∀ u ∈ us,u ∈ US)→
 ∃ cells',Instr.fill (fun i=>some (i*Ty.sz S e,Ty.sz S e)) cells qs=some cells'∧cz w (bC S w0 M0 s0 env.bx (ah env.bx US) μ w) e l' cells'.toList
 | [],qs,l,l',us,cells,h1,h2,h3,_=>by
  cases h1; cases h3
  exact ⟨cells,rfl,h2⟩
 | (i,V)::ps,qs,l,l',us,cells,⟨v,r,hq,hv,hr⟩,h2,h3,hs=>by
  subst hq
  simp only [kP] at h3
  cases hi:Nat.blt i (List.length l) with
  | false=>rw [hi] at h3; cases h3
  | true=>
   rw [hi,cond_true] at h3
   have hlt:i<l.length:=by
    have :Nat.ble (i+1) l.length=true:=hi
    exact Nat.le_of_ble_eq_true this
   obtain ⟨x,hx,h3⟩:=Option.bind_eq_some_iff.1 h3
   obtain ⟨⟨l2,u2⟩,h4,h3⟩:=Option.bind_eq_some_iff.1 h3
   cases h3
   obtain ⟨_,d2⟩:=uI hS h (Tk.refl S env.bx) hv hx
   have d3:=d2.mono S (oX S (hU.tk (us:=cQ S env.bx V) fun u hu=>hs u (by simp [hu])))
   obtain ⟨n,d4⟩:=d3.2
   have d5:=d4.length S
   have hc:=h2.1
   have hle:(i+1)*Ty.sz S e≤l.length*Ty.sz S e:=Nat.mul_le_mul_right _ (by omega)
   rw [Nat.add_mul,Nat.one_mul, ← hc] at hle
   obtain ⟨cells',e1,e2⟩:=xW (fun i=>some (i*Ty.sz S e,Ty.sz S e)) (i:=i) rfl (v:=v) (cells:=cells) (by rw [← d5]; simp) (by simpa using hle) r
   obtain ⟨xj,g1,g2⟩:=CC hS h hU (cells:=cells') hr (by rw [e1]; exact h2.set hlt d4) h4 fun u hu=>hs u (by simp [hu])
   exact ⟨xj,by rw [e2]; exact g1,g2⟩
theorem Ik (hP:aL P S af) (h:Inv P S w0 M0 s0 dq env a w μ) (hd: ∀ d,o.dst=some d→d<a.tmps.size) {B:Nat} {t:TypeId} {parts:Array (Nat×Operand)} {e:Ty} (ho:o.op= .buildSlice t 0 parts) (ht:dM S t=some e)
 (hnew: ∀ u ∈ us,B≤u.1→u.1<B+16→env.bx u.1=none)
 (hl:(match parts.toList with
  | []=>ax S (.aP B e []) [(B, .tail)]
  | _=> .fail:Rt S).leaf (V,us)) (hK:Goal P S w0 M0 s0 dq env a o.dst V us K):o.wp P a w K Q:=by
 split at hl
 · rename_i hps
   obtain ⟨rfl,rfl⟩:=bg hl
   have hp:parts= #[]:=by
    have :parts=parts.toList.toArray:=by simp
    rw [this,hps]
   subst hp
   have hB:=hnew (B, .tail) (by simp) (Nat.le_refl _) (by show B<B+16; omega)
   have ht':=jl ht
   obtain ⟨te,ie,z,hu,hte,hie,hby,cB,_⟩:=hP.sl ht'
   have hrun:(execOp a.eval o).run P w= .ok (.value (.slice (some ⟨w.heap.size,0,none⟩) 0 0)) (w.alloc (.cells #[] te)):=by
    unfold execOp
    simp only [ho]
    simp [Instr.buildSlice,run_underlying hu,sizeOf,typeInfo,hie,Array.range_zero',Instr.fill,newRow]
   refine nD (i:=B) (B:= .tail) (V:= .aP B e []) (L:=⟨0,0,0,0,true,fun _ _=>False⟩) h hrun hd (aO.alloc w _ _) hB (fun b o hf=> ?_) (fun _ _ _=>⟨fun j hj=>absurd hj (Nat.not_lt_zero j), ?_⟩) (by simp) (fun j hj=> .inl (by simpa [aq,ak] using hj)) hK
   · have h1:=hf.2.1; have h2:=hf.2.2; simp at h2
   · refine ⟨⟨rfl,1,_,0,rfl,Nat.le_refl _, .inl rfl⟩,fun _=>⟨_,0,rfl, ?_⟩⟩
     rw [aI]
     exact .inr ⟨_,_,rfl,by simp,fun h=>absurd h (Nat.lt_irrefl 0)⟩
 · exact hl.elim
theorem HA (hP:aL P S af) (h:Inv P S w0 M0 s0 dq env a w μ) (hd: ∀ d,o.dst=some d→d<a.tmps.size) {B:Nat} {t:TypeId} {len:Nat} {parts:Array (Nat×Operand)} {ids:List Nat} (ho:o.op= .buildSlice t len parts)
 (cC: ∀ i x,(i,x) ∈ parts.toList→ ∀ V,aE S env.tm x=some V→ ∀ i ∈ aq S V,restrict S env.bx ids i=env.bx i)
 (hnew: ∀ u ∈ us,B≤u.1→u.1<B+16→env.bx u.1=none)
 (hl:(match dM S t with
  | some e=>match parts.toList.mapM (fun (p:Nat×Operand)=>(aE S env.tm p.2).map fun v=>(p.1,v)) with
   | some ps=>cond (Nat.ble (len*Ty.sz S e) 16777216) (match kP S (restrict S env.bx ids) e (List.replicate len (Ty.zero S e)) ps with
    | some (l,us)=>ax S (.az (B)) (us++ [(B,b7.arr e l)])
    | none=>Tr.fail) Tr.fail
   | none=>Tr.fail
  | none=>Tr.fail).leaf (V,us)) (hK:Goal P S w0 M0 s0 dq env a o.dst V us K):o.wp P a w K Q:=by
 split at hl
 · rename_i e ht
   split at hl
   · rename_i ps hps
     cases cL:Nat.ble (len*Ty.sz S e) 16777216 with
     | false=>rw [cL] at hl; exact hl.elim
     | true=>
      rw [cL,cond_true] at hl
      obtain ⟨p1,p2⟩:=zK h hps
      rw [CD (bx:=env.bx) fun p hp i hi=>by
       obtain ⟨x,k,hm,hx⟩:=p2 p hp
       exact cC k x hm p.2 hx i hi] at hl
      split at hl
      · rename_i l fz Dg
        obtain ⟨rfl,rfl⟩:=bg hl
        obtain ⟨f1,f2⟩:=CB Dg
        rw [List.length_replicate] at f2
        have ht':=jl ht
        obtain ⟨te,ie,z,hu,hte,hie,hby,cB,_⟩:=hP.sl ht'
        obtain ⟨⟨i,z,h1,h2,h3,h4,h5⟩,_⟩:=hP.ty te _ hte
        rw [hie] at h1
        cases h1
        obtain ⟨q,hq⟩:=wC (w:=w) hP hte (bC S w0 M0 s0 env.bx (ah env.bx fz) μ w)
        rw [← h5] at hq
        obtain ⟨cells,c1,c2⟩:=CC hP.tobY h f1 (cells:=madeCells z.cells (len*Ty.sz S e)) p1 (cz.replicate hq len) Dg fun u hu=>hu
        have bA:=hnew (B,b7.arr e l) (by simp) (Nat.le_refl _) (by show B<B+16; omega)
        have hB:ah env.bx fz B=none:=by
         rcases cE.at env.bx f1 B with ⟨e1,_⟩ | ⟨_,e',l',e2,_⟩
         · rw [e1]; exact bA
         · rw [show env.bx B=none from bA] at e2; cases e2
        refine Bf (t:=te) (us:=fz) (e:=e) (l:=l) (cap:=len) (cells:=cells) (cs:=cells.toList) (w1:=w) hP.tobY h hd f1.mj hB rfl ⟨rfl,rfl,rfl⟩ ?_ (by omega) (by have :=c2.1; rw [f2] at this; simpa using this)
         (c2.later (wA f1.mj)) (List.prefix_refl _) hK
        unfold execOp
        simp only [ho,f2]
        have hrun:(Instr.buildSlice t len (parts.map fun (i,x)=>(i,a.eval x))).run P w= .ok (.slice (some ⟨w.heap.size,0,none⟩) len len) (w.alloc (.cells cells te)):=by
         have cL:=Nat.le_of_ble_eq_true cL
         rw [← h2] at cL c1
         by_cases h0:len*ie.size=0
         · rw [h0] at c1
           have hm:madeCells z.cells 0= #[]:=by simp [madeCells]
           rw [hm] at c1
           have uB:Instr.fill (fun i=>some (i*ie.size,ie.size)) #[] (parts.toList.map fun x=>(x.1,a.eval x.2))=some cells:=c1
           simp [Instr.buildSlice,run_underlying hu,sizeOf,typeInfo,hie,h0,Array.range_zero',uB,newRow]
         · refine run_buildSlice w t te len _ cells ie z hu hie h3 (by omega) h0 ?_
           rw [Array.toList_map,h2]
           rw [h2] at c1
           exact c1
        simp [hrun]
      · exact hl.elim
   · exact hl.elim
 · exact hl.elim
end
end Go.Sy
namespace Go.Sy
section
variable {P:Program} {S:aK} {af:Nat→Nat}
variable {w0:World} {M0 s0:St} {dq:List Deferred} {env:Env S.C} {a:Act} {w:World} {μ:Nat→Loc} {K:Act→World→Prop} {Q:Exit→Act→World→Prop} {o:Oper} {V:V S.C} {us:aA S.C}
theorem Mo (P:Program) (hS:bY S) {s:St} {n:Nat} {e:Ty} {x:e.den S.C} {cs:List Value} (h:av S w s n e x cs): ∀ u ∈ cs,u.oneCell'=true:=by
 obtain ⟨h1,h2,_⟩:=kM (P:=P) hS (fun _=>⟨0,0,0,0,true,fun _ _=>False⟩) (fun _=>none) h
 exact qP h2 h1
theorem B4 (P:Program) (hS:bY S) {s:St} {e:Ty} {l:List (e.den S.C)} {cs:List Value} (h:cz w s e l cs): ∀ u ∈ cs,u.oneCell'=true:=by
 intro u hu
 obtain ⟨k,hk,JC⟩:=List.getElem_of_mem hu
 have h0:0<Ty.sz S e:=by
  rcases Nat.eq_zero_or_pos (Ty.sz S e) with h0 | h0
  · have :=h.1; rw [h0,Nat.mul_zero] at this; omega
  · exact h0
 have hkl:k<l.length*Ty.sz S e:=by rw [← h.1]; exact hk
 have hi:k / Ty.sz S e<l.length:=Nat.div_lt_of_lt_mul (by rw [Nat.mul_comm]; exact hkl)
 obtain ⟨n,hn⟩:=h.2 (k / Ty.sz S e) _ (List.getElem?_eq_getElem hi)
 refine Mo P hS hn u ?_
 have hd:k / Ty.sz S e*Ty.sz S e+k % Ty.sz S e=k:=by rw [Nat.mul_comm]; exact Nat.div_add_mod k _
 refine List.mem_iff_getElem?.2 ⟨k % Ty.sz S e, ?_⟩
 rw [List.getElem?_take,if_pos (Nat.mod_lt _ h0),List.getElem?_drop,hd,List.getElem?_eq_getElem hk,JC]
def Read (S:aK) (w:World) (s:St) (e:Ty) (l:List (e.den S.C)) (v:Value):Prop:=
 ∃ ad cap,v= .slice ad l.length cap∧l.length≤cap∧(l.length=0∨ ∃ b o,ad=some ⟨b,o,none⟩∧ ∀ i x,l[i]? =some x→ ∃ ds,ds.length=Ty.sz S e∧w.rangeAt b (o+i*Ty.sz S e) ds∧ ∃ n,av S w s n e x ds)
theorem bT.read {s:St} {e:Ty} {l:List (e.den S.C)} {v:Value} (h:bT S w s (.sl e) l v):Read S w s e l v:=by
 obtain ⟨ad,cap,h1,h2,h3⟩:=ji h
 refine ⟨ad,cap,h1,h2,h3.imp id fun ⟨b,o,n,h4,h5⟩=>⟨b,o,h4,fun i x hi=> ?_⟩⟩
 obtain ⟨ds,d1,d2,d3⟩:=h5 i x hi
 exact ⟨ds,d1,d2.range,n,d3⟩
theorem gJ.read {s:St} {e:Ty} {l:List (e.den S.C)} {v:Value} {L:Loc} {ad:Option Addr} {cap:Nat} (hv:v= .slice ad l.length cap) (h:gJ L ad l.length cap (Ty.sz S e))
 (hr: ∀ i x,l[i]? =some x→ ∃ ds,ds.length=Ty.sz S e∧w.rangeAt L.b (L.o+i*Ty.sz S e) ds∧ ∃ n,av S w s n e x ds):Read S w s e l v:=by
 refine ⟨ad,cap,hv,h.fits, ?_⟩
 cases hn:L.nil with
 | true=>
  left
  have h1:=h.isNil hn
  have h2:=h.fits
  have h3:=h.dU
  omega
 | false=>
  right
  have h1:=h.addr
  rw [hn] at h1
  exact ⟨L.b,L.o,h1,hr⟩
theorem zq (h:Inv P S w0 M0 s0 dq env a w μ) {b:Nat} {e:Ty} {l:List (e.den S.C)} {v:Value} (hb:env.bx b=some (.arr e l)∨env.bx b=some (.bn e l)) (hv:RV P S w (ay S w0 M0 s0 env.bx μ w) μ env.bx (.az b) v):
 Read S w (ay S w0 M0 s0 env.bx μ w) e l v:=by
 obtain ⟨_,hv⟩:=hv
 obtain ⟨ad,cap,h1,h2⟩:=hv e l hb
 refine h2.read h1 ?_
 rcases hb with hb | hb
 · exact (h.bw b _ hb).2.2.2.2
 · intro i x hi
   obtain ⟨ds,d1,d2,d3⟩:=(h.bw b _ hb).2.2 i x hi
   exact ⟨ds,d1,d2.range,d3⟩
theorem xH (h:Inv P S w0 M0 s0 dq env a w μ) {e:Ty} {X:Sy.V S.C} {x:Value} {y:List (e.den S.C)} (hx:RV P S w (ay S w0 M0 s0 env.bx μ w) μ env.bx X x) (hy:datum S env.bx (.sl e) X=some y) (hn:rowAt S env.bx X=none):
 Read S w (ay S w0 M0 s0 env.bx μ w) e y x:=by
 cases X with
 | d u z=>
  obtain ⟨rfl,rfl⟩:=dm hy
  exact bT.read hx
 | aP b e' l=>
  obtain ⟨e1,rfl⟩:=dm hy
  cases e1
  exact bT.read hx.1
 | b8=>
  cases hy
  exact ⟨none,0,hx,Nat.le_refl _, .inl rfl⟩
 | az b=>
  have hy:cF S env.bx (.sl e) (.az b)=some y:=hy
  simp only [cF] at hy
  split at hy
  · rename_i e' l hb
    obtain ⟨e1,rfl⟩:=dm hy
    cases e1
    exact zq h (.inl hb) hx
  · rename_i e' l hb
    obtain ⟨e1,rfl⟩:=dm hy
    cases e1
    exact zq h (.inr hb) hx
  · rename_i u l hb
    simp only [rowAt,hb] at hn
    cases hn
  · cases hy
 | _=>cases hy
theorem Read.cells {s:St} {e:Ty} {l:List (e.den S.C)} {v:Value} (h:Read S w s e l v): ∃ ad cap cs,v= .slice ad l.length cap∧l.length≤cap∧cz w s e l cs∧
 (l.length=0∧cs= []∨ ∃ b o,ad=some ⟨b,o,none⟩∧w.rangeAt b o cs):=by
 obtain ⟨ad,cap,h1,h2,h3⟩:=h
 rcases h3 with h3 | ⟨b,o,h3,h4⟩
 · have :l= []:=List.length_eq_zero_iff.1 h3
   subst this
   exact ⟨ad,cap,[],h1,h2,cz.nil, .inl ⟨rfl,rfl⟩⟩
 · obtain ⟨cs,c1,c2⟩:=Fc h4
   exact ⟨ad,cap,cs,h1,h2,c2, .inr ⟨b,o,h3,c1⟩⟩
theorem Read.src (hP:aL P S af) {s:St} {e:Ty} {l:List (e.den S.C)} {v:Value} (h:Read S w s e l v) {tx:Nat} (ht:S.ty tx=some (.sl e)): ∃ news,Src P (Ty.sz S e) tx v l.length news w∧cz w s e l news:=by
 obtain ⟨te,ie,z,hu,_⟩:=hP.sl ht
 obtain ⟨ad,cap,cs,h1,h2,h3,h4⟩:=h.cells
 refine ⟨cs, ?_,h3⟩
 subst h1
 rcases h4 with ⟨h4,rfl⟩ | ⟨b,o,rfl,h4⟩
 · cases ad with
   | none=>rw [h4]; exact Src.ofNil w hu cap
   | some ad=>exact Src.ofSlice w hu ad _ cap [] h3.1 (fun j u hj=>by simp at hj) (fun u hu=>by simp at hu)
 · exact Src.ofSlice w hu _ _ cap cs h3.1 (fun j u hj=>by rw [Addr.add_mid]; exact h4 j u hj) (B4 P hP.tobY h3)
theorem Read.old {s:St} {e:Ty} {l:List (e.den S.C)} {ad:Option Addr} {cap:Nat} (P:Program) (h:Read S w s e l (.slice ad l.length cap)): ∃ olds,(Builtin.firstCells (Ty.sz S e) l.length (.slice ad l.length cap)).run P w.drew= .ok olds.toArray w.drew∧cz w s e l olds∧
 (l.length=0∨ ∃ b o,ad=some ⟨b,o,none⟩∧w.rangeAt b o olds):=by
 obtain ⟨iS,cap',cs,h1,h2,h3,h4⟩:=h.cells
 cases h1
 refine ⟨cs, ?_,h3,h4.imp (·.1) id⟩
 rcases h4 with ⟨h4,rfl⟩ | ⟨b,o,rfl,h4⟩
 · cases ad with
   | none=>exact run_firstCells_none _ _ _ _ _
   | some ad=>exact run_firstCells_some _ _ _ ad _ cap [] h3.1 (fun j u hj=>by simp at hj)
 · exact run_firstCells_some _ _ _ _ _ cap cs h3.1 (fun j u hj=>by rw [Addr.add_mid]; simpa using h4 j u hj)
theorem tB (hP:aL P S af) {t tx ty:Nat} {e:Ty} (ht:S.ty t=some (.sl e)) {n m cap:Nat} {base:Option Addr} {x:Value} {news olds:List Value} (hs:Src P (Ty.sz S e) tx x m news w)
 (hold:(Builtin.firstCells (Ty.sz S e) n (.slice base n cap)).run P w.drew= .ok olds.toArray w.drew) (Dt:olds.length=n*Ty.sz S e) (hle:n≤cap) (cL:(n+m)*af t≤limit):
 (m=0∧(Builtin.append_ #[t,tx] ty #[.slice base n cap,x]).run P w= .ok (.slice base n cap) w)∨
 (0<m∧n+m≤cap∧ ∀ b off,base=some ⟨b,off,none⟩→w.there b (off+n*Ty.sz S e) news.length→(Builtin.append_ #[t,tx] ty #[.slice base n cap,x]).run P w= .ok (.slice base (n+m) cap) (w.setCells b (off+n*Ty.sz S e) news))∨
 (∃ c' te cells,cap<n+m∧n+m≤c'∧Array.size cells=c'*Ty.sz S e∧(olds++news) <+: cells.toList∧
  (Builtin.append_ #[t,tx] ty #[.slice base n cap,x]).run P w= .ok (.slice (some ⟨w.heap.size,0,none⟩) (n+m) c') (w.drew.alloc (.cells cells te))):=by
 obtain ⟨te,ie,_,hu,hte,hie,hby,cB,_⟩:=hP.sl ht
 obtain ⟨⟨i,z,h1,h2,h3,h4,h5⟩,_⟩:=hP.ty te _ hte
 rw [hie] at h1
 cases h1
 rw [← h2] at hs hold Dt ⊢
 rcases Nat.eq_zero_or_pos m with h0 | h0
 · left
   subst h0
   have hn:news= []:=by have :=hs.newsLen; rw [Nat.zero_mul] at this; exact List.length_eq_zero_iff.1 this
   subst hn
   exact ⟨rfl,run_append_nothing w t tx ty te ie hu hie base n cap hle x hs⟩
 · right
   by_cases hroom:n+m≤cap
   · left
     refine ⟨h0,hroom, ?_⟩
     rintro b off rfl bV
     exact run_append_room_src w t tx ty te ie hu hie b off n cap x m news hs hroom (fun j hj=>(bV j hj).1) (fun j hj=>(bV j hj).2)
   · right
     have OM:limit=140737488355328:=rfl
     have h63:((n+m:Nat):Int)≤9223372036854775807:=by
      have :(n+m)*1≤(n+m)*af t:=Nat.mul_le_mul_left _ cB
      omega
     refine ⟨_,te,_,by omega,grownCap_ge w (n+m) cap te, ?_, ?_,run_append_grow_src w t tx ty te ie z hu hie h3 base n cap olds hold x m news hs (by omega) h63 (growslice_fits (by omega) (by rw [hby]; omega))⟩
     · have hg:=grownCap_ge w (n+m) cap te
       have hzs:z.cells.size=ie.size:=by
        have :=congrArg List.length h5
        rw [Array.length_toList] at this
        rw [this,h2]
        cases e <;> simp [pq,Ty.sz]
       rw [Array.size_append,size_zeroCells,hzs,List.size_toArray,List.length_append,Dt,hs.newsLen, ← Nat.add_mul, ← Nat.add_mul]
       congr 1
       omega
     · rw [Array.toList_append,List.toList_toArray]
       exact List.prefix_append _ _
theorem Inv.swap (h:Inv P S w0 M0 s0 dq env a w μ) {b B:Nat} {B0 BX:b7 S.C} {L:Loc} {w':World} {T:St} (hb:env.bx b=some B0) (bp:live S env.bx b) (hB:env.bx B=none)
 (hw:aO w w' T) (hT: ∀ k o,T k o→(μ b).au k o) (hL: ∀ k o,L.au k o→w.heap.size≤k∨(μ b).au k o) (hnc: ∀ vs,BX≠ .cells vs∧BX≠ .bH vs)
 (yt:aV w (ay S w0 M0 s0 env.bx μ w) w' (ay S w0 M0 s0 (ai (ai env.bx b (some .dead)) B (some BX)) (ai μ B L) w')→
  RB P S w' (ay S w0 M0 s0 (ai (ai env.bx b (some .dead)) B (some BX)) (ai μ B L) w') (ai μ B L) (ai (ai env.bx b (some .dead)) B (some BX)) L BX) (hx:kU S (some BX)∨b6 L.ext):
 Inv P S w0 M0 s0 dq { env with bx:=ai (ai env.bx b (some .dead)) B (some BX) } a w' (ai μ B L)∧
 aV w (ay S w0 M0 s0 env.bx μ w) w' (ay S w0 M0 s0 (ai (ai env.bx b (some .dead)) B (some BX)) (ai μ B L) w')∧
 (∀ k o,((μ b).au k o∨k=w.heap.size)→k<w'.heap.size→ ¬ L.au k o→ay S w0 M0 s0 (ai (ai env.bx b (some .dead)) B (some BX)) (ai μ B L) w' k o):=by
 have hne:b≠B:=fun e=>by rw [e,hB] at hb; cases hb
 have hbd:ai (ai env.bx b (some .dead)) B (some BX) b=some .dead:=by rw [aY _ _ hne,aI]
 have yj:ai (ai env.bx b (some .dead)) B (some BX) B=some BX:=aI _ _ _
 have hU: ∀ i, ¬ (i=b∨i=B)→ai (ai env.bx b (some .dead)) B (some BX) i=env.bx i∧ai μ B L i=μ i:=fun i hi=>by
  rw [aY _ _ fun e=>hi (.inr e),aY _ _ fun e=>hi (.inl e),aY _ _ fun e=>hi (.inr e)]
  exact ⟨rfl,rfl⟩
 have gO: ¬ live S (ai (ai env.bx b (some .dead)) B (some BX)) b:=fun hl=>by unfold live at hl; rw [hbd] at hl; exact hl
 have hf: ∀ i,(i=b∨i=B)→live S (ai (ai env.bx b (some .dead)) B (some BX)) i→ ∀ k o,(ai μ B L i).au k o→w.heap.size≤k∨ ∃ j,(j=b∨j=B)∧live S env.bx j∧(μ j).au k o:=by
  rintro i (rfl | rfl) hl k o hfo
  · exact absurd hl gO
  · rw [aI] at hfo
    exact (hL k o hfo).imp id fun hfo=>⟨b, .inl rfl,bp,hfo⟩
 have gm: ∀ k o,T k o→k<w.heap.size→ ∃ i,(i=b∨i=B)∧live S env.bx i∧(μ i).au k o:=fun k o ht _=>⟨b, .inl rfl,bp,hT k o ht⟩
 have hl:=h.later hw gm hU hf
 refine ⟨h.step (U:=fun i=>i=b∨i=B) hw gm hU hf ?_ ?_ ?_ ?_ ?_,hl, ?_⟩
 · intro i B1 hi
   by_cases e1:i=b
   · subst e1
     refine ⟨_,hbd, ?_⟩
     rw [aY _ _ hne]
     cases B1 <;> rfl
   · have e2:i≠B:=fun e=>by rw [e,hB] at hi; cases hi
     rw [aY _ _ e2,aY _ _ e1,aY _ _ e2]
     exact ⟨B1,hi,cg.refl S _ _⟩
 · rintro i j (rfl | rfl) (rfl | rfl) hij li lj
   · exact absurd rfl hij
   · exact absurd li gO
   · exact absurd lj gO
   · exact absurd rfl hij
 · rintro i B1 (rfl | rfl) jn
   · rw [hbd] at jn; cases jn; trivial
   · rw [yj] at jn; cases jn
     rw [aI]
     exact yt hl
 · rintro i vs (rfl | rfl) hvs
   · rcases hvs with hvs | hvs <;> · rw [hbd] at hvs; cases hvs
   · rcases hvs with hvs | hvs <;> rw [yj] at hvs
     · exact absurd (Option.some.inj hvs) (hnc vs).1
     · exact absurd (Option.some.inj hvs) (hnc vs).2
 · rintro i (rfl | rfl) oa
   · exact absurd oa gO
   · rw [yj,aI]; exact hx
 · intro k o' hk hlt JP
   refine ⟨hlt, ?_,fun i li hfo=> ?_⟩
   · rcases hk with hk | rfl
     · exact (h.own b bp k o' hk).elim (fun h=> .inr (.inr h)) (fun h=> .inr (.inl h))
     · exact .inr (.inr h.gL.size)
   · by_cases e1:i=b
     · subst e1; exact gO li
     · by_cases e2:i=B
       · subst e2; rw [aI] at hfo; exact JP hfo
       · have hu:=hU i fun e=>e.elim e1 e2
         rw [dA S hu.1] at li
         rw [hu.2] at hfo
         rcases hk with hk | rfl
         · exact h.cM i b e1 li bp _ _ hfo hk
         · exact absurd (ju P S (h.bw i) (h.ext i li) li hfo).1 (Nat.lt_irrefl _)
end
end Go.Sy
namespace Go.Sy
section
variable {P:Program} {S:aK} {af:Nat→Nat}
variable {w0:World} {M0 s0:St} {dq:List Deferred} {env:Env S.C} {a:Act} {w:World} {μ:Nat→Loc} {K:Act→World→Prop} {Q:Exit→Act→World→Prop} {o:Oper} {V:V S.C} {us:aA S.C}
theorem AZ {s:St} {e:Ty} {l:List (e.den S.C)} {b o' cap:Nat} (hle:l.length≤cap)
 (hall: ∀ (i:Nat) (x:e.den S.C),l[i]? =some x→ ∃ ds,ds.length=Ty.sz S e∧At w s b (o'+i*Ty.sz S e) ds∧ ∃ n,av S w s n e x ds):bT S w s (.sl e) l (.slice (some ⟨b,o',none⟩) l.length cap):=by
 have : ∀ m,m≤l.length→ ∃ n, ∀ (i:Nat) (x:e.den S.C),i<m→l[i]? =some x→ ∃ ds,ds.length=Ty.sz S e∧At w s b (o'+i*Ty.sz S e) ds∧av S w s n e x ds:=by
  intro m
  induction m with
  | zero=>exact fun _=>⟨0,fun i x hi=>by omega⟩
  | succ m ih=>
   intro hm
   obtain ⟨n,hn⟩:=ih (by omega)
   obtain ⟨ds,h1,h2,n',h3⟩:=hall m l[m] (by simp)
   refine ⟨max n n',fun i x hi hx=> ?_⟩
   by_cases e:i=m
   · subst e
     have :x=l[i]:=by simpa [List.getElem?_eq_getElem (show i<l.length by omega)] using hx.symm
     subst this
     exact ⟨ds,h1,h2,h3.up S (by omega)⟩
   · obtain ⟨ds,h1,h2,h3⟩:=hn i x (by omega) hx
     exact ⟨ds,h1,h2,h3.up S (by omega)⟩
 obtain ⟨n,hn⟩:=this l.length (Nat.le_refl _)
 exact ⟨rfl,n+1,_,cap,rfl,hle, .inr ⟨b,o',rfl,fun i x hx=>hn i x (List.getElem?_eq_some_iff.1 hx).1 hx⟩⟩
theorem cz.at {s:St} {e:Ty} {l:List (e.den S.C)} {cs:List Value} (h:cz w s e l cs) {b o':Nat} (hr:At w s b o' cs):
 ∀ i x,l[i]? =some x→ ∃ ds,ds.length=Ty.sz S e∧At w s b (o'+i*Ty.sz S e) ds∧ ∃ n,av S w s n e x ds:=fun i x hi=>by
 obtain ⟨n,hn⟩:=h.2 i x hi
 exact ⟨_,hn.length S,hr.part _ _,n,hn⟩
theorem G3 {s:St} {e:Ty} {l l':List (e.den S.C)} {b o':Nat}
 (h1: ∀ i x,l[i]? =some x→ ∃ ds,ds.length=Ty.sz S e∧At w s b (o'+i*Ty.sz S e) ds∧ ∃ n,av S w s n e x ds)
 (h2: ∀ i x,l'[i]? =some x→ ∃ ds,ds.length=Ty.sz S e∧At w s b (o'+l.length*Ty.sz S e+i*Ty.sz S e) ds∧ ∃ n,av S w s n e x ds):
 ∀ i x,(l++l')[i]? =some x→ ∃ ds,ds.length=Ty.sz S e∧At w s b (o'+i*Ty.sz S e) ds∧ ∃ n,av S w s n e x ds:=fun i x hi=>by
 by_cases hlt:i<l.length
 · rw [List.getElem?_append_left hlt] at hi; exact h1 i x hi
 · rw [List.getElem?_append_right (by omega)] at hi
   have :=h2 _ x hi
   rw [Nat.add_assoc, ← Nat.add_mul,show l.length+(i - l.length)=i from by omega] at this
   exact this
theorem rz {s:St} {e:Ty} {l l':List (e.den S.C)} {b o':Nat}
 (h1: ∀ i x,l[i]? =some x→ ∃ ds,ds.length=Ty.sz S e∧w.rangeAt b (o'+i*Ty.sz S e) ds∧ ∃ n,av S w s n e x ds)
 (h2: ∀ i x,l'[i]? =some x→ ∃ ds,ds.length=Ty.sz S e∧w.rangeAt b (o'+l.length*Ty.sz S e+i*Ty.sz S e) ds∧ ∃ n,av S w s n e x ds):
 ∀ i x,(l++l')[i]? =some x→ ∃ ds,ds.length=Ty.sz S e∧w.rangeAt b (o'+i*Ty.sz S e) ds∧ ∃ n,av S w s n e x ds:=fun i x hi=>by
 by_cases hlt:i<l.length
 · rw [List.getElem?_append_left hlt] at hi; exact h1 i x hi
 · rw [List.getElem?_append_right (by omega)] at hi
   have :=h2 _ x hi
   rw [Nat.add_assoc, ← Nat.add_mul,show l.length+(i - l.length)=i from by omega] at this
   exact this
theorem nE (h:Inv P S w0 M0 s0 dq env a w μ) (hd: ∀ d,o.dst=some d→d<a.tmps.size) {b B:Nat} {B0 BX:b7 S.C} {L:Loc} {w':World} {T:St} {v:Value} (hb:env.bx b=some B0) (bp:live S env.bx b) (hB:env.bx B=none)
 (hrun:(execOp a.eval o).run P w= .ok (.value v) w')
 (hw:aO w w' T) (hT: ∀ k o,T k o→(μ b).au k o) (hL: ∀ k o,L.au k o→w.heap.size≤k∨(μ b).au k o) (hnc: ∀ vs,BX≠ .cells vs∧BX≠ .bH vs)
 (yt: ∀ s',aV w (ay S w0 M0 s0 env.bx μ w) w' s'→RB P S w' s' (ai μ B L) (ai (ai env.bx b (some .dead)) B (some BX)) L BX)
 (hV: ∀ s',aV w (ay S w0 M0 s0 env.bx μ w) w' s'→(∀ k o,((μ b).au k o∨k=w.heap.size)→k<w'.heap.size→ ¬ L.au k o→s' k o)→
  RV P S w' s' (ai μ B L) (ai (ai env.bx b (some .dead)) B (some BX)) V v)
 (jo: ∀ i ∈ aq S V,i=B) (hK:Goal P S w0 M0 s0 dq env a o.dst V [(b, .dead),(B,BX)] K) (Kb:kU S (some BX)∨b6 L.ext:=by first | exact .inr (fun _ _ h=>h) | exact .inr (by assumption)):o.wp P a w K Q:=by
 obtain ⟨hI,hl,hm⟩:=h.swap hb bp hB hw hT hL hnc (yt _) Kb
 unfold Oper.wp
 rw [hrun]
 refine hK _ w' _ (hI.put hd (hV _ hl hm) fun i hi=> ?_) ?_
 · rw [jo i hi]
   show ai (ai env.bx b (some .dead)) B (some BX) B≠none
   rw [aI]; simp
 · cases o.dst <;> simp [Act.put]
theorem w6 {f:Operand→Option (Sy.V S.C)} {xs:List Operand} {v u:Sy.V S.C} (h:xs.mapM f=some [v,u]): ∃ x y,xs= [x,y]∧f x=some v∧f y=some u:=by
 cases xs with
 | nil=>cases h
 | cons x r=>
  obtain ⟨y,zs,h1,h2,h3⟩:=kX h
  cases h3
  cases r with
  | nil=>cases h2
  | cons x' r'=>
   obtain ⟨y',zs',h4,h5,h6⟩:=kX h2
   cases h6
   cases r' with
   | nil=>exact ⟨x,x',rfl,h1,h4⟩
   | cons x'' r''=>
    obtain ⟨y',zs',h7,h8,h9⟩:=kX h5
    cases h9
theorem aO.grown {w:World} {cells:Array Value} {t:TypeId} (T:St):aO w (w.drew.alloc (.cells cells t)) T:=
 (aO.drew w T).trans (aO.alloc w.drew _ T) (fun _ _ h=>h) (fun _ _ _ h=>h)
theorem yh {w:World} {cells:Array Value} {t:TypeId} :(w.drew.alloc (.cells cells t)).there w.heap.size 0 cells.size∧(w.drew.alloc (.cells cells t)).rangeAt w.heap.size 0 cells.toList∧w.heap.size<(w.drew.alloc (.cells cells t)).heap.size:=by
 obtain ⟨h1,h2⟩:=k6 (w:=w.drew) (cs:=cells) (t:=t)
 exact ⟨h1,h2,by simp⟩
theorem vJ {w:World} {b o':Nat} {cs ds:List Value} (h:w.rangeAt b o' ds) (hp:cs <+: ds):w.rangeAt b o' cs:=fun j v hj=>by
 obtain ⟨r,rfl⟩:=hp
 exact h j v (by rw [List.getElem?_append_left (List.getElem?_eq_some_iff.1 hj).1]; exact hj)
theorem K4 {α:Type} (l:List α) {n i m:Int} (h0:0≤n) (h1:n≤i) (h2:0≤m) (h3:i.toNat+m.toNat≤l.length):(kY l n i m).length=l.length:=by
 unfold kY
 simp only [List.length_append,List.length_take,List.length_drop]
 omega
theorem G4 (hP:aL P S af) (h:Inv P S w0 M0 s0 dq env a w μ) (hd: ∀ d,o.dst=some d→d<a.tmps.size) {c:Call} (ho:o.op= .call c) (hc:c.callee= .builtin .append) {args:List (Sy.V S.C)} {ids:List Nat} {B:Nat}
 (hargs:c.args.toList.mapM (aE S env.tm)=some args) (cC: ∀ V ∈ args, ∀ i ∈ aq S V,restrict S env.bx ids i=env.bx i)
 (hnew: ∀ u ∈ us,B≤u.1→u.1<B+16→env.bx u.1=none) (hrows: ∀ s V,args= [s,V]→rowAt S env.bx V=none)
 (hl:(match args,c.argTypes.toList with
  | [s,x],[t,u]=>match dM S t,dM S u with
   | some e,some e'=>if e=e' then pH S B (af t) e (restrict S env.bx ids) x s else .fail
   | _,_=> .fail
  | _,_=> .fail).leaf (V,us)) (hK:Goal P S w0 M0 s0 dq env a o.dst V us K):o.wp P a w K Q:=by
 split at hl
 · rename_i Vs Vx t tx mT
   split at hl
   · rename_i e e' het pZ
     split at hl
     · rename_i hee
       subst hee
       obtain ⟨xs,xx,hxs,j7,hex⟩:=w6 hargs
       obtain ⟨hs,_⟩:=aW h j7
       obtain ⟨hx,_⟩:=aW h hex
       have ht:=jl het
       have lU:=jl pZ
       have cu:c.argTypes= #[t,tx]:=by
        have :c.argTypes=c.argTypes.toList.toArray:=by simp
        rw [this,mT]
       have har:c.args= #[xs,xx]:=by
        have :c.args=c.args.toList.toArray:=by simp
        rw [this,hxs]
       have hrun: ∀ {v:Value} {w':World},(Builtin.append_ #[t,tx] o.type #[a.eval xs,a.eval xx]).run P w= .ok v w'→(execOp a.eval o).run P w= .ok (.value v) w':=by
        intro v w' hr
        unfold execOp
        simp only [ho]
        simp [resolve,hc,har,cu,invoke,builtin,hr]
       have uS: ∀ BX,(B,BX) ∈ us→env.bx B=none:=fun BX hm=>hnew _ hm (Nat.le_refl _) (by show B<B+16; omega)
       have pY: ∀ y,datum S (restrict S env.bx ids) (.sl e) Vx=some y→datum S env.bx (.sl e) Vx=some y:=fun y hy=>by
        rw [← (rL (t:= .sl e) (cC Vx (by simp))).1]; exact hy
       cases Vs with
       | aP b e' l=>
        simp only [pH] at hl
        split at hl
        · rename_i hb
          have hb:=dD hb
          split at hl
          · rename_i l' hl'
            obtain ⟨e1,e2⟩:=dm hl'
            cases e1
            dsimp only at e2
            subst e2
            split at hl
            · rename_i y hy
              obtain ⟨hg,rfl,rfl⟩:=d_ hl
              have cL:(l.length+y.length)*af t≤limit:=hg (gd ((l.length+y.length)*af t≤limit)) (by simp)
              have hB:=uS .tail (by simp)
              obtain ⟨iX,hown⟩:=hs
              obtain ⟨ad,cap,fC,DC⟩:=hown hb
              obtain ⟨news,hsrc,hnews⟩:=(xH h hx (pY y hy) (hrows _ Vx rfl)).src hP lU
              have hread:=iX.read
              rw [fC] at hread
              have hle:l.length≤cap:=by obtain ⟨_,_,q1,q2,_⟩:=hread; cases q1; exact q2
              obtain ⟨olds,hold,holds,_⟩:=hread.old P
              have bp:live S env.bx b:=by unfold live; rw [hb]; trivial
              have yE:b6 (μ b).ext:=(h.ext b bp).resolve_left (by rw [hb]; exact id)
              have bV:w.there (μ b).b (μ b).o (μ b).n:=h.bw b _ hb
              have jo: ∀ i ∈ aq S (.aP B e (List.append l y):Sy.V S.C),i=B:=fun i hi=>by simpa [aq,ak] using hi
              rcases tB (ty:=o.type) hP ht hsrc hold holds.1 hle cL with ⟨h0,hr⟩ | ⟨h0,hroom,hr⟩ | ⟨c',te,cells,hcap,fW,n7,hpre,hr⟩
              · have :y= []:=List.length_eq_zero_iff.1 h0
                subst this
                rw [← fC] at hr
                refine nE (V:= .aP B e (List.append l [])) (BX:= .tail) (L:=μ b) h hd hb bp hB (hrun hr) (aO.refl w (fun _ _=>False)) (fun _ _ h=>h.elim) (fun _ _ h=> .inr h) (fun vs=>⟨by simp,by simp⟩) (fun s' hl=>bV) (fun s' hl _=>⟨?_,fun _=>⟨ad,cap, ?_, ?_⟩⟩) jo hK
                · rw [show List.append l []=l from List.append_nil l]; exact iX.mono S hl
                · rw [show List.append l []=l from List.append_nil l]; exact fC
                · rw [show List.append l []=l from List.append_nil l,aI]; exact DC
              · have hnl:=hsrc.newsLen
                rcases DC with ⟨_,hc0,_⟩ | ⟨b0,off,rfl,hn,hlt⟩
                · omega
                · obtain ⟨q1,q2⟩:=hlt (by omega)
                  have hmul:y.length*Ty.sz S e≤(cap - l.length)*Ty.sz S e:=Nat.mul_le_mul_right _ (by omega)
                  have hsplit:(cap - l.length)*Ty.sz S e=y.length*Ty.sz S e+(cap - (l.length+y.length))*Ty.sz S e:=by rw [← Nat.add_mul]; congr 1; omega
                  have hsum:(l.length+y.length)*Ty.sz S e=l.length*Ty.sz S e+y.length*Ty.sz S e:=Nat.add_mul ..
                  rw [q1,q2] at bV
                  have eR:w.there b0 (off+l.length*Ty.sz S e) news.length:=jM bV (Nat.le_refl _) (by omega)
                  have hr:=hr b0 off rfl eR
                  rw [← fC] at hr
                  refine nE (V:= .aP B e (List.append l y)) (BX:= .tail) (L:=⟨b0,off+(l.length+y.length)*Ty.sz S e,(cap - (l.length+y.length))*Ty.sz S e,0,false,fun _ _=>False⟩) h hd hb bp hB (hrun hr) (aO.setCells w b0 _ news eR) (fun k o' hk=> ?_) (fun k o' hk=> .inr ?_) (fun vs=>⟨by simp,by simp⟩)
                   (fun s' hl=> ?_) (fun s' hl hm=>⟨?_,fun _=>⟨some ⟨b0,off,none⟩,cap, ?_, ?_⟩⟩) jo hK
                  · exact .inl ⟨by rw [q1]; exact hk.1,by omega,by omega⟩
                  · obtain ⟨k1,k2,k3⟩:=Loc.ia (fun _ _ h=>h) hk
                    dsimp only at k1 k2 k3
                    exact .inl ⟨by rw [q1]; exact k1,by omega,by omega⟩
                  · exact nw (jM bV (by dsimp only; omega) (by dsimp only; omega)) eR
                  · have hv:a.eval xs= .slice (some ⟨b0,off,none⟩) l.length cap:=fC
                    obtain ⟨_,_,z1,z2,z3⟩:=ji iX
                    rw [hv] at z1
                    cases z1
                    have hel: ∀ i x,l[i]? =some x→ ∃ ds,ds.length=Ty.sz S e∧At (w.setCells b0 (off+l.length*Ty.sz S e) news) s' b0 (off+i*Ty.sz S e) ds∧ ∃ n,av S (w.setCells b0 (off+l.length*Ty.sz S e) news) s' n e x ds:=by
                     intro i x hi
                     rcases z3 with z3 | ⟨b1,o1,n,z4,z5⟩
                     · have :=(List.getElem?_eq_some_iff.1 hi).1; omega
                     · cases z4
                       obtain ⟨ds,d1,d2,d3⟩:=z5 i x hi
                       exact ⟨ds,d1,d2.later hl,n,d3.mono S hl (Nat.le_refl _)⟩
                    have hnew2:At (w.setCells b0 (off+l.length*Ty.sz S e) news) s' b0 (off+l.length*Ty.sz S e) news:=fun j v hj=>by
                     have hjl:=(List.getElem?_eq_some_iff.1 hj).1
                     have jq:=ql eR j v hj
                     refine ⟨jq,hm _ _ (.inl (.inl ⟨by rw [q1],by omega,by omega⟩)) (World.block_lt_of_cell? _ _ jq) fun hf=> ?_⟩
                     have :=(Loc.ia (fun _ _ h=>h) hf).2.1
                     dsimp only at this
                     omega
                    have :=AZ (cap:=cap) (b:=b0) (o':=off) (l:=List.append l y) (by rw [show (List.append l y).length=l.length+y.length from List.length_append]; exact hroom) (G3 hel ((hnews.later hl).at hnew2))
                    rw [show (List.append l y).length=l.length+y.length from List.length_append] at this
                    exact this
                  · show Value.slice _ _ _=_
                    rw [show (List.append l y).length=l.length+y.length from List.length_append]
                  · rw [show (List.append l y).length=l.length+y.length from List.length_append,aI]
                    exact .inr ⟨b0,off,rfl,rfl,fun _=>⟨rfl,rfl⟩⟩
              · rw [← fC] at hr
                obtain ⟨g1,g2,g3⟩:=yh (w:=w) (cells:=cells) (t:=te)
                have hsplit:c'*Ty.sz S e=(l.length+y.length)*Ty.sz S e+(c' - (l.length+y.length))*Ty.sz S e:=by rw [← Nat.add_mul]; congr 1; omega
                refine nE (V:= .aP B e (List.append l y)) (BX:= .tail) (L:=⟨w.heap.size,(l.length+y.length)*Ty.sz S e,(c' - (l.length+y.length))*Ty.sz S e,0,false,fun _ _=>False⟩) h hd hb bp hB (hrun hr) (aO.grown (fun _ _=>False)) (fun _ _ h=>h.elim) (fun k o' hk=> .inl (Nat.le_of_eq (Loc.ia (fun _ _ h=>h) hk).1.symm)) (fun vs=>⟨by simp,by simp⟩)
                 (fun s' hl=>jM g1 (Nat.zero_le _) (by dsimp only; omega)) (fun s' hl hm=>⟨?_,fun _=>⟨some ⟨w.heap.size,0,none⟩,c', ?_, ?_⟩⟩) jo hK
                · have hall:At (w.drew.alloc (.cells cells te)) s' w.heap.size 0 (olds++news):=fun j v hj=>by
                   have hjl:=(List.getElem?_eq_some_iff.1 hj).1
                   rw [List.length_append,holds.1,hnews.1, ← Nat.add_mul] at hjl
                   refine ⟨vJ g2 hpre j v hj,hm _ _ (.inr rfl) g3 fun hf=> ?_⟩
                   have :=(Loc.ia (fun _ _ h=>h) hf).2.1
                   dsimp only at this
                   omega
                  have :=AZ (cap:=c') (b:=w.heap.size) (o':=0) (l:=List.append l y) (by rw [show (List.append l y).length=l.length+y.length from List.length_append]; exact fW) (((holds.append hnews).later hl).at hall)
                  rw [show (List.append l y).length=l.length+y.length from List.length_append] at this
                  exact this
                · show Value.slice _ _ _=_
                  rw [show (List.append l y).length=l.length+y.length from List.length_append]
                · rw [show (List.append l y).length=l.length+y.length from List.length_append,aI]
                  exact .inr ⟨_,0,rfl,rfl,fun _=>⟨rfl,by dsimp only; omega⟩⟩
            · exact hl.elim
          · exact hl.elim
        · exact hl.elim
       | az b=>
        simp only [pH] at hl
        split at hl
        · rename_i e' l hb
          have hb:=dD hb
          split at hl
          · rename_i l' hl'
            obtain ⟨e1,e2⟩:=dm hl'
            cases e1
            dsimp only at e2
            subst e2
            split at hl
            · rename_i y hy
              obtain ⟨hg,rfl,rfl⟩:=d_ hl
              have cL:(l.length+y.length)*af t≤limit:=hg (gd ((l.length+y.length)*af t≤limit)) (by simp)
              have hB:=uS (.arr e (List.append l y)) (by simp)
              have hread:=zq h (.inl hb) hs
              obtain ⟨ad,cap,fC,ff⟩:=hs.2 e l (.inl hb)
              obtain ⟨news,hsrc,hnews⟩:=(xH h hx (pY y hy) (hrows _ Vx rfl)).src hP lU
              rw [fC] at hread
              have hle:l.length≤cap:=ff.fits
              obtain ⟨olds,hold,holds,_⟩:=hread.old P
              have bp:live S env.bx b:=by unfold live; rw [hb]; trivial
              have yE:b6 (μ b).ext:=(h.ext b bp).resolve_left (by rw [hb]; exact id)
              obtain ⟨b1,b2,b3,bV,b5⟩:=h.bw b _ hb
              have jo: ∀ i ∈ aq S (.az B:Sy.V S.C),i=B:=fun i hi=>by simpa [aq,ak] using hi
              have Jh:=ff.dU
              have cl: ∀ {w':World} {s':St} {μ':Nat→Loc} {L:Loc} {v:Value} {iS:Option Addr} {cap':Nat},v= .slice iS (l.length+y.length) cap'→gJ L iS (l.length+y.length) cap' (Ty.sz S e)→μ' B=L→
               RV P S w' s' μ' (ai (ai env.bx b (some .dead)) B (some (.arr e (List.append l y)))) (.az B) v:=by
               rintro w' s' μ' L v iS cap' rfl hok hμ
               refine ⟨⟨⟨_,_,_,rfl⟩,fun u2 l2 q2 h2=>by rw [aI] at h2; cases h2⟩,fun e2 l2 h2=> ?_⟩
               rw [aI] at h2
               rcases h2 with h2 | h2
               · cases h2
                 rw [hμ,show (List.append l y).length=l.length+y.length from List.length_append]
                 exact ⟨iS,cap',rfl,hok⟩
               · cases h2
              rcases tB (ty:=o.type) hP ht hsrc hold holds.1 hle cL with ⟨h0,hr⟩ | ⟨h0,hroom,hr⟩ | ⟨c',te,cells,hcap,fW,n7,hpre,hr⟩
              · have :y= []:=List.length_eq_zero_iff.1 h0
                subst this
                rw [← fC] at hr
                refine nE (V:= .az B) (BX:= .arr e (List.append l [])) (L:=μ b) h hd hb bp hB (hrun hr) (aO.refl w (fun _ _=>False)) (fun _ _ h=>h.elim) (fun _ _ h=> .inr h) (fun vs=>⟨by simp,by simp⟩) (fun s' hl=> ?_) (fun s' hl _=>cl fC ff (aI _ _ _)) jo hK
                rw [show List.append l []=l from List.append_nil l]
                refine ⟨b1,b2,b3,bV,fun i x hi=> ?_⟩
                obtain ⟨ds,d1,d2,n,d3⟩:=b5 i x hi
                exact ⟨ds,d1,d2,n,d3.mono S hl (Nat.le_refl _)⟩
              · have hnl:=hsrc.newsLen
                have fB:(μ b).nil=false:=by
                 cases hn:(μ b).nil with
                 | false=>rfl
                 | true=>have :=ff.isNil hn; omega
                have had:=ff.addr
                rw [fB] at had
                have hmul:(l.length+y.length)*Ty.sz S e≤(μ b).cap*Ty.sz S e:=Nat.mul_le_mul_right _ (by omega)
                rw [Nat.add_mul] at hmul
                have eR:w.there (μ b).b ((μ b).o+l.length*Ty.sz S e) news.length:=jM bV (by omega) (by omega)
                have hr:=hr _ _ had eR
                rw [← fC] at hr
                refine nE (V:= .az B) (BX:= .arr e (List.append l y)) (L:=μ b) h hd hb bp hB (hrun hr) (aO.setCells w (μ b).b _ news eR) (fun k o' hk=> .inl ⟨hk.1,by omega,by omega⟩) (fun k o' hk=> .inr hk) (fun vs=>⟨by simp,by simp⟩)
                 (fun s' hl=>⟨b1,b2, ?_,nw bV eR, ?_⟩) (fun s' hl hm=>cl (cap':=cap) rfl ?_ (aI _ _ _)) jo hK
                · rw [show (List.append l y).length=l.length+y.length from List.length_append]; omega
                · refine rz (fun i x hi=> ?_) ((hnews.later hl).row (ql eR))
                  obtain ⟨ds,d1,d2,n,d3⟩:=b5 i x hi
                  refine ⟨ds,d1,mW d2 (.inr (.inl ?_)),n,d3.mono S hl (Nat.le_refl _)⟩
                  have yJ:=(List.getElem?_eq_some_iff.1 hi).1
                  have :(i+1)*Ty.sz S e≤l.length*Ty.sz S e:=Nat.mul_le_mul_right _ (by omega)
                  rw [Nat.add_mul,Nat.one_mul] at this
                  omega
                · exact ⟨ff.addr,ff.dU,ff.cells,ff.isNil,hroom⟩
              · rw [← fC] at hr
                obtain ⟨g1,g2,g3⟩:=yh (w:=w) (cells:=cells) (t:=te)
                refine nE (V:= .az B) (BX:= .arr e (List.append l y)) (L:=⟨w.heap.size,0,c'*Ty.sz S e,c',false,fun _ _=>False⟩) h hd hb bp hB (hrun hr) (aO.grown (fun _ _=>False)) (fun _ _ h=>h.elim) (fun k o' hk=> .inl (Nat.le_of_eq (Loc.ia (fun _ _ h=>h) hk).1.symm)) (fun vs=>⟨by simp,by simp⟩)
                 (fun s' hl=>⟨rfl,(fun h=>by cases h), ?_,by show World.there _ w.heap.size 0 (c'*Ty.sz S e); rw [← n7]; exact g1, ?_⟩) (fun s' hl hm=>cl (cap':=c') rfl ⟨rfl,rfl,rfl,(fun h=>by cases h),fW⟩ (aI _ _ _)) jo hK
                · rw [show (List.append l y).length=l.length+y.length from List.length_append]; exact fW
                · exact ((holds.append hnews).later hl).row (vJ g2 hpre)
            · exact hl.elim
          · exact hl.elim
        · exact hl.elim
       | pre b n=>
        simp only [pH] at hl
        split at hl
        · rename_i e' l b' i m hb _
          have hb:=dD hb
          cases sj:Nat.beq b' b with
          | false=>rw [sj] at hl; exact hl.elim
          | true=>
           rw [sj,cond_true] at hl
           have :=Nat.eq_of_beq_eq_true sj
           subst this
           split at hl
           · rename_i l' hl'
             obtain ⟨e1,e2⟩:=dm hl'
             cases e1
             dsimp only at e2
             subst e2
             obtain ⟨hg,rfl,rfl⟩:=d_ hl
             have hni:n≤i:=hg (gd (n≤i)) (by simp)
             have JG:List.length l*af t≤limit:=hg (gd (List.length l*af t≤limit)) (by simp)
             have hB:=uS (.arr e (kY l n i m)) (by simp)
             obtain ⟨hn0,hnl,ad,cap,fC,ff⟩:=hs.2 e l hb
             obtain ⟨hi0,hm0,yK,wZ,BP,yZ,JM,I8⟩:=hx.2 e l hb
             obtain ⟨b1,b2,b3,bV,b5⟩:=h.bw b' _ hb
             have Jh:=ff.dU
             have bp:live S env.bx b':=by unfold live; rw [hb]; trivial
             have yE:b6 (μ b').ext:=(h.ext b' bp).resolve_left (by rw [hb]; exact id)
             obtain ⟨y,hy⟩: ∃ y,y=(List.drop i.toNat l).take m.toNat:=⟨_,rfl⟩
             have Ke:y.length=m.toNat:=by rw [hy,List.length_take,List.length_drop]; omega
             have Kc: ∀ k x,y[k]? =some x→l[i.toNat+k]? =some x:=fun k x hk=>by
              rw [hy,List.getElem?_take] at hk
              split at hk
              · rwa [List.getElem?_drop] at hk
              · cases hk
             have hrd:Read S w (ay S w0 M0 s0 env.bx μ w) e y (a.eval xx):=by
              refine ⟨wZ,BP,by rw [Ke]; exact yZ,by omega, ?_⟩
              rcases I8 with h0 | h0
              · exact .inl (by omega)
              · refine .inr ⟨_,_,h0,fun k x hk=> ?_⟩
                obtain ⟨ds,d1,d2,q,d3⟩:=b5 _ x (Kc k x hk)
                exact ⟨ds,d1,by rw [show (μ b').o+i.toNat*Ty.sz S e+k*Ty.sz S e=(μ b').o+(i.toNat+k)*Ty.sz S e from by rw [Nat.add_mul]; omega]; exact d2,q,d3⟩
             have iW:(List.take n.toNat l).length=n.toNat:=by rw [List.length_take]; omega
             have JX:Read S w (ay S w0 M0 s0 env.bx μ w) e (List.take n.toNat l) (.slice ad (List.take n.toNat l).length cap):=by
              refine ⟨ad,cap,rfl,by rw [iW]; exact ff.fits, ?_⟩
              by_cases h0:n.toNat=0
              · exact .inl (by rw [iW]; exact h0)
              · have fB:(μ b').nil=false:=by
                 cases hn:(μ b').nil with
                 | false=>rfl
                 | true=>have :=ff.isNil hn; have :=ff.fits; omega
                have had:=ff.addr
                rw [fB] at had
                refine .inr ⟨_,_,had,fun k x hk=> ?_⟩
                rw [List.getElem?_take] at hk
                split at hk
                · exact b5 k x hk
                · cases hk
             obtain ⟨news,hsrc,hnews⟩:=hrd.src hP lU
             obtain ⟨olds,hold,holds,_⟩:=JX.old P
             rw [iW] at hold
             have hol:=holds.1
             rw [iW] at hol
             have cL:(n.toNat+y.length)*af t≤limit:=Nat.le_trans (Nat.mul_le_mul_right _ (by omega)) JG
             have jo: ∀ j ∈ aq S (.pre B (n+m):Sy.V S.C),j=B:=fun j hj=>by simpa [aq,ak] using hj
             have hml:=K4 l hn0 hni hm0 yK
             have hnm:(n+m).toNat=n.toNat+y.length:=by omega
             have cl: ∀ {w':World} {s':St} {μ':Nat→Loc} {v:Value},v= .slice ad (n.toNat+y.length) cap→μ' B=μ b'→
              RV P S w' s' μ' (ai (ai env.bx b' (some .dead)) B (some (.arr e (kY l n i m)))) (.pre B (n+m)) v:=by
              rintro w' s' μ' v rfl hμ
              refine ⟨⟨_,_,_,rfl⟩,fun e2 l2 h2=> ?_⟩
              rw [aI] at h2
              cases h2
              rw [hμ,hml]
              exact ⟨by omega,by omega,ad,cap,by rw [hnm],ff.addr,ff.dU,ff.cells,ff.isNil,by omega⟩
             have Dp:kY l n i m=(List.take n.toNat l++y)++List.drop (n.toNat+y.length) l:=by
              unfold kY; rw [hnm,hy]
             rcases tB (ty:=o.type) hP ht hsrc hold hol ff.fits cL with ⟨h0,hr⟩ | ⟨h0,hroom,hr⟩ | ⟨c',te,cells,hcap,fW,n7,hpre,hr⟩
             · have hy0:y= []:=List.length_eq_zero_iff.1 h0
               rw [← fC] at hr
               refine nE (V:= .pre B (n+m)) (BX:= .arr e (kY l n i m)) (L:=μ b') h hd hb bp hB (hrun hr) (aO.refl w (fun _ _=>False)) (fun _ _ h=>h.elim) (fun _ _ h=> .inr h) (fun vs=>⟨by simp,by simp⟩) (fun s' hl=> ?_) (fun s' hl _=>cl (by rw [fC,h0]; rfl) (aI _ _ _)) jo hK
               have :kY l n i m=l:=by rw [Dp,hy0]; simp
               rw [this]
               refine ⟨b1,b2,b3,bV,fun i x hi=> ?_⟩
               obtain ⟨ds,d1,d2,n,d3⟩:=b5 i x hi
               exact ⟨ds,d1,d2,n,d3.mono S hl (Nat.le_refl _)⟩
             · have OP:=hsrc.newsLen
               have fB:(μ b').nil=false:=by
                cases hn:(μ b').nil with
                | false=>rfl
                | true=>have :=ff.isNil hn; omega
               have had:=ff.addr
               rw [fB] at had
               have hmul:(n.toNat+y.length)*Ty.sz S e≤(μ b').cap*Ty.sz S e:=Nat.mul_le_mul_right _ (by omega)
               have hsum:(n.toNat+y.length)*Ty.sz S e=n.toNat*Ty.sz S e+y.length*Ty.sz S e:=Nat.add_mul ..
               have eR:w.there (μ b').b ((μ b').o+n.toNat*Ty.sz S e) news.length:=jM bV (by omega) (by omega)
               have hr:=hr _ _ had eR
               rw [← fC] at hr
               refine nE (V:= .pre B (n+m)) (BX:= .arr e (kY l n i m)) (L:=μ b') h hd hb bp hB (hrun hr) (aO.setCells w (μ b').b _ news eR) (fun k o' hk=> .inl ⟨hk.1,by omega,by omega⟩) (fun k o' hk=> .inr hk) (fun vs=>⟨by simp,by simp⟩)
                (fun s' hl=>⟨b1,b2,by rw [hml]; exact b3,nw bV eR, ?_⟩) (fun s' hl hm=>cl rfl (aI _ _ _)) jo hK
               rw [Dp]
               refine rz (rz (fun k x hk=> ?_) ?_) (fun k x hk=> ?_)
               · rw [List.getElem?_take] at hk
                 split at hk
                 · rename_i hkn
                   obtain ⟨ds,d1,d2,q,d3⟩:=b5 k x hk
                   refine ⟨ds,d1,mW d2 (.inr (.inl ?_)),q,d3.mono S hl (Nat.le_refl _)⟩
                   have :(k+1)*Ty.sz S e≤n.toNat*Ty.sz S e:=Nat.mul_le_mul_right _ (by omega)
                   rw [Nat.add_mul,Nat.one_mul] at this
                   omega
                 · cases hk
               · rw [iW]
                 exact (hnews.later hl).row (ql eR)
               · rw [List.getElem?_drop] at hk
                 obtain ⟨ds,d1,d2,q,d3⟩:=b5 _ x hk
                 rw [List.length_append,iW,Nat.add_assoc, ← Nat.add_mul]
                 refine ⟨ds,d1,mW d2 (.inr (.inr ?_)),q,d3.mono S hl (Nat.le_refl _)⟩
                 have :(n.toNat+y.length)*Ty.sz S e≤(n.toNat+y.length+k)*Ty.sz S e:=Nat.mul_le_mul_right _ (by omega)
                 omega
             · omega
           · exact hl.elim
        · exact hl.elim
       | b8=>
        simp only [pH] at hl
        split at hl
        · rename_i y hy
          obtain ⟨hg,rfl,rfl⟩:=d_ hl
          have cL:y.length*af t≤limit:=hg (gd (y.length*af t≤limit)) (by simp)
          have hB:=uS (.arr e y) (by simp)
          obtain ⟨news,hsrc,hnews⟩:=(xH h hx (pY y hy) (hrows _ Vx rfl)).src hP lU
          have fC:a.eval xs= .slice none 0 0:=hs
          have hold:(Builtin.firstCells (Ty.sz S e) 0 (.slice none 0 0)).run P w.drew= .ok (#[]:Array Value) w.drew:=run_firstCells_none _ _ _ _ _
          rcases tB (olds:= []) (ty:=o.type) hP ht hsrc hold (by simp) (Nat.le_refl 0) (by rw [Nat.zero_add]; exact cL) with ⟨h0,hr⟩ | ⟨h0,hroom,hr⟩ | ⟨c',te,cells,hcap,fW,n7,hpre,hr⟩
          · have :y= []:=List.length_eq_zero_iff.1 h0
            subst this
            rw [← fC] at hr
            refine nD (i:=B) (B:= .arr e []) (V:= .az B) (L:=⟨0,0,0,0,true,fun _ _=>False⟩) h (hrun hr) hd (aO.refl w _) hB (fun b o' hf=> ?_) (fun hl _ h3=>⟨⟨by simp,fun _=>rfl,Nat.le_refl _,fun j hj=>absurd hj (Nat.not_lt_zero j),fun i x hi=>by simp at hi⟩,⟨⟨⟨none,0,0,fC⟩,fun u2 l2 q2 h2=>by rw [aI] at h2; cases h2⟩,fun e' l' hb=> ?_⟩⟩)
             (fun vs hvs=>by rcases hvs with hvs | hvs <;> cases hvs) (fun j hj=> .inl (by simpa [aq,ak] using hj)) hK
            · have h1:=hf.2.1; have h2:=hf.2.2; simp at h2
            · rw [aI] at hb
              rcases hb with hb | hb
              · cases hb
                rw [aI]
                exact ⟨none,0,fC,rfl,rfl,by simp,fun _=>rfl,Nat.le_refl _⟩
              · cases hb
          · omega
          · rw [← fC] at hr
            rw [Nat.zero_add] at fW hr
            exact Bf (us:= []) (t:=te) (e:=e) (l:=y) (cap:=c') (cells:=cells) (cs:=news) (w1:=w.drew) hP.tobY h hd (Tk.refl S _) hB rfl ⟨rfl,rfl,rfl⟩ (hrun hr) fW n7 hnews hpre hK
        · exact hl.elim
       | _=>exact hl.elim
     · exact hl.elim
   · exact hl.elim
 · exact hl.elim
theorem HY {α:Type} (z:α) (l:List α) {i m:Int} (h3:i.toNat+m.toNat≤l.length) (h0:0≤i) (h1:0≤m):(rK z l i m).length=l.length:=by
 unfold rK
 simp only [List.length_append,List.length_take,List.length_drop,List.length_replicate]
 omega
theorem Mz (hP:aL P S af) {t:Nat} {e:Ty} (ht:S.ty t=some (.sl e)) {ty:Nat} {ad:Option Addr} {n cap b o':Nat} {news:List Value} (had:n=0∧news= []∨ad=some ⟨b,o',none⟩)
 {te:Nat} {ie:TypeInfo} {z:Value} (hu:P.underlying t=some (.slice te)) (hz: ∀ w,(zeroValue te).run P w= .ok z w) (hn:(Builtin.zeroCells z.cells n).toList=news) (bV:w.there b o' news.length) (h1: ∀ c ∈ news,c.oneCell'=true):
 (Builtin.clear_ #[t] ty #[.slice ad n cap]).run P w= .ok (.tuple #[]) (w.setCells b o' news):=by
 rcases Nat.eq_zero_or_pos n with h0 | h0
 · subst h0
   have :news= []:=by rw [← hn]; simp [Builtin.zeroCells]
   subst this
   cases ad <;> simp [Builtin.clear_,run_underlying hu,MZ]
 · rcases had with ⟨h2,_⟩ | h2
   · omega
   · subst h2
     have hst:=run_storeCells_cells (P:=P) b o' news 0 w (by simpa using fun j hj=>(bV j hj).1) (by simpa using fun j hj=>(bV j hj).2) h1
     simp only [Nat.add_zero] at hst
     obtain ⟨m,rfl⟩: ∃ m,n=m+1:=⟨n - 1,by omega⟩
     simp [Builtin.clear_,run_underlying hu,hz,hn,hst]
theorem HX (hP:aL P S af) (h:Inv P S w0 M0 s0 dq env a w μ) (hd: ∀ d,o.dst=some d→d<a.tmps.size) {c:Call} (ho:o.op= .call c) (hc:c.callee= .builtin .clear) {args:List (Sy.V S.C)} {ids:List Nat}
 (hargs:c.args.toList.mapM (aE S env.tm)=some args)
 (hl:(match args,c.argTypes.toList with
  | [v],[t]=>match dM S t with
   | some e=>xC S e (restrict S env.bx ids) v
   | none=> .fail
  | _,_=> .fail).leaf (V,us)) (hK:Goal P S w0 M0 s0 dq env a o.dst V us K):o.wp P a w K Q:=by
 split at hl
 · rename_i Vs t mT
   split at hl
   · rename_i e het
     have hone: ∃ x,c.args= #[x]∧aE S env.tm x=some Vs:=by
      have hca:c.args=c.args.toList.toArray:=by simp
      cases e:c.args.toList with
      | nil=>rw [e] at hargs; cases hargs
      | cons x r=>
       rw [e] at hargs
       obtain ⟨y,zs,h1,h2,h3⟩:=kX hargs
       cases h3
       cases r with
       | nil=>exact ⟨x,by rw [hca,e],h1⟩
       | cons x' r'=>
        obtain ⟨y',zs',h4,h5,h6⟩:=kX h2
        cases h6
     obtain ⟨x,Ja,hex⟩:=hone
     obtain ⟨hx,_⟩:=aW h hex
     have ht:=jl het
     have cu:c.argTypes= #[t]:=by
      have :c.argTypes=c.argTypes.toList.toArray:=by simp
      rw [this,mT]
     unfold xC at hl
     split at hl
     · rename_i b i m _
       split at hl
       · rename_i e' l hb
         have hb:=dD hb
         split at hl
         · rename_i l' hl'
           obtain ⟨e1,e2⟩:=dm hl'
           cases e1
           dsimp only at e2
           subst e2
           obtain ⟨rfl,rfl⟩:=bg hl
           obtain ⟨hi0,hm0,yK,ad,cap,yZ,JM,had⟩:=hx.2 e l hb
           obtain ⟨b1,b2,b3,bV,b5⟩:=h.bw b _ hb
           have bp:live S env.bx b:=by unfold live; rw [hb]; trivial
           have yE:b6 (μ b).ext:=(h.ext b bp).resolve_left (by rw [hb]; exact id)
           obtain ⟨te,ie,z,hu,hte,hie,hby,cB,_⟩:=hP.sl ht
           obtain ⟨⟨i',z,h1,h2,h3,h4,h5⟩,_⟩:=hP.ty te _ hte
           obtain ⟨q,hq⟩:=wC (w:=w) hP hte (ay S w0 M0 s0 env.bx μ w)
           obtain ⟨x1,x2,x3⟩:=kM (P:=P) hP.tobY μ env.bx hq
           have Dv:=qP x2 x1
           rw [← h5] at hq Dv
           have Kg: ∀ w,(zeroValue te).run P w= .ok z w:=fun w=>by simp [zeroValue,typeInfo,h1,h3]
           have hzs:z.cells.size=Ty.sz S e:=by have :=hq.length S; simpa using this
           obtain ⟨news,hnews⟩: ∃ news,news=(Builtin.zeroCells z.cells m.toNat).toList:=⟨_,rfl⟩
           have C6:cz w (ay S w0 M0 s0 env.bx μ w) e (List.replicate m.toNat (Ty.zero S e)) news:=by
            have :=cz.replicate hq m.toNat
            rw [hnews]
            have e3:Builtin.zeroCells z.cells m.toNat=madeCells z.cells (m.toNat*Ty.sz S e):=by
             unfold Builtin.zeroCells madeCells
             rw [hzs]
            rw [e3]; exact this
           have hnl:news.length=m.toNat*Ty.sz S e:=by have :=C6.1; rwa [List.length_replicate] at this
           have hsum:(i.toNat+m.toNat)*Ty.sz S e=i.toNat*Ty.sz S e+m.toNat*Ty.sz S e:=Nat.add_mul ..
           have hmul:(i.toNat+m.toNat)*Ty.sz S e≤(μ b).cap*Ty.sz S e:=Nat.mul_le_mul_right _ (by omega)
           have eR:w.there (μ b).b ((μ b).o+i.toNat*Ty.sz S e) news.length:=jM bV (by omega) (by omega)
           have hno: ∀ c ∈ news,c.oneCell'=true:=by
            intro c hc
            rw [hnews] at hc
            unfold Builtin.zeroCells at hc
            simp only [Array.toList_map,List.mem_map,Array.toList_range,List.mem_range] at hc
            obtain ⟨k,hk,rfl⟩:=hc
            have hp:0<z.cells.size:=by
             rcases Nat.eq_zero_or_pos z.cells.size with h0 | h0
             · rw [h0,Nat.mul_zero] at hk; omega
             · exact h0
            have hlt:=Nat.mod_lt k hp
            rw [getElem!_pos z.cells _ hlt]
            exact Dv _ (by simp)
           have hrun:(execOp a.eval o).run P w= .ok (.value (.tuple #[])) (w.setCells (μ b).b ((μ b).o+i.toNat*Ty.sz S e) news):=by
            have hr:=Mz (P:=P) (w:=w) (ty:=o.type) hP ht (ad:=ad) (n:=m.toNat) (cap:=cap) (b:=(μ b).b) (o':=(μ b).o+i.toNat*Ty.sz S e) (news:=news) (te:=te) (ie:=ie) (z:=z) (had.imp (fun h0=>⟨h0,List.length_eq_zero_iff.1 (by rw [hnl,h0,Nat.zero_mul])⟩) id) hu Kg hnews.symm eR hno
            rw [← yZ] at hr
            unfold execOp
            simp only [ho]
            simp [resolve,hc,Ja,cu,invoke,builtin,hr]
           have hcl:=HY (Ty.zero S e) l yK hi0 hm0
           have hI:=h.write (B':= .arr e (rK (Ty.zero S e) l i m)) hb bp (fun _ e=>nomatch e) (o':=(μ b).o+i.toNat*Ty.sz S e) (vals:=news) (by omega) (by omega) ⟨rfl,rfl,hcl⟩ (fun hl lQ=>⟨b1,b2,by rw [hcl]; exact b3,nw bV eR, ?_⟩) (fun ws ic=>by rcases ic with ic | ic <;> cases ic)
           · unfold Oper.wp
             rw [hrun]
             refine hK _ _ μ (hI.put hd (V:= .gG []) (v:= .tuple #[]) ⟨#[],rfl,rfl⟩ (by simp [aq])) ?_
             cases o.dst <;> simp [Act.put]
           · have iW:(List.take i.toNat l).length=i.toNat:=by rw [List.length_take]; omega
             unfold rK
             refine rz (rz (fun k x hk=> ?_) ?_) (fun k x hk=> ?_)
             · rw [List.getElem?_take] at hk
               split at hk
               · rename_i hkn
                 obtain ⟨ds,d1,d2,q,d3⟩:=b5 k x hk
                 refine ⟨ds,d1,mW d2 (.inr (.inl ?_)),q,d3.mono S hl (Nat.le_refl _)⟩
                 have :(k+1)*Ty.sz S e≤i.toNat*Ty.sz S e:=Nat.mul_le_mul_right _ (by omega)
                 rw [Nat.add_mul,Nat.one_mul] at this
                 omega
               · cases hk
             · rw [iW]
               exact (C6.later hl).row (ql eR)
             · rw [List.getElem?_drop] at hk
               obtain ⟨ds,d1,d2,q,d3⟩:=b5 _ x hk
               rw [List.length_append,iW,List.length_replicate,Nat.add_assoc, ← Nat.add_mul]
               have Jy:(i+m).toNat=i.toNat+m.toNat:=by omega
               rw [Jy] at d2
               refine ⟨ds,d1,mW d2 (.inr (.inr ?_)),q,d3.mono S hl (Nat.le_refl _)⟩
               have :(i.toNat+m.toNat)*Ty.sz S e≤(i.toNat+m.toNat+k)*Ty.sz S e:=Nat.mul_le_mul_right _ (by omega)
               omega
         · exact hl.elim
       · exact hl.elim
     · exact hl.elim
   · exact hl.elim
 · exact hl.elim
end
end Go.Sy
namespace Go.Sy
section
variable {P:Program} {S:aK} {af:Nat→Nat}
theorem dx.length {w:World} {s:St} : ∀ {M:St} {cs:List CK} {x:aJ S.C cs} {vs:List Value},dx S w s M cs x vs→vs.length=CK.bJ S cs
 | _,[],_,_,h=>by rw [h.2]; rfl
 | _,c::cs,_,_,⟨M1,M2,v1,v2,h1,h2,h3,h4,h5⟩=>by subst h2; rw [List.length_append,h3,dx.length h5]; rfl
theorem zA (hS:bY S) {w:World} {s M:St} (iC id:Nat) {cs:List CK} {x:aJ S.C cs} {v:Value} (hne: ∀ i,id≤i→i<(aT S id cs x).2.2→i≠iC) (L:Loc) (hv:v= .pointer (some ⟨L.b,L.o,none⟩)) (hn:L.n=CK.bJ S cs) (n4:b6 L.ext)
 (h:dQ S w s M cs x v):
 ∃ lam,lam iC=L∧id≤(aT S id cs x).2.2∧bK P S w s (fun i=>i=iC∨(id≤i∧i<(aT S id cs x).2.2)) ((iC, .cells (aT S id cs x).1)::(aT S id cs x).2.1) lam M:=by
 obtain ⟨b,o,ds,M',ec,bV,js,hM,hcs⟩:=h
 rw [ec] at hv
 cases hv
 obtain ⟨le,l2,g2,s2,r2,ke⟩:=qb (P:=P) hS cs id hcs
 have hlen:=dx.length hcs
 have hne: ∀ u ∈ (aT S id cs x).2.1,u.1≠iC:=fun u hu=>hne _ (g2.fm u hu).1 (g2.fm u hu).2
 let lam:Nat→Loc:=fun i=>if i=iC then L else l2 i
 have e1:lam iC=L:=if_pos rfl
 have e2: ∀ u ∈ (aT S id cs x).2.1,lam u.1=l2 u.1:=fun u hu=>if_neg (hne u hu)
 have hag: ∀ μ bx,Agree ((iC, .cells (aT S id cs x).1)::(aT S id cs x).2.1) lam μ bx→Agree (aT S id cs x).2.1 l2 μ bx:=
  fun μ bx h u hu=>⟨(h u (by simp [hu])).1,(h u (by simp [hu])).2.trans (e2 u hu)⟩
 refine ⟨lam,e1,le,⟨?_, ?_, ?_, ?_, ?_, ?_, ?_, ?_⟩⟩
 · intro u hu
   rcases List.mem_cons.1 hu with rfl | hu
   · exact .inl rfl
   · exact .inr (g2.fm u hu)
 · intro u hu u' aH he
   rcases List.mem_cons.1 hu with rfl | hu <;> rcases List.mem_cons.1 aH with rfl | aH
   · rfl
   · exact absurd he.symm (hne u' aH)
   · exact absurd he (hne u hu)
   · exact g2.one u hu u' aH he
 · intro μ bx ha u hu
   rcases List.mem_cons.1 hu with rfl | hu
   · show RB P S w s μ bx (lam iC) (.cells _)
     rw [e1]
     have hr:=ke μ bx (hag μ bx ha)
     exact ⟨s2,by rw [hn, ← hlen]; exact aB.length P S hr,by rw [hn, ← hlen]; exact bV,ds,js,hr⟩
   · rw [e2 u hu]
     exact g2.rb μ bx (hag μ bx ha) u hu
 · intro bx u hu hb
   rcases List.mem_cons.1 hu with rfl | hu
   · unfold live; rw [hb]; trivial
   · exact g2.lv bx u hu hb
 · intro b' o'
   rw [hM.1 b' o',g2.au]
   constructor
   · rintro (h | ⟨u,hu,hf⟩)
     · refine ⟨_,List.mem_cons_self, ?_⟩
       show (lam iC).au b' o'
       rw [e1]; exact .inl ⟨h.1,h.2.1,by rw [hn, ← hlen]; exact h.2.2⟩
     · exact ⟨u,by simp [hu],by rw [e2 u hu]; exact hf⟩
   · rintro ⟨u,hu,hf⟩
     rcases List.mem_cons.1 hu with rfl | hu
     · have hf:(lam iC).au b' o':=hf
       rw [e1] at hf; have hf:=Loc.ia n4 hf; exact .inl ⟨hf.1,hf.2.1,by rw [hlen, ← hn]; exact hf.2.2⟩
     · rw [e2 u hu] at hf; exact .inr ⟨u,hu,hf⟩
 · intro u hu u' aH hn' b' o' hf hf'
   rcases List.mem_cons.1 hu with rfl | hu <;> rcases List.mem_cons.1 aH with rfl | aH
   · exact hn' rfl
   · have hf:(lam iC).au b' o':=hf
     rw [e1] at hf; rw [e2 u' aH] at hf'
     have hf:=Loc.ia n4 hf
     exact hM.2 b' o' ⟨hf.1,hf.2.1,by rw [hlen, ← hn]; exact hf.2.2⟩ ((g2.au b' o').2 ⟨u',aH,hf'⟩)
   · have hf':(lam iC).au b' o':=hf'
     rw [e1] at hf'; rw [e2 u hu] at hf
     have hf':=Loc.ia n4 hf'
     exact hM.2 b' o' ⟨hf'.1,hf'.2.1,by rw [hlen, ← hn]; exact hf'.2.2⟩ ((g2.au b' o').2 ⟨u,hu,hf⟩)
   · rw [e2 u hu] at hf; rw [e2 u' aH] at hf'
     exact g2.cM u hu u' aH hn' b' o' hf hf'
 · intro u hu vs hvs v hv j hj
   rcases List.mem_cons.1 hu with rfl | hu
   · rcases hvs with hvs | hvs
     · cases hvs
       obtain ⟨u',aH,he⟩:=r2 v hv j hj
       exact ⟨u',by simp [aH],he⟩
     · cases hvs
   · obtain ⟨u',aH,he⟩:=g2.ref u hu vs hvs v hv j hj
     exact ⟨u',by simp [aH],he⟩
 · intro u hu
   rcases List.mem_cons.1 hu with rfl | hu
   · right; show b6 (lam iC).ext; rw [e1]; exact n4
   · rw [e2 u hu]; exact g2.ext u hu
theorem Ki {v:Sy.V S.C} {j:Nat} (h:j ∈ ak S v):j ∈ aq S v:=by
 cases v <;> first | exact h | (simp [ak] at h)
theorem K3 (hS:bY S) {w:World} {s M:St} (id:Nat) {k:K} {x:k.den S.C} {v:Value} (h:jR P S w s M k x v) {κ:Sy.V S.C×aA S.C×Nat→Tr (Sy.V S.C×aA S.C)} {p:Sy.V S.C×aA S.C} (hl:(zu S id k x κ).leaf p) (hna:qc k=true):
 ∃ q,(κ q).leaf p∧id≤q.2.2∧q.2.2≤id+jt k∧ ∃ lam,bK P S w s (fun i=>id≤i∧i<q.2.2) q.2.1 lam M∧(∀ j ∈ ak S q.1, ∃ u ∈ q.2.1,u.1=j)∧
  ∀ μ bx,Agree q.2.1 lam μ bx→bl P S w s μ bx q.1 v:=by
 have mm: ∀ (M:St) (n:Nat),b6 M→bK P S w s (fun i=>n≤i∧i<n) ([]:aA S.C) (fun _=>⟨0,0,0,0,true,fun _ _=>False⟩) M:=fun M n hM=>bK.nil hM _
 have obj: ∀ (cs:List CK) (y:aJ S.C cs),dQ S w s M cs y v→(κ (.ptr id 0,(id, .cells (aT S (id+1) cs y).1)::(aT S (id+1) cs y).2.1,(aT S (id+1) cs y).2.2)).leaf p→
  ∃ q,(κ q).leaf p∧id≤q.2.2∧q.2.2≤id+(1+cs.foldl oneMore 0)∧ ∃ lam,bK P S w s (fun i=>id≤i∧i<q.2.2) q.2.1 lam M∧(∀ j ∈ ak S q.1, ∃ u ∈ q.2.1,u.1=j)∧
  ∀ μ bx,Agree q.2.1 lam μ bx→bl P S w s μ bx q.1 v:=by
  intro cs y hy hl
  obtain ⟨lam,g,le,rv⟩:=qd (P:=P) hS id hy
  refine ⟨_,hl,Nat.le_of_lt le, ?_,lam,g,fun j hj=> ?_,rv⟩
  · have :=kS cs (id+1) y 0
    show (aT S (id+1) cs y).2.2≤_
    omega
  · simp [ak] at hj
    subst hj
    exact ⟨_,List.mem_cons_self,rfl⟩
 cases k with
 | val c=>
  obtain ⟨h1,h2⟩:=h
  cases c with
  | data t=>
   obtain ⟨hM,n,hn⟩:=h1
   exact ⟨_,hl,Nat.le_refl _,Nat.le_refl _,_,mm M id hM,fun j hj=>by simp [ak] at hj,fun μ bx _=>⟨h2,n,hn⟩⟩
  | aP e=>
   obtain ⟨le,lam,g,s1,r1,rv⟩:=s7 (P:=P) hS id h1
   refine ⟨_,hl,Nat.le_succ _,Nat.le_refl _,lam,g,fun j hj=>r1 (.aP id e x) (by simp [bu]) j hj,fun μ bx ha=> ?_⟩
   obtain ⟨c,r,hc,hv,hr⟩:=rv μ bx ha
   cases hr
   rw [kI hc h2]
   exact hv
  | az e=>
   obtain ⟨le,lam,g,s1,r1,rv⟩:=s7 (P:=P) hS id h1
   refine ⟨_,hl,Nat.le_succ _,Nat.le_refl _,lam,g,fun j hj=>r1 (.az id) (by simp [bu]) j hj,fun μ bx ha=> ?_⟩
   obtain ⟨c,r,hc,hv,hr⟩:=rv μ bx ha
   cases hr
   rw [kI hc h2]
   exact hv
  | aF w=>
   obtain ⟨le,lam,g,s1,r1,rv⟩:=s7 (P:=P) hS id h1
   refine ⟨_,hl,Nat.le_succ _,Nat.le_refl _,lam,g,fun j hj=>r1 (.az id) (by simp [bu]) j hj,fun μ bx ha=> ?_⟩
   obtain ⟨c,r,hc,hv,hr⟩:=rv μ bx ha
   cases hr
   rw [kI hc h2]
   exact hv
 | agg u cs=>cases hna
 | obj cs=>exact obj cs x h hl
 | opt cs=>
  rcases hl with ⟨hx,hl⟩ | ⟨y,hx,hl⟩
  · subst hx
    exact ⟨_,hl,Nat.le_refl _,Nat.le_add_right _ _,_,mm M id h.1,fun j hj=>by simp [ak] at hj,fun μ bx _=>h.2⟩
  · subst hx
    exact obj cs y h hl
 | bO t cs=>exact hl.elim
 | err=>exact ⟨_,hl,Nat.le_refl _,Nat.le_refl _,_,mm M id h.1,fun j hj=>by simp [ak] at hj,fun μ bx _=>h.2⟩
 | aQ=>
  have h:lI S w M x v:=h
  obtain ⟨b,R,hb,_⟩:=Iff.mp Iff.rfl h
  obtain ⟨lam,e,g⟩:=xb (P:=P) (s:=s) id (id+1) (by omega) ⟨b,0,2,0,false,fun _ _=>False⟩ rfl rfl (fun _ _ h=>h) hb h
  refine ⟨_,hl,by show id≤id+2; omega,Nat.le_refl _,lam,g.weaken fun i hi=>by show id≤i∧i<id+2; omega,fun j hj=> ?_,fun μ bx ha=> ?_⟩
  · simp [ak] at hj
    subst hj
    exact ⟨_,List.mem_cons_self,rfl⟩
  · have a1:=(ha (id, .aQ (id+1)) (by simp)).2
    show v= .pointer (some ⟨(μ id).b,(μ id).o+0,none⟩)
    rw [hb,show μ id=lam id from a1,e]
 | nil=>exact ⟨_,hl,Nat.le_refl _,Nat.le_refl _,_,mm M id h.1,fun j hj=>by simp [ak] at hj,fun μ bx _=>h.2⟩
 | ro t=>exact ⟨_,hl,Nat.le_refl _,Nat.le_refl _,_,mm M id h.1,fun j hj=>by simp [ak] at hj,fun μ bx _=>h.2⟩
 | fn a r=>exact ⟨_,hl,Nat.le_refl _,Nat.le_refl _,_,mm M id h.1,fun j hj=>by simp [ak] at hj,fun μ bx _=>h.2⟩
 | cj cs=>
  obtain ⟨p',hv,h⟩:=h
  obtain ⟨lam,g,le,rv⟩:=qd (P:=P) hS id h
  refine ⟨_,hl,Nat.le_of_lt le, ?_,lam,g,fun j hj=> ?_,fun μ bx ha=> ?_⟩
  · have :=kS cs (id+1) x 0
    show (aT S (id+1) cs x).2.2≤id+(1+cs.foldl oneMore 0)
    omega
  · simp [ak] at hj
    subst hj
    exact ⟨_,List.mem_cons_self,rfl⟩
  · have :Value.pointer (some p')= .pointer (some ⟨(μ id).b,(μ id).o+0,none⟩):=rv μ bx ha
    show v= .slice (some ⟨(μ id).b,(μ id).o,none⟩) (CK.bJ S cs) (CK.bJ S cs)
    rw [hv]
    cases this
    rfl
theorem K2 (hS:bY S) {w:World} {s M:St} (id:Nat) {k:K} {x:k.den S.C} {v:Value} (h:jR P S w s M k x v) {κ:Sy.V S.C×aA S.C×Nat→Tr (Sy.V S.C×aA S.C)} {p:Sy.V S.C×aA S.C} (hl:(zu S id k x κ).leaf p):
 ∃ q,(κ q).leaf p∧id≤q.2.2∧q.2.2≤id+jt k∧ ∃ lam,bK P S w s (fun i=>id≤i∧i<q.2.2) q.2.1 lam M∧(∀ j ∈ aq S q.1, ∃ u ∈ q.2.1,u.1=j)∧
  (∀ μ bx,Agree q.2.1 lam μ bx→RV P S w s μ bx q.1 v)∧(qc k=true→ ∀ μ bx,Agree q.2.1 lam μ bx→bl P S w s μ bx q.1 v):=by
 by_cases hna:qc k=true
 · obtain ⟨q,h1,h2,h3,lam,h4,h5,h6⟩:=K3 hS id h hl hna
   refine ⟨q,h1,h2,h3,lam,h4,fun j hj=> ?_,fun μ bx ha=>jh (h6 μ bx ha),fun _=>h6⟩
   have JD: ∃ μ bx,Agree q.2.1 lam μ bx:=⟨lam,ah (fun _=>none) q.2.1,fun u hu=>⟨tX _ _ h4.one u hu,rfl⟩⟩
   obtain ⟨μ,bx,ha⟩:=JD
   have hv:=h6 μ bx ha
   generalize q.1=V at hj hv h5
   cases V <;> first | exact h5 j hj | exact (hv:False).elim
 · cases k with
   | agg u cs=>
    obtain ⟨ds,hv,h2,h1⟩:=h
    obtain ⟨le,lam,g,s1,r1,rv⟩:=qb (P:=P) hS cs id h1
    have hz:=kS cs id x 0
    refine ⟨_,hl,le,by simp only [jt]; omega,lam,g,fun j hj=> ?_,fun μ bx ha=>⟨ds,hv, ?_,s1,rv μ bx ha⟩,fun h=>absurd h hna⟩
    · have hj:j ∈ (aT S id cs x).1.flatMap (ak S):=hj
      obtain ⟨v,hv,hj⟩:=List.mem_flatMap.1 hj
      exact r1 v hv j hj
    · have hl:=aB.length P S (rv μ bx ha)
      have :=h1.len S
      show (aT S id cs x).1.length=_
      rw [← hl,this,h2]
   | _=>exact absurd rfl hna
theorem D0 (hS:bY S) {w:World} {s:St} {os:List K} : ∀ (rs:List K) {M:St} (id:Nat) {r:Ks S.C (rs++os)} {vs:List Value} {κ:List (Sy.V S.C)×aA S.C×Nat→Rt S} {p:Sy.V S.C×aA S.C},
 bU P S w s M (rs++os) r vs→(vC S id rs (jd S rs os r).1 κ).leaf p→
 ∃ q M1 M2 us ws,(κ q).leaf p∧vs=us++ws∧gx M M1 M2∧bU P S w s M2 os (jd S rs os r).2 ws∧id≤q.2.2∧q.2.2≤id+ig rs∧
  ∃ lam,bK P S w s (fun i=>id≤i∧i<q.2.2) q.2.1 lam M1∧(∀ v ∈ q.1, ∀ j ∈ aq S v, ∃ u ∈ q.2.1,u.1=j)∧(∀ μ bx,Agree q.2.1 lam μ bx→dJ P S w s μ bx q.1 us)∧(rs.all qc=true→ ∀ μ bx,Agree q.2.1 lam μ bx→aB P S w s μ bx q.1 us)
 | [],M,id,r,vs,κ,p,h,hl=>⟨_,fun _ _=>False,M,[],vs,hl,rfl,⟨fun b o=>by simp,fun _ _ h=>h.elim⟩,h,Nat.le_refl _,Nat.le_refl _,fun _=>⟨0,0,0,0,true,fun _ _=>False⟩,bK.nil (fun _ _ h=>h) _,by simp,fun _ _ _=>rfl,fun _ _ _ _=>rfl⟩
 | k::rs,M,id,r,vs,κ,p,⟨M1,M2,v,vr,hM,hvs,h1,h2⟩,hl=>by
  have e1:(jd S (k::rs) os r).1=Ks.cons (Ks.head r) (jd S rs os (Ks.tail r)).1:=rfl
  have e2:(jd S (k::rs) os r).2=(jd S rs os (Ks.tail r)).2:=rfl
  rw [e1] at hl
  simp only [vC] at hl
  rw [show Ks.head (Ks.cons (Ks.head r) (jd S rs os (Ks.tail r)).1)=Ks.head (t:=k) (ts:=rs++os) r from by cases rs <;> rfl,
   show Ks.tail (Ks.cons (Ks.head r) (jd S rs os (Ks.tail r)).1)=(jd S rs os (Ks.tail r)).1 from by cases rs <;> rfl] at hl
  obtain ⟨q1,hl1,a1,a2,l1,g1,r1,mb,Aq⟩:=K2 (P:=P) hS id h1 hl
  obtain ⟨q2,N1,N2,us,ws,n_,b1,b2,b3,b4,b5,l2,g2,r2,ke,MO⟩:=D0 hS rs q1.2.2 h2 hl1
  have hsp:gx (fun b o=>M1 b o∨N1 b o) M1 N1:=⟨fun _ _=>Iff.rfl,fun b o x y=>hM.2 b o x (b2.left y)⟩
  obtain ⟨g,hag⟩:=bK.both g1 g2 (fun i hi hi'=>by omega) hsp
  refine ⟨_,fun b o=>M1 b o∨N1 b o,N2,v::us,ws,n_,by rw [hvs,b1]; rfl,⟨fun b o=> ?_,fun b o x y=> ?_⟩,by rw [e2]; exact b3,Nat.le_trans a1 b4, ?_,_,g.weaken (fun i hi=> ?_),fun v' ec j hj=> ?_,fun μ bx ha=> ?_,fun hna μ bx ha=> ?_⟩
  · rw [hM.1,b2.1,or_assoc]
  · rcases x with x | x
    · exact hM.2 b o x (b2.right y)
    · exact b2.2 b o x y
  · show q2.2.2≤id+(jt k+ig rs)
    omega
  · show id≤i∧i<q2.2.2
    omega
  · rcases List.mem_cons.1 ec with rfl | ec
    · obtain ⟨u,hu,he⟩:=r1 j hj; exact ⟨u,List.mem_append.2 (.inl hu),he⟩
    · obtain ⟨u,hu,he⟩:=r2 v' ec j hj; exact ⟨u,List.mem_append.2 (.inr hu),he⟩
  · obtain ⟨h3,h4⟩:=hag μ bx ha
    exact ⟨v,us,rfl,mb μ bx h3,ke μ bx h4⟩
  · obtain ⟨h3,h4⟩:=hag μ bx ha
    rw [List.all_cons,Bool.and_eq_true] at hna
    exact ⟨v,us,rfl,Aq hna.1 μ bx h3,MO hna.2 μ bx h4⟩
end
end Go.Sy
namespace Go.Sy
section
variable {P:Program} {S:aK} {af:Nat→Nat}
def eT:List K→List Value→List Value
 | [],_=> []
 | _::_,[]=> []
 | k::ks,v::vs=>match k with
  | .obj _ | .aQ | .bO _ _=>v::eT ks vs
  | .val _ | .opt _ | .nil | .ro _ | .fn _ _ | .cj _ | .err | .agg _ _=>eT ks vs
def GJ (S:aK) (μ:Nat→Loc) (w:World) (s:St) (t:Ty) (cs:List CK) (V:Sy.V S.C) (v:Value):Prop:=
 ∃ b c kb q,V= .split b c∧v= .pointer (some ⟨kb,q,none⟩)∧(μ b).b=kb∧(μ b).o=q+1∧(μ b).n=CK.bJ S cs∧(μ c).n=CK.bJ S [.data t]∧s kb q∧w.cell? ⟨kb,q,none⟩=some (.pointer (some ⟨(μ c).b,(μ c).o,none⟩))∧b6 (μ b).ext∧b6 (μ c).ext
def nJ (S:aK) (μ:Nat→Loc) (w:World) (s:St):List K→List (Sy.V S.C)→List Value→Prop
 | [],_,_=>True
 | k::ks,V::Vs,v::vs=>(∀ t cs,k= .bO t cs→GJ S μ w s t cs V v)∧(∀ cs,k= .obj cs→ ∃ b,V= .ptr b 0∧v= .pointer (some ⟨(μ b).b,(μ b).o,none⟩)∧(μ b).n=CK.bJ S cs∧b6 (μ b).ext)∧(k= .aQ→ ∃ b,V= .ptr b 0∧v= .pointer (some ⟨(μ b).b,(μ b).o,none⟩)∧(μ b).o=0∧(μ b).n=2∧b6 (μ b).ext)∧nJ S μ w s ks Vs vs
 | _::_,_,_=>False
theorem nJ.later {μ:Nat→Loc} {w w':World} {s:St} (h: ∀ b o,s b o→w'.cell? ⟨b,o,none⟩=w.cell? ⟨b,o,none⟩): ∀ {ks:List K} {Vs:List (Sy.V S.C)} {vs:List Value},nJ S μ w s ks Vs vs→nJ S μ w' s ks Vs vs
 | [],_,_,_=>trivial
 | _::_,[],_,h1=>h1.elim
 | _::_,_::_,[],h1=>h1.elim
 | k::ks,V::Vs,v::vs,⟨h0,h1,h2,h3⟩=>⟨fun t cs e=>by
  obtain ⟨b,c,kb,q,e1,e2,e3,e4,e5,e6,e7,e8,e9⟩:=h0 t cs e
  exact ⟨b,c,kb,q,e1,e2,e3,e4,e5,e6,e7,(h kb q e7).trans e8,e9⟩,h1,h2,nJ.later h h3⟩
theorem uX {bx:Bx S.C} {b:Nat} {B:b7 S.C} (h:sV S B) (hb:bx b=some B):live S bx b:=by
 unfold live
 rw [hb]
 cases B <;> first | exact h.elim | trivial
theorem s9 {cs:List CK} {ks:List K} {b off:Nat} {Vs:List (Sy.V S.C)} :cZ S (.obj cs::ks) (.ptr b off::Vs)=b::cZ S ks Vs:=rfl
theorem D7 {k:K} {ks:List K} {V:Sy.V S.C} {Vs:List (Sy.V S.C)} (h: ∀ cs,k≠ .obj cs) (h':k≠ .aQ) (h'': ∀ t cs,k≠ .bO t cs):cZ S (k::ks) (V::Vs)=cZ S ks Vs:=by
 cases k <;> first | rfl | exact absurd rfl (h _) | exact absurd rfl h' | exact absurd rfl (h'' _ _)
theorem Lc {k:K} {ks:List K} {v:Value} {vs:List Value} (h: ∀ cs,k≠ .obj cs) (h':k≠ .aQ) (h'': ∀ t cs,k≠ .bO t cs):eT (k::ks) (v::vs)=eT ks vs:=by
 cases k <;> first | rfl | exact absurd rfl (h _) | exact absurd rfl h' | exact absurd rfl (h'' _ _)
theorem jw (hS:bY S) {w:World} {s so:St} {μ:Nat→Loc} : ∀ (ps:List K) {M:St} (id:Nat) {Vs:List (Sy.V S.C)} {args:List Value} {x:Ks S.C (outs ps)},nJ S μ w so ps Vs args→(cZ S ps Vs).Nodup→
 (∀ b ∈ cZ S ps Vs, ∀ i,id≤i→i<id+ig (outs ps)→i≠b)→bU P S w s M (outs ps) x (eT ps args)→
 ∃ lam,bK P S w s (fun i=>i ∈ cZ S ps Vs∨(id≤i∧i<id+ig (outs ps))) (eU S id ps Vs x) lam M∧ ∀ b ∈ cZ S ps Vs,lam b=μ b∧ ∃ B,sV S B∧(b,B) ∈ eU S id ps Vs x
 | [],M,id,Vs,args,x,_,_,_,h=>⟨fun _=>⟨0,0,0,0,true,fun _ _=>False⟩,by
  have :eU S id [] Vs x= []:=rfl
  rw [this]; exact bK.nil h.1 _,by intro b hb; cases Vs <;> simp [cZ] at hb⟩
 | k::ks,M,id,[],_,x,h,_,_,_=>h.elim
 | k::ks,M,id,V::Vs,[],x,h,_,_,_=>h.elim
 | k::ks,M,id,V::Vs,v::args,x,⟨IQ,h0,h0',h1⟩,hnd,hid,h=>by
  by_cases hk: ∃ cs,k= .obj cs
  · obtain ⟨cs,rfl⟩:=hk
    obtain ⟨b,rfl,rfl,hn,yN⟩:=h0 cs rfl
    rw [s9] at hnd hid
    obtain ⟨M1,M2,v',r,hM,hvs,r1,r2⟩:=h
    cases hvs
    obtain ⟨hb,sA⟩:=List.nodup_cons.1 hnd
    have hsum:ig (outs (.obj cs::ks))=1+cs.foldl oneMore 0+ig (outs ks):=rfl
    have hmk:=kS cs id (Ks.head (t:= .obj cs) x) 0
    rw [hsum] at hid
    obtain ⟨l1,e1,sZ,g1⟩:=zA (P:=P) hS b id (cs:=cs) (x:=Ks.head (t:= .obj cs) x) (fun i hi hi'=>hid b (by simp) i hi (by omega)) (μ b) rfl hn yN r1
    obtain ⟨l2,g2,p2⟩:=jw hS ks (aT S id cs (Ks.head (t:= .obj cs) x)).2.2 (x:=Ks.tail (t:= .obj cs) x) h1 sA (fun b' hb' i hi hi'=>hid b' (by simp [hb']) i (by omega) (by omega)) r2
    obtain ⟨g,hag⟩:=bK.both g1 g2 (fun i hi hi'=>by
     rcases hi with rfl | hi
     · rcases hi' with hi' | hi'
       · exact hb hi'
       · exact hid i (by simp) i (by omega) (by omega) rfl
     · rcases hi' with hi' | hi'
       · exact hid i (by simp [hi']) i (by omega) (by omega) rfl
       · omega) hM
    have hput:eU S id (.obj cs::ks) (.ptr b 0::Vs) x=((b, .cells (aT S id cs (Ks.head (t:= .obj cs) x)).1)::(aT S id cs (Ks.head (t:= .obj cs) x)).2.1)++eU S (aT S id cs (Ks.head (t:= .obj cs) x)).2.2 ks Vs (Ks.tail (t:= .obj cs) x):=rfl
    rw [hput]
    refine ⟨_,g.weaken fun i hi=> ?_,fun b' hb'=> ?_⟩
    · rw [s9,hsum]
      rcases hi with (rfl | hi) | (hi | hi)
      · exact .inl (by simp)
      · exact .inr (by omega)
      · exact .inl (by simp [hi])
      · exact .inr (by omega)
    · rw [s9] at hb'
      rcases List.mem_cons.1 hb' with rfl | hb'
      · refine ⟨?_,_,(by exact trivial),List.mem_append.2 (.inl List.mem_cons_self)⟩
        unfold both
        rw [if_pos (List.mem_map.2 ⟨_,List.mem_cons_self,rfl⟩)]
        exact e1
      · obtain ⟨p3,vs,p0,p4⟩:=p2 b' hb'
        refine ⟨?_,vs,p0,List.mem_append.2 (.inr p4)⟩
        unfold both
        rw [if_neg]
        · exact p3
        · intro hm
          obtain ⟨u,hu,he⟩:=List.mem_map.1 hm
          rcases g1.fm u hu with h | h
          · rw [he] at h; exact hb (h▸hb')
          · rw [he] at h; exact hid b' (by simp [hb']) b' (by omega) (by omega) rfl
  · have hk: ∀ cs,k≠ .obj cs:=fun cs e=>hk ⟨cs,e⟩
    by_cases hkb:k= .aQ
    · subst hkb
      obtain ⟨b,rfl,rfl,hn0,hn,yN⟩:=h0' rfl
      have iV:cZ S (.aQ::ks) (.ptr b 0::Vs)=b::cZ S ks Vs:=rfl
      rw [iV] at hnd hid
      obtain ⟨M1,M2,v',r,hM,hvs,r1,r2⟩:=h
      cases hvs
      obtain ⟨hb,sA⟩:=List.nodup_cons.1 hnd
      have hsum:ig (outs (.aQ::ks))=2+ig (outs ks):=rfl
      rw [hsum] at hid
      obtain ⟨l1,e1,g1⟩:=xb (P:=P) (s:=s) b id (fun e=>hid b (by simp) id (Nat.le_refl _) (by omega) e) (μ b) hn0 hn yN (x:=Ks.head (t:= .aQ) x) rfl r1
      obtain ⟨l2,g2,p2⟩:=jw hS ks (id+1) (x:=Ks.tail (t:= .aQ) x) h1 sA (fun b' hb' i hi hi'=>hid b' (by simp [hb']) i (by omega) (by omega)) r2
      obtain ⟨g,hag⟩:=bK.both g1 g2 (fun i hi hi'=>by
       rcases hi with rfl | rfl
       · rcases hi' with hi' | hi'
         · exact hb hi'
         · exact hid i (by simp) i (by omega) (by omega) rfl
       · rcases hi' with hi' | hi'
         · exact hid i (by simp [hi']) i (by omega) (by omega) rfl
         · omega) hM
      have hput:eU S id (.aQ::ks) (.ptr b 0::Vs) x= [(b, .aQ id),(id, .buf (Ks.head (t:= .aQ) x))]++eU S (id+1) ks Vs (Ks.tail (t:= .aQ) x):=rfl
      rw [hput]
      refine ⟨_,g.weaken fun i hi=> ?_,fun b' hb'=> ?_⟩
      · rw [iV,hsum]
        rcases hi with (rfl | rfl) | (hi | hi)
        · exact .inl (by simp)
        · exact .inr (by omega)
        · exact .inl (by simp [hi])
        · exact .inr (by omega)
      · rw [iV] at hb'
        rcases List.mem_cons.1 hb' with rfl | hb'
        · refine ⟨?_,_,(by exact trivial),List.mem_append.2 (.inl List.mem_cons_self)⟩
          unfold both
          rw [if_pos (List.mem_map.2 ⟨_,List.mem_cons_self,rfl⟩)]
          exact e1
        · obtain ⟨p3,vs,p0,p4⟩:=p2 b' hb'
          refine ⟨?_,vs,p0,List.mem_append.2 (.inr p4)⟩
          unfold both
          rw [if_neg]
          · exact p3
          · intro hm
            obtain ⟨u,hu,he⟩:=List.mem_map.1 hm
            rcases g1.fm u hu with h | h
            · rw [he] at h; exact hb (h▸hb')
            · rw [he] at h; exact hid b' (by simp [hb']) b' (by omega) (by omega) rfl
    by_cases hkr: ∃ t cs,k= .bO t cs
    · obtain ⟨t,cs,rfl⟩:=hkr
      obtain ⟨b,c,kb,q,rfl,rfl,cB,fh,Jc,Ji,_,hcell,fV,Jm⟩:=IQ t cs rfl
      have iV:cZ S (.bO t cs::ks) (.split b c::Vs)=c::b::cZ S ks Vs:=rfl
      rw [iV] at hnd hid
      obtain ⟨M1,M2,v',r,hM,hvs,r1,r2⟩:=h
      cases hvs
      obtain ⟨b0,o0,p,Ma,Mb,q1,q2,q3,q4,q5⟩:=r1
      cases q1
      have hp:Value.pointer (some p)= .pointer (some ⟨(μ c).b,(μ c).o,none⟩):=by
       have :=(q2 0 _ rfl).1
       rw [Nat.add_zero,hcell] at this
       exact (Option.some.inj this).symm
      obtain ⟨uV,sA⟩:=List.nodup_cons.1 hnd
      obtain ⟨C3,JQ⟩:=List.nodup_cons.1 sA
      have hsum:ig (outs (.bO t cs::ks))=2+cs.foldl oneMore 0+ig (outs ks):=rfl
      have hmk:=kS cs id (Ks.head (t:= .bO t cs) x).2 0
      rw [hsum] at hid
      obtain ⟨l0,e0,OS,g0⟩:=zA (P:=P) hS c id (cs:= [.data t]) (x:=(Ks.head (t:= .bO t cs) x).1) (fun i hi hi'=>hid c (by simp) i hi (by have :i<id:=hi'; omega)) (μ c) hp Ji Jm q4
      obtain ⟨l1,e1,sZ,g1⟩:=zA (P:=P) hS b id (cs:=cs) (x:=(Ks.head (t:= .bO t cs) x).2) (fun i hi hi'=>hid b (by simp) i hi (by omega)) (μ b) (by rw [cB,fh]) Jc fV q5
      obtain ⟨l2,g2,p2⟩:=jw hS ks (aT S id cs (Ks.head (t:= .bO t cs) x).2).2.2 (x:=Ks.tail (t:= .bO t cs) x) h1 JQ (fun b' hb' i hi hi'=>hid b' (by simp [hb']) i (by omega) (by omega)) r2
      obtain ⟨CO,OG⟩:=bK.both g0 g1 (fun i hi hi'=>by
       have hi:i=c:=hi.elim (fun e=>e) fun h=>by
        have h1:id≤i:=h.1
        have h2:i<id:=h.2
        omega
       subst hi
       rcases hi' with hi' | hi'
       · subst hi'; exact uV (by simp)
       · exact hid i (by simp) i (by omega) (by omega) rfl) q3
      obtain ⟨g,hag⟩:=bK.both CO g2 (fun i hi hi'=>by
       rcases hi with (rfl | hi) | (rfl | hi)
       · rcases hi' with hi' | hi'
         · exact uV (by simp [hi'])
         · exact hid i (by simp) i (by omega) (by omega) rfl
       · have h1:id≤i:=hi.1
         have h2:i<id:=hi.2
         omega
       · rcases hi' with hi' | hi'
         · exact C3 hi'
         · exact hid i (by simp) i (by omega) (by omega) rfl
       · rcases hi' with hi' | hi'
         · exact hid i (by simp [hi']) i (by omega) (by omega) rfl
         · omega) hM
      have hput:eU S id (.bO t cs::ks) (.split b c::Vs) x=(((c, .cells (aT S id [.data t] (Ks.head (t:= .bO t cs) x).1).1)::(aT S id [.data t] (Ks.head (t:= .bO t cs) x).1).2.1)++((b, .cells (aT S id cs (Ks.head (t:= .bO t cs) x).2).1)::(aT S id cs (Ks.head (t:= .bO t cs) x).2).2.1))++eU S (aT S id cs (Ks.head (t:= .bO t cs) x).2).2.2 ks Vs (Ks.tail (t:= .bO t cs) x):=rfl
      rw [hput]
      refine ⟨_,g.weaken fun i hi=> ?_,fun b' hb'=> ?_⟩
      · rw [iV,hsum]
        rcases hi with ((rfl | hi) | (rfl | hi)) | (hi | hi)
        · exact .inl (by simp)
        · have h1:id≤i:=hi.1
          have h2:i<id:=hi.2
          omega
        · exact .inl (by simp)
        · exact .inr (by omega)
        · exact .inl (by simp [hi])
        · exact .inr (by omega)
      · rw [iV] at hb'
        have OL: ∀ (aR iR:aA S.C) (la lb:Nat→Loc) (i:Nat) (B:b7 S.C),(i,B) ∈ aR→both aR la lb i=la i:=fun aR iR la lb i B hi=>if_pos (List.mem_map.2 ⟨_,hi,rfl⟩)
        rcases List.mem_cons.1 hb' with rfl | hb'
        · refine ⟨?_,_,(by exact trivial),List.mem_append.2 (.inl (List.mem_append.2 (.inl List.mem_cons_self)))⟩
          unfold both
          rw [if_pos (List.mem_map.2 ⟨_,List.mem_append.2 (.inl List.mem_cons_self),rfl⟩),if_pos (List.mem_map.2 ⟨_,List.mem_cons_self,rfl⟩)]
          exact e0
        · rcases List.mem_cons.1 hb' with rfl | hb'
          · refine ⟨?_,_,(by exact trivial),List.mem_append.2 (.inl (List.mem_append.2 (.inr List.mem_cons_self)))⟩
            unfold both
            rw [if_pos (List.mem_map.2 ⟨_,List.mem_append.2 (.inr List.mem_cons_self),rfl⟩),if_neg]
            · exact e1
            · intro hm
              obtain ⟨u,hu,he⟩:=List.mem_map.1 hm
              rcases g0.fm u hu with h | h
              · rw [he] at h; exact uV (by rw [← h]; simp)
              · rw [he] at h
                have h1:id≤b':=h.1
                have h2:b'<id:=h.2
                omega
          · obtain ⟨p3,vs,p0,p4⟩:=p2 b' hb'
            refine ⟨?_,vs,p0,List.mem_append.2 (.inr p4)⟩
            unfold both
            rw [if_neg]
            · exact p3
            · intro hm
              obtain ⟨u,hu,he⟩:=List.mem_map.1 hm
              rcases CO.fm u hu with (h | h) | (h | h)
              · rw [he] at h; exact uV (by rw [← h]; simp [hb'])
              · rw [he] at h
                have h1:id≤b':=h.1
                have h2:b'<id:=h.2
                omega
              · rw [he] at h; exact C3 (h▸hb')
              · rw [he] at h; exact hid b' (by simp [hb']) b' (by omega) (by omega) rfl
    have hkr: ∀ t cs,k≠ .bO t cs:=fun t cs e=>hkr ⟨t,cs,e⟩
    rw [D7 hk hkb hkr] at hnd hid ⊢
    rw [Lc hk hkb hkr] at h
    cases k with
    | aQ=>exact absurd rfl hkb
    | obj cs=>exact absurd rfl (hk cs)
    | bO t cs=>exact absurd rfl (hkr t cs)
    | val c=>exact jw hS ks id h1 hnd hid h
    | opt cs=>exact jw hS ks id h1 hnd hid h
    | nil=>exact jw hS ks id h1 hnd hid h
    | ro t=>exact jw hS ks id h1 hnd hid h
    | fn a r=>exact jw hS ks id h1 hnd hid h
    | cj cs=>exact jw hS ks id h1 hnd hid h
    | err=>exact jw hS ks id h1 hnd hid h
    | agg u cs=>exact jw hS ks id h1 hnd hid h
theorem D3 {bx:Bx S.C} {b:Nat} {ws vs:List (Sy.V S.C)} {cs:List CK} {y':aJ S.C cs} {u':aA S.C} (hb:bx b=some (.cells ws)) (hy':cy S (ai bx b (some .dead)) cs vs=some (y',u'))
 (k1:Tk S bx (ah bx ((b, .dead)::u'))):ah bx ((b, .dead)::u') b=some .dead:=by
 have hpre:Tk S (ai bx b (some .dead)) (ah (ai bx b (some .dead)) u'):=by
  intro i
  by_cases e:i=b
  · -- from the whole step
    subst e
    rcases k1 i with e1 | ⟨e1,_⟩ | ⟨e',l',e1,e2⟩
    · -- unchanged: then it was cells, but the parts' taking leaves cells alone
      exfalso
      rw [hb] at e1
      have : ∀ (cs:List CK) (bx:Bx S.C) (vs:List (Sy.V S.C)) (x:aJ S.C cs) (us:aA S.C),cy S bx cs vs=some (x,us)→ ∀ u ∈ us,u.2= .dead∨ ∃ e l,u.2= .bn e l:=by
       intro cs
       induction cs with
       | nil=>intro bx vs x us h; cases h; simp
       | cons c cs ih=>
        intro bx vs x us h
        simp only [cy] at h
        obtain ⟨⟨p,q⟩,h1,h⟩:=Option.bind_eq_some_iff.1 h
        obtain ⟨⟨p',q'⟩,h2,h⟩:=Option.bind_eq_some_iff.1 h
        cases h
        intro u hu
        rcases List.mem_append.1 hu with hu | hu
        · cases c with
          | data t=>
           simp only [cI] at h1
           obtain ⟨z,_,h1⟩:=Option.bind_eq_some_iff.1 h1
           cases h1
           obtain ⟨v,_,hv⟩:=List.mem_flatMap.1 hu
           obtain ⟨e,l,he,_⟩:=cE.cn bx v u hv
           exact .inr ⟨e,l,he⟩
          | aP e=>
           simp only [cI] at h1
           split at h1
           · split at h1
             · obtain ⟨z,_,h1⟩:=Option.bind_eq_some_iff.1 h1
               cases h1
               simp at hu; subst hu; exact .inl rfl
             · cases h1
           · cases h1; simp at hu
           · cases h1
          | az e=>
           simp only [cI] at h1
           split at h1
           · split at h1
             · obtain ⟨z,_,h1⟩:=Option.bind_eq_some_iff.1 h1
               cases h1
               simp at hu; subst hu; exact .inl rfl
             · cases h1
           · split at h1
             · obtain ⟨z,_,h1⟩:=Option.bind_eq_some_iff.1 h1
               cases h1
               simp at hu; subst hu; exact .inl rfl
             · cases h1
           · cases h1; simp at hu
           · cases h1
          | aF w=>
           simp only [cI] at h1
           split at h1
           · split at h1
             · obtain ⟨z,_,h1⟩:=Option.bind_eq_some_iff.1 h1
               cases h1
               simp at hu; subst hu; exact .inl rfl
             · cases h1
           · cases h1; simp at hu
           · cases h1
        · exact ih _ _ _ _ h2 u hu
      have aH:=this _ _ _ _ _ hy'
      have : ∀ (us:aA S.C) (bx:Bx S.C),(∀ u ∈ us,u.2= .dead∨ ∃ e l,u.2= .bn e l)→(∀ ws,bx i≠some (.cells ws))→ ∀ ws,ah bx us i≠some (.cells ws):=by
       intro us
       induction us with
       | nil=>intro bx _ h; exact h
       | cons u us ih=>
        intro bx hu h
        refine ih _ (fun u' aH=>hu u' (by simp [aH])) fun ws=> ?_
        by_cases e:i=u.1
        · rw [e,aI]
          rcases hu u (by simp) with h | ⟨_,_,h⟩ <;> rw [h] <;> simp
        · rw [aY _ _ e]; exact h ws
      exact this u' (ai bx i (some .dead)) aH (by intro ws; rw [aI]; simp) _ e1
    · exact .inl (e1.trans (aI _ _ _).symm)
    · rw [hb] at e1; cases e1
  · rcases k1 i with e1 | ⟨e1,h2⟩ | ⟨e',l',e1,e2⟩
    · exact .inl (e1.trans (aY _ _ e).symm)
    · exact .inr (.inl ⟨e1,(dA S (aY _ _ e)).2 h2⟩)
    · exact .inr (.inr ⟨e',l',by rw [aY _ _ e]; exact e1,e2⟩)
 exact mN hpre (aI _ _ _)
theorem Nz {fs:List (gu S)} {bx:Bx S.C} {cs:List CK} {b:Nat} :bS S fs bx (.obj cs) (.ptr b 0)=fY S bx cs b:=by
 simp only [bS,fY]
 cases hb:bx b with
 | none=>rfl
 | some B=>cases B <;> rfl
theorem FX {bx:Bx S.C} {cs:List CK} {b:Nat} {y:aJ S.C cs} {us:aA S.C} (h:fY S bx cs b=some (y,us)) (hk:Tk S bx (ah bx us)):
 (∃ ws,bx b=some (.cells ws)∧ws.length=CK.bJ S cs)∧ah bx us b=some .dead:=by
 unfold fY at h
 split at h
 · rename_i ws hb
   cases hw:Nat.beq ws.length (CK.bJ S cs) with
   | false=>rw [hw] at h; cases h
   | true=>
    rw [hw,cond_true] at h
    obtain ⟨⟨y',u'⟩,hy',h⟩:=Option.bind_eq_some_iff.1 h
    cases h
    exact ⟨⟨ws,hb,Nat.eq_of_beq_eq_true hw⟩,D3 hb hy' hk⟩
 · cases h
theorem FV {env:Env S.C} {w:World} {s s':St} {μ:Nat→Loc} {fs:List (gu S)} (hn: ∀ i B,env.bx i=some B→RB P S w s μ env.bx (μ i) B) (sP: ∀ i,live S env.bx i→kU S (env.bx i)∨b6 (μ i).ext):
 ∀ (ks:List K) {bx:Bx S.C} (hk:Tk S env.bx bx) (hks: ∀ (ks:List K) (bx:Bx S.C) (hk:Tk S env.bx bx) (Vs:List (Sy.V S.C)) (args:List Value) (x:Ks S.C ks) (us:aA S.C),dJ P S w s' μ env.bx Vs args→dP S fs bx ks Vs=some (x,us)→Tk S bx (ah bx us))
  {Vs:List (Sy.V S.C)} {args:List Value} {x:Ks S.C ks} {us:aA S.C},dJ P S w s' μ env.bx Vs args→dP S fs bx ks Vs=some (x,us)→
 nJ S μ w s' ks Vs args∧(cZ S ks Vs).Nodup∧ ∀ b ∈ cZ S ks Vs,(∃ B,sV S B∧bx b=some B)∧ah bx us b=some .dead
 | [],bx,hk,hks,[],args,x,us,h,hx=>⟨trivial,by simp [cZ],by simp [cZ]⟩
 | [],_,_,_,_::_,_,_,_,_,hx=>by cases hx
 | _::_,_,_,_,[],_,_,_,_,hx=>by cases hx
 | k::ks,bx,hk,hks,V::Vs,args,x,us,⟨v,r,hargs,h1,h2⟩,hx=>by
  subst hargs
  simp only [dP] at hx
  obtain ⟨⟨y,u1⟩,hy,hx⟩:=Option.bind_eq_some_iff.1 hx
  obtain ⟨⟨z,u2⟩,hz,hx⟩:=Option.bind_eq_some_iff.1 hx
  cases hx
  have hone:dP S fs bx [k] [V]=some (Ks.cons (t:=k) (ts:= []) y (),u1++ []):=by
   simp only [dP]
   rw [hy]; rfl
  have k1:=hks [k] bx hk [V] [v] _ _ ⟨v,[],rfl,h1,rfl⟩ hone
  rw [List.append_nil] at k1
  have k2:=hks ks _ (hk.trans S k1) Vs r _ _ h2 hz
  obtain ⟨o1,o2,o3⟩:=FV hn sP ks (hk.trans S k1) hks h2 hz
  by_cases sB: ∃ cs,k= .obj cs
  · obtain ⟨cs,rfl⟩:=sB
    simp only [bS] at hy
    split at hy
    · rename_i b off
      split at hy
      · rename_i ws hb
        cases hw:Nat.beq off 0&&Nat.beq ws.length (CK.bJ S cs) with
        | false=>rw [hw] at hy; cases hy
        | true=>
         rw [hw,cond_true] at hy
         rw [Bool.and_eq_true] at hw
         have w1:=Nat.eq_of_beq_eq_true hw.1
         have w2:=Nat.eq_of_beq_eq_true hw.2
         subst w1
         obtain ⟨⟨y',u'⟩,hy',hy⟩:=Option.bind_eq_some_iff.1 hy
         cases hy
         have hlb:live S bx b:=by unfold live; rw [hb]; trivial
         have hb0:env.bx b=some (.cells ws):=(hk.cY hlb).symm.trans hb
         have hrb:=hn b _ hb0
         have gO:ah bx ((b, .dead)::u') b=some .dead:=D3 hb hy' k1
         have hv:v= .pointer (some ⟨(μ b).b,(μ b).o+0,none⟩):=h1
         refine ⟨⟨(fun t' cs' e=>nomatch e),fun cs' e=> ?_,(fun e=>nomatch e),o1⟩, ?_, ?_⟩
         · cases e
           exact ⟨b,rfl,hv,by rw [hrb.2.1,w2],(sP b (by unfold live; rw [hb0]; trivial)).resolve_left (by rw [hb0]; exact id)⟩
         · rw [s9]
           refine List.nodup_cons.2 ⟨fun hm=> ?_,o2⟩
           obtain ⟨lD,hh,hw'⟩:=(o3 b hm).1
           rw [gO] at hw'
           cases hw'
           exact hh
         · rw [s9,fu]
           intro b' hb'
           rcases List.mem_cons.1 hb' with rfl | hb'
           · exact ⟨⟨_,(by exact trivial),hb⟩,mN k2 gO⟩
           · obtain ⟨⟨lD,hh,hw'⟩,h'⟩:=o3 b' hb'
             have hl':live S (ah bx ((b, .dead)::u')) b':=uX hh hw'
             exact ⟨⟨lD,hh,by rw [← k1.cY hl']; exact hw'⟩,h'⟩
      · cases hy
    · cases hy
  · have sB: ∀ cs,k≠ .obj cs:=fun cs e=>sB ⟨cs,e⟩
    by_cases hkb:k= .aQ
    · subst hkb
      simp only [bS] at hy
      split at hy
      · split at hy
        · split at hy
          · rename_i b off _ j hb _ l hj
            cases hw:Nat.beq off 0 with
            | false=>rw [hw] at hy; cases hy
            | true=>
             rw [hw] at hy
             cases hy
             have ho:=Nat.eq_of_beq_eq_true hw
             subst ho
             have hne:j≠b:=fun e=>by subst e; rw [hb] at hj; cases hj
             have hlb:live S bx b:=by unfold live; rw [hb]; trivial
             have hb0:env.bx b=some (.aQ j):=(hk.cY hlb).symm.trans hb
             have hrb:=hn b _ hb0
             have gO:ah bx [(b, .dead),(j, .dead)] b=some .dead:=(aY _ _ hne.symm).trans (aI _ _ _)
             have hv:v= .pointer (some ⟨(μ b).b,(μ b).o+0,none⟩):=h1
             have iV:cZ S (.aQ::ks) (.ptr b 0::Vs)=b::cZ S ks Vs:=rfl
             refine ⟨⟨(fun t' cs' e=>nomatch e),(fun cs' e=>nomatch e),fun _=>⟨b,rfl,hv,hrb.1,hrb.2.1,(sP b (by unfold live; rw [hb0]; trivial)).resolve_left (by rw [hb0]; exact id)⟩,o1⟩, ?_, ?_⟩
             · rw [iV]
               refine List.nodup_cons.2 ⟨fun hm=> ?_,o2⟩
               obtain ⟨lD,hh,hw'⟩:=(o3 b hm).1
               rw [gO] at hw'
               cases hw'
               exact hh
             · rw [iV,fu]
               intro b' hb'
               rcases List.mem_cons.1 hb' with rfl | hb'
               · exact ⟨⟨_,(by exact trivial),hb⟩,mN k2 gO⟩
               · obtain ⟨⟨lD,hh,hw'⟩,h'⟩:=o3 b' hb'
                 have hl':live S (ah bx [(b, .dead),(j, .dead)]) b':=uX hh hw'
                 exact ⟨⟨lD,hh,by rw [← k1.cY hl']; exact hw'⟩,h'⟩
          · cases hy
        · cases hy
      · cases hy
    by_cases hkr: ∃ t cs,k= .bO t cs
    · obtain ⟨t,cs,rfl⟩:=hkr
      simp only [bS] at hy
      split at hy
      · rename_i b c
        obtain ⟨⟨ya,ua⟩,y4,hy⟩:=Option.bind_eq_some_iff.1 hy
        obtain ⟨⟨yb,ub⟩,y5,hy⟩:=Option.bind_eq_some_iff.1 hy
        cases hy
        dsimp only at y4 y5
        have Du: ∀ (bx:Bx S.C) (cs:List CK) (i:Nat) (y:aJ S.C cs) (u:aA S.C),Tk S env.bx bx→fY S bx cs i=some (y,u)→Tk S bx (ah bx u):=fun bx cs i y u hk0 h0=>by
         have :=hks [.obj cs] bx hk0 [.ptr i 0] [.pointer (some ⟨(μ i).b,(μ i).o+0,none⟩)] (Ks.cons (t:= .obj cs) (ts:= []) y ()) (u++ []) ⟨_,_,rfl,rfl,rfl⟩ (by
          simp only [dP]
          rw [Nz,h0]; rfl)
         rwa [List.append_nil] at this
        have ka:=Du bx _ _ _ _ hk y4
        have kb':=Du _ _ _ _ _ (hk.trans S ka) y5
        obtain ⟨⟨wa,hca,hla⟩,hda⟩:=FX y4 ka
        obtain ⟨⟨wb,hcb,hlb⟩,hdb⟩:=FX y5 kb'
        have JH:live S (ah bx ua) b:=by unfold live; rw [hcb]; trivial
        have yC:bx b=some (.cells wb):=(ka.cY JH).symm.trans hcb
        have JJ:live S bx c:=by unfold live; rw [hca]; trivial
        have JI:live S bx b:=by unfold live; rw [yC]; trivial
        have hne:c≠b:=fun e=>by subst e; rw [hda] at hcb; cases hcb
        have hc0:env.bx c=some (.cells wa):=(hk.cY JJ).symm.trans hca
        have hb0:env.bx b=some (.cells wb):=(hk.cY JI).symm.trans yC
        obtain ⟨kb,q,e1,e2,e3,e4⟩:=h1
        have cu:=e2 0 _ rfl
        rw [Nat.add_zero] at cu
        have iV:cZ S (.bO t cs::ks) (.split b c::Vs)=c::b::cZ S ks Vs:=rfl
        have C9:ah bx (ua++ub) c=some .dead:=by rw [fu]; exact mN kb' hda
        have C8:ah bx (ua++ub) b=some .dead:=by rw [fu]; exact hdb
        have hout: ∀ i ∈ cZ S ks Vs,ah bx (ua++ub) i≠some .dead:=fun i hi he=>by
         obtain ⟨lD,hh,hw'⟩:=(o3 i hi).1
         rw [he] at hw'
         cases hw'
         exact hh
        refine ⟨⟨fun t' cs' e=> ?_,(fun cs' e=>nomatch e),(fun e=>nomatch e),o1⟩, ?_, ?_⟩
        · cases e
          exact ⟨b,c,kb,q,rfl,e1,e3,e4,by rw [(hn b _ hb0).2.1,hlb],by rw [(hn c _ hc0).2.1,hla],cu.2,cu.1,(sP b (by unfold live; rw [hb0]; trivial)).resolve_left (by rw [hb0]; exact id),(sP c (by unfold live; rw [hc0]; trivial)).resolve_left (by rw [hc0]; exact id)⟩
        · rw [iV]
          refine List.nodup_cons.2 ⟨fun hm=> ?_,List.nodup_cons.2 ⟨fun hm=>hout b hm C8,o2⟩⟩
          rcases List.mem_cons.1 hm with e | hm
          · exact hne e
          · exact hout c hm C9
        · rw [iV,fu]
          intro b' hb'
          rcases List.mem_cons.1 hb' with rfl | hb'
          · exact ⟨⟨_,(by exact trivial),hca⟩,mN k2 C9⟩
          · rcases List.mem_cons.1 hb' with rfl | hb'
            · exact ⟨⟨_,(by exact trivial),yC⟩,mN k2 C8⟩
            · obtain ⟨⟨lD,hh,hw'⟩,h'⟩:=o3 b' hb'
              have hl':live S (ah bx (ua++ub)) b':=uX hh hw'
              exact ⟨⟨lD,hh,by rw [← k1.cY hl']; exact hw'⟩,h'⟩
      · cases hy
    have hkr: ∀ t cs,k≠ .bO t cs:=fun t cs e=>hkr ⟨t,cs,e⟩
    rw [D7 sB hkb hkr,fu]
    refine ⟨⟨fun t cs e=>absurd e (hkr t cs),fun cs e=>absurd e (sB cs),fun e=>absurd e hkb,o1⟩,o2,fun b' hb'=> ?_⟩
    obtain ⟨⟨lD,hh,hw'⟩,h'⟩:=o3 b' hb'
    have hl':live S (ah bx u1) b':=uX hh hw'
    exact ⟨⟨lD,hh,by rw [← k1.cY hl']; exact hw'⟩,h'⟩
end
end Go.Sy
namespace Go.Sy
section
variable {P:Program} {S:aK} {af:Nat→Nat}
variable {w0:World} {M0 s0:St} {dq:List Deferred} {env:Env S.C} {a:Act} {w:World} {μ:Nat→Loc}
theorem bl.mono {w w':World} {s s':St} {μ:Nat→Loc} {bx:Bx S.C} (hl:aV w s w' s') {V:V S.C} {v:Value} (h:bl P S w s μ bx V v):bl P S w' s' μ bx V v:=by
 cases V with
 | d t x=>exact bT.mono S hl h
 | aP b e l=>exact ⟨bT.mono S hl h.1,h.2⟩
 | cH t x=>exact kF.mono S hl h
 | fv a r g=>exact kE.mono P S hl h
 | split b c=>obtain ⟨k,q,h1,h2,h3⟩:=h; exact ⟨k,q,h1,h2.later hl,h3⟩
 | i_ c=>obtain ⟨k,q,h1,h2⟩:=h; exact ⟨k,q,h1,h2.later hl⟩
 | _=>exact h
theorem aB.mono {w w':World} {s s':St} {μ:Nat→Loc} {bx:Bx S.C} (hl:aV w s w' s'): ∀ {vs:List (V S.C)} {cs:List Value},aB P S w s μ bx vs cs→aB P S w' s' μ bx vs cs
 | [],_,h=>h
 | _::_,_,⟨c,r,h1,h2,h3⟩=>⟨c,r,h1,h2.mono hl,aB.mono hl h3⟩
theorem RB.mono {w:World} {s s':St} {μ:Nat→Loc} {bx:Bx S.C} (hl:aV w s w s') {L:Loc} {B:b7 S.C} (h:RB P S w s μ bx L B):RB P S w s' μ bx L B:=by
 cases B with
 | cells vs=>
  obtain ⟨h1,h2,h3,cs,h4,h5⟩:=h
  exact ⟨h1,h2,h3,cs,h4,h5.mono hl⟩
 | bH vs=>
  obtain ⟨h1,cs,h4,h5⟩:=h
  exact ⟨h1,cs,h4.later hl,h5.mono hl⟩
 | arr e l=>
  obtain ⟨h1,h2,h3,h4,h5⟩:=h
  refine ⟨h1,h2,h3,h4,fun i x hi=> ?_⟩
  obtain ⟨ds,d1,d2,n,d3⟩:=h5 i x hi
  exact ⟨ds,d1,d2,n,d3.mono S hl (Nat.le_refl _)⟩
 | bn e l=>
  obtain ⟨h2,h3,h5⟩:=h
  refine ⟨h2,h3,fun i x hi=> ?_⟩
  obtain ⟨ds,d1,d2,n,d3⟩:=h5 i x hi
  exact ⟨ds,d1,d2.later hl,n,d3.mono S hl (Nat.le_refl _)⟩
 | aF u l q=>
  obtain ⟨h1,h2,h3,h4,n,Ms,h5,h6⟩:=h
  exact ⟨h1,h2,h3,h4,n,Ms,h5,ep.step hl (fun u l M cs q1 q2=>bX.step hl (Nat.le_refl _) q1 q2) (Kept.refl _ _) h1 h3 h6⟩
 | tail=>exact h
 | dead=>trivial
 | aQ j=>exact h
 | buf l=>exact h
def DF (us:aA S.C):Prop:= ∀ u ∈ us,u.2= .dead∨ ∃ e l,u.2= .bn e l
theorem DF.append {us vs:aA S.C} (h:DF us) (h':DF vs):DF (us++vs):=fun u hu=>(List.mem_append.1 hu).elim (h u) (h' u)
theorem DF.fz {bx:Bx S.C} {us:aA S.C} (h:cE bx us):DF us:=fun u hu=>by obtain ⟨e,l,he,_⟩:=h u hu; exact .inr ⟨e,l,he⟩
theorem DF.cI {bx:Bx S.C} {c:CK} {vs:List (Sy.V S.C)} {x:c.den S.C} {us:aA S.C} (h1:cI S bx c vs=some (x,us)):DF us:=by
 intro u hu
 cases c with
 | data t=>
  simp only [Sy.cI] at h1
  obtain ⟨z,_,h1⟩:=Option.bind_eq_some_iff.1 h1
  cases h1
  obtain ⟨v,_,hv⟩:=List.mem_flatMap.1 hu
  obtain ⟨e,l,he,_⟩:=cE.cn bx v u hv
  exact .inr ⟨e,l,he⟩
 | aP e=>
  simp only [Sy.cI] at h1
  split at h1
  · split at h1
    · obtain ⟨z,_,h1⟩:=Option.bind_eq_some_iff.1 h1
      cases h1
      simp at hu; subst hu; exact .inl rfl
    · cases h1
  · cases h1; simp at hu
  · cases h1
 | az e=>
  simp only [Sy.cI] at h1
  split at h1
  · split at h1
    · obtain ⟨z,_,h1⟩:=Option.bind_eq_some_iff.1 h1
      cases h1
      simp at hu; subst hu; exact .inl rfl
    · cases h1
  · split at h1
    · obtain ⟨z,_,h1⟩:=Option.bind_eq_some_iff.1 h1
      cases h1
      simp at hu; subst hu; exact .inl rfl
    · cases h1
  · cases h1; simp at hu
  · cases h1
 | aF w=>
  simp only [Sy.cI] at h1
  split at h1
  · split at h1
    · obtain ⟨z,_,h1⟩:=Option.bind_eq_some_iff.1 h1
      cases h1
      simp at hu; subst hu; exact .inl rfl
    · cases h1
  · cases h1; simp at hu
  · cases h1
theorem DF.cy: ∀ {cs:List CK} {bx:Bx S.C} {vs:List (Sy.V S.C)} {x:aJ S.C cs} {us:aA S.C},cy S bx cs vs=some (x,us)→DF us
 | [],_,_,_,_,h=>by cases h; intro u hu; simp at hu
 | c::cs,bx,vs,x,us,h=>by
  simp only [Sy.cy] at h
  obtain ⟨⟨p,q⟩,h1,h⟩:=Option.bind_eq_some_iff.1 h
  obtain ⟨⟨p',q'⟩,h2,h⟩:=Option.bind_eq_some_iff.1 h
  cases h
  exact (DF.cI h1).append (DF.cy h2)
theorem DF.fY {cs:List CK} {bx:Bx S.C} {b:Nat} {x:aJ S.C cs} {us:aA S.C} (hx:fY S bx cs b=some (x,us)):DF us:=by
 unfold Sy.fY at hx
 split at hx
 · rename_i ws hb
   cases hw:Nat.beq ws.length (CK.bJ S cs) with
   | false=>rw [hw] at hx; cases hx
   | true=>
    rw [hw,cond_true] at hx
    obtain ⟨⟨y,u'⟩,hy,hx⟩:=Option.bind_eq_some_iff.1 hx
    cases hx
    intro u hu
    rcases List.mem_cons.1 hu with rfl | hu
    · exact .inl rfl
    · exact DF.cy hy u hu
 · cases hx
theorem DF.bS {fs:List (gu S)} {bx:Bx S.C} {k:K} {V:Sy.V S.C} {x:k.den S.C} {us:aA S.C} (hx:bS S fs bx k V=some (x,us)):DF us:=by
 have obj: ∀ (b:Nat) (us':aA S.C),DF us'→DF ((b, .dead)::us'):=fun b us' h u hu=>by
  rcases List.mem_cons.1 hu with rfl | hu
  · exact .inl rfl
  · exact h u hu
 cases k with
 | val c=>
  cases c with
  | data t=>
   simp only [Sy.bS] at hx
   obtain ⟨y,hy,hx⟩:=Option.bind_eq_some_iff.1 hx
   cases hx
   exact DF.fz (cE.cQ bx V)
  | aP e=>exact DF.cI (c:= .aP e) hx
  | az e=>exact DF.cI (c:= .az e) hx
  | aF w=>exact DF.cI (c:= .aF w) hx
 | agg u ps=>
  simp only [Sy.bS] at hx
  split at hx
  · rename_i u' vs
    cases hw:Nat.beq u u'&&Nat.beq vs.length (CK.bJ S ps) with
    | false=>rw [hw] at hx; cases hx
    | true=>
     rw [hw] at hx
     replace hx:Sy.cy S bx ps vs=some (x,us):=hx
     exact DF.cy hx
  · cases hx
 | obj ps=>
  simp only [Sy.bS] at hx
  split at hx
  · split at hx
    · rename_i b off _ ws hb
      cases hw:Nat.beq off 0&&Nat.beq ws.length (CK.bJ S ps) with
      | false=>rw [hw] at hx; cases hx
      | true=>
       rw [hw,cond_true] at hx
       obtain ⟨⟨y,u'⟩,hy,hx⟩:=Option.bind_eq_some_iff.1 hx
       cases hx
       exact obj _ _ (DF.cy hy)
    · cases hx
  · cases hx
 | bO t ps=>
  simp only [Sy.bS] at hx
  split at hx
  · obtain ⟨⟨y,u1⟩,hy,hx⟩:=Option.bind_eq_some_iff.1 hx
    obtain ⟨⟨z,u2⟩,hz,hx⟩:=Option.bind_eq_some_iff.1 hx
    cases hx
    exact (DF.fY hy).append (DF.fY hz)
  · cases hx
 | opt ps=>
  simp only [Sy.bS] at hx
  split at hx
  · cases hx; intro u hu; simp at hu
  · split at hx
    · rename_i b off _ ws hb
      cases hw:Nat.beq off 0&&Nat.beq ws.length (CK.bJ S ps) with
      | false=>rw [hw] at hx; cases hx
      | true=>
       rw [hw,cond_true] at hx
       obtain ⟨⟨y,u'⟩,hy,hx⟩:=Option.bind_eq_some_iff.1 hx
       cases hx
       exact obj _ _ (DF.cy hy)
    · cases hx
  · cases hx
 | cj ps=>
  simp only [Sy.bS] at hx
  split at hx
  · split at hx
    · rename_i b n _ ws hb
      cases hw:Nat.beq n ws.length&&Nat.beq ws.length (CK.bJ S ps) with
      | false=>rw [hw] at hx; cases hx
      | true=>
       rw [hw,cond_true] at hx
       obtain ⟨⟨y,u'⟩,hy,hx⟩:=Option.bind_eq_some_iff.1 hx
       cases hx
       exact obj _ _ (DF.cy hy)
    · cases hx
  · cases hx
 | err=>
  simp only [Sy.bS] at hx
  split at hx
  · cases hx; intro u hu; simp at hu
  · cases hx
 | aQ=>
  simp only [Sy.bS] at hx
  split at hx
  · split at hx
    · split at hx
      · rename_i b off _ j hb _ l hj
        cases hw:Nat.beq off 0 with
        | false=>rw [hw] at hx; cases hx
        | true=>
         rw [hw] at hx
         cases hx
         intro u hu
         simp only [List.mem_cons,List.not_mem_nil,or_false] at hu
         rcases hu with rfl | rfl <;> exact .inl rfl
      · cases hx
    · cases hx
  · cases hx
 | nil=>
  simp only [Sy.bS] at hx
  split at hx
  · cases hx; intro u hu; simp at hu
  · cases hx
 | ro t=>
  simp only [Sy.bS] at hx
  obtain ⟨y,hy,hx⟩:=Option.bind_eq_some_iff.1 hx
  cases hx; intro u hu; simp at hu
 | fn A R=>
  simp only [Sy.bS] at hx
  obtain ⟨y,hy,hx⟩:=Option.bind_eq_some_iff.1 hx
  cases hx; intro u hu; simp at hu
theorem DF.dP {fs:List (gu S)} : ∀ {ks:List K} {bx:Bx S.C} {Vs:List (Sy.V S.C)} {x:Ks S.C ks} {us:aA S.C},dP S fs bx ks Vs=some (x,us)→DF us
 | [],_,[],_,_,h=>by cases h; intro u hu; simp at hu
 | [],_,_::_,_,_,h=>by cases h
 | _::_,_,[],_,_,h=>by cases h
 | k::ks,bx,V::Vs,x,us,h=>by
  simp only [Sy.dP] at h
  obtain ⟨⟨p,q⟩,h1,h⟩:=Option.bind_eq_some_iff.1 h
  obtain ⟨⟨p',q'⟩,h2,h⟩:=Option.bind_eq_some_iff.1 h
  cases h
  exact (DF.bS h1).append (DF.dP h2)
theorem vt {i:Nat} : ∀ {us:aA S.C} {bx jj:Bx S.C} (dY:Bool),(bx i=some .dead→jj i=some .dead)→ah bx us i=some .dead→ah jj (ir S dY us) i=some .dead
 | [],bx,jj,dY,h,hu=>by
  have :ir S dY ([]:aA S.C)= []:=by cases dY <;> rfl
  rw [this]; exact h hu
 | u::us,bx,jj,true,h,hu=>vt (us:=us) (bx:=ai bx u.1 (some u.2)) (jj:=ai jj u.1 (some u.2)) true (fun hi=>by
  by_cases e:i=u.1
  · rw [e,aI] at hi ⊢; exact hi
  · rw [aY _ _ e] at hi ⊢; exact h hi) hu
 | (k,B)::us,bx,jj,false,h,hu=>by
  have keep:ah jj ((k,B)::ir S false us) i=some .dead:=vt (us:=us) (bx:=ai bx k (some B)) (jj:=ai jj k (some B)) false (fun hi=>by
   by_cases e:i=k
   · rw [e,aI] at hi ⊢; exact hi
   · rw [aY _ _ e] at hi ⊢; exact h hi) hu
  cases B with
  | bn e l=>
   refine vt (us:=us) (bx:=ai bx k (some (.bn e l))) (jj:=jj) false (fun hi=> ?_) hu
   by_cases e:i=k
   · rw [e,aI] at hi
     cases hi
   · rw [aY _ _ e] at hi; exact h hi
  | _=>exact keep
theorem Gh {i:Nat} : ∀ {us:aA S.C} {bx:Bx S.C},(∀ u ∈ us,u.2= .dead)→ah bx us i=bx i∨ah bx us i=some .dead
 | [],_,_=> .inl rfl
 | u::us,bx,h=>by
  rcases Gh (us:=us) (bx:=ai bx u.1 (some u.2)) (fun v hv=>h v (by simp [hv])) with h1 | h1
  · by_cases e:i=u.1
    · right; show ah (ai bx u.1 (some u.2)) us i=_
      rw [h1,e,aI,h u (by simp)]
    · left; show ah (ai bx u.1 (some u.2)) us i=_
      rw [h1,aY _ _ e]
  · exact .inr h1
theorem Ko {us:aA S.C} (h:DF us) (dY:Bool) (bx:Bx S.C) (i:Nat):
 ah bx (ir S dY us) i=bx i∨ah bx (ir S dY us) i=some .dead∨(dY=true∧ah bx (ir S dY us) i=ah bx us i):=by
 cases dY with
 | true=>exact .inr (.inr ⟨rfl,rfl⟩)
 | false=>
  rcases Gh (i:=i) (us:=ir S false us) (bx:=bx) (fun u hu=>by
   unfold ir at hu
   rw [cond_false,List.mem_filter] at hu
   rcases h u hu.1 with h1 | ⟨e,l,h1⟩
   · exact h1
   · rw [h1] at hu; exact absurd hu.2 (by simp)) with h1 | h1
  · exact .inl h1
  · exact .inr (.inl h1)
theorem Inv.call (hS:bY S) (h:Inv P S w0 M0 s0 dq env a w μ) {aR gs:aA S.C} {dY:Bool} {M M' s':St} {w':World} {lam:Nat→Loc} {I:Nat→Prop} {n8:List Nat}
 (hdf:DF aR) (hk:Tk S env.bx (ah env.bx aR)) (hM:aS S env μ env.bx (ah env.bx aR) M) (hw:aO w w' M)
 (hs': ∀ b o,s' b o→b<w'.heap.size∧ ¬ M' b o∧(bC S w0 M0 s0 env.bx (ah env.bx aR) μ w b o∨M b o∨w.heap.size≤b))
 (j0: ∀ b o,M' b o→M b o∨w.heap.size≤b) (hG:bK P S w' s' I gs lam M') (hI: ∀ i,I i→i ∈ n8∨env.bx i=none)
 (hh: ∀ b ∈ n8, ∃ B0 B,env.bx b=some B0∧(b,B) ∈ gs∧cg S (μ b) (lam b) B0 B) (hl:dY=true∨ ∀ b o, ¬ s' b o):
 ∃ μ',Inv P S w0 M0 s0 dq { env with bx:=ah env.bx (ir S dY aR++gs) } a w' μ'∧aV w' s' w' (ay S w0 M0 s0 (ah env.bx (ir S dY aR++gs)) μ' w')∧
  Agree gs lam μ' (ah env.bx (ir S dY aR++gs)):=by
 rw [fu]
 generalize yA:ah env.bx (ir S dY aR)=dy
 let μ':Nat→Loc:=fun i=>if i ∈ gs.map (·.1) then lam i else μ i
 have hin: ∀ u ∈ gs,ah dy gs u.1=some u.2∧μ' u.1=lam u.1:=fun u hu=>⟨tX gs dy hG.one u hu,if_pos (List.mem_map.2 ⟨u,hu,rfl⟩)⟩
 have hout: ∀ i,(∀ u ∈ gs,u.1≠i)→ah dy gs i=dy i∧μ' i=μ i:=fun i hi=>⟨o8 gs dy hi,if_neg fun hm=>by
  obtain ⟨u,hu,he⟩:=List.mem_map.1 hm; exact hi u hu he⟩
 have cB: ∀ i,dy i=env.bx i∨dy i=some .dead∨(dY=true∧dy i=ah env.bx aR i):=fun i=>by rw [← yA]; exact Ko hdf dY env.bx i
 have gO: ∀ i,ah env.bx aR i=some .dead→dy i=some .dead:=fun i hi=>by rw [← yA]; exact vt dY (fun h=>h) hi
 have hlv: ∀ i,live S dy i→dy i=env.bx i∧live S env.bx i:=fun i hi=>by
  have h1:dy i=env.bx i:=by
   rcases cB i with h1 | h1 | ⟨_,h1⟩
   · exact h1
   · unfold live at hi; rw [h1] at hi; exact hi.elim
   · rw [h1]; exact hk.cY ((dA S h1).1 hi)
  exact ⟨h1,(dA S h1).1 hi⟩
 let U:Nat→Prop:=fun i=>(∃ u ∈ gs,u.1=i)∨dy i≠env.bx i
 have pV: ∀ b o,M b o→ ∃ i,live S env.bx i∧dy i=some .dead∧(μ i).au b o:=fun b o hm=>by
  obtain ⟨i,h1,_,h3,h4⟩:=hM b o hm
  exact ⟨i,h1,gO i h3,h4⟩
 have yu: ∀ i,live S env.bx i→dy i=some .dead→U i:=fun i h1 h2=> .inr fun e=>by
  unfold live at h1; rw [← e,h2] at h1; exact h1
 have hT: ∀ b o,M b o→b<w.heap.size→ ∃ i,U i∧live S env.bx i∧(μ i).au b o:=fun b o hm _=>by
  obtain ⟨i,h1,h2,h3⟩:=pV b o hm
  exact ⟨i,yu i h1 h2,h1,h3⟩
 have hU: ∀ i, ¬ U i→ah dy gs i=env.bx i∧μ' i=μ i:=fun i hi=>by
  obtain ⟨h1,h2⟩:=hout i fun u hu e=>hi (.inl ⟨u,hu,e⟩)
  exact ⟨h1.trans (Classical.not_not.1 fun e=>hi (.inr e)),h2⟩
 have n9: ∀ i,live S (ah dy gs) i→(∃ u ∈ gs,u.1=i∧μ' i=lam u.1)∨(dy i=env.bx i∧live S env.bx i∧μ' i=μ i∧ah dy gs i=dy i):=fun i hi=>by
  by_cases hg: ∃ u ∈ gs,u.1=i
  · obtain ⟨u,hu,rfl⟩:=hg
    exact .inl ⟨u,hu,rfl,(hin u hu).2⟩
  · obtain ⟨h1,h2⟩:=hout i fun u hu e=>hg ⟨u,hu,e⟩
    obtain ⟨h3,h4⟩:=hlv i ((dA S h1).1 hi)
    exact .inr ⟨h3,h4,h2,h1⟩
 have ve: ∀ u ∈ gs, ∀ b o,(lam u.1).au b o→M' b o:=fun u hu b o hf=>(hG.au b o).2 ⟨u,hu,hf⟩
 have hf: ∀ i,U i→live S (ah dy gs) i→ ∀ b o,(μ' i).au b o→w.heap.size≤b∨ ∃ j,U j∧live S env.bx j∧(μ j).au b o:=by
  intro i hi oa b o hfo
  rcases n9 i oa with ⟨u,hu,rfl,h2⟩ | ⟨h1,h2,h3,h4⟩
  · rw [h2] at hfo
    rcases j0 b o (ve u hu b o hfo) with hm | hn
    · obtain ⟨j,j1,j2,j3⟩:=pV b o hm
      exact .inr ⟨j,yu j j1 j2,j1,j3⟩
    · exact .inl hn
  · rcases hi with ⟨u,hu,rfl⟩ | hi
    · rw [(hin u hu).2] at hfo
      rcases j0 b o (ve u hu b o hfo) with hm | hn
      · obtain ⟨j,j1,j2,j3⟩:=pV b o hm
        exact .inr ⟨j,yu j j1 j2,j1,j3⟩
      · exact .inl hn
    · exact absurd h1 hi
 have iU:=h.later hw hT hU hf
 have dN:aV w' s' w' (ay S w0 M0 s0 (ah dy gs) μ' w'):=by
  intro b o hs
  obtain ⟨q1,q2,q3⟩:=hs' b o hs
  refine ⟨⟨q1, ?_,fun i hi hfo=> ?_⟩,rfl⟩
  · rcases q3 with q3 | q3 | q3
    · exact q3.2.1
    · obtain ⟨i,i1,_,i3⟩:=pV b o q3
      exact (h.own i i1 b o i3).elim (fun h=> .inr (.inr h)) (fun h=> .inr (.inl h))
    · exact .inr (.inr (Nat.le_trans h.gL.size q3))
  · rcases n9 i hi with ⟨u,hu,rfl,h2⟩ | ⟨h1,h2,h3,h4⟩
    · rw [h2] at hfo; exact q2 (ve u hu b o hfo)
    · rw [h3] at hfo
      rcases q3 with q3 | q3 | q3
      · rcases q3.2.2 i h2 with ⟨e,l,hq⟩ | hq
        · rcases hl with hl | hl
          · have :dy i=some (.bn e l):=by rw [← yA,hl]; exact hq
            have hi':=(dA S h4).1 hi
            unfold live at hi'
            rw [this] at hi'
            exact hi'
          · exact hl b o hs
        · exact hq hfo
      · obtain ⟨k,k1,k2,k3⟩:=pV b o q3
        refine h.cM i k (fun e=> ?_) h2 k1 b o hfo k3
        subst e
        rw [h1] at k2
        unfold live at h2; rw [k2] at h2; exact h2
      · exact absurd (ju P S (h.bw i) (h.ext i h2) h2 hfo).1 (by omega)
 refine ⟨μ',h.step hw hT hU hf ?_ ?_ ?_ ?_ ?_,dN,hin⟩
 · intro i B0 hi
   by_cases hg: ∃ u ∈ gs,u.1=i
   · obtain ⟨u,hu,rfl⟩:=hg
     rcases hI u.1 (hG.fm u hu) with hm | hn
     · obtain ⟨ws,vs,e1,e3,e2⟩:=hh _ hm
       rw [hi] at e1
       cases e1
       have :u=(u.1,vs):=hG.one u hu _ e3 rfl
       refine ⟨_,(hin u hu).1, ?_⟩
       rw [show u.2=vs from congrArg Prod.snd this,(hin u hu).2]
       exact e2
     · rw [hi] at hn; cases hn
   · obtain ⟨h1,h2⟩:=hout i fun u hu e=>hg ⟨u,hu,e⟩
     rw [h1,h2]
     rcases cB i with e1 | e1 | ⟨e0,e1⟩
     · exact ⟨B0,e1.trans hi,cg.refl S _ _⟩
     · exact ⟨_,e1,by cases B0 <;> rfl⟩
     · rcases hk i with e2 | ⟨e2,_⟩ | ⟨e,l,e2,e3⟩
       · exact ⟨B0,(e1.trans e2).trans hi,cg.refl S _ _⟩
       · exact ⟨_,e1.trans e2,by cases B0 <;> rfl⟩
       · rw [hi] at e2
         cases e2 <;> exact ⟨_,e1.trans e3,rfl,rfl,rfl⟩
 · intro i j hi hj hij li lj b o fi fj
   rcases n9 i li with ⟨u,hu,rfl,h2⟩ | ⟨h1,h2,h3,h4⟩
   · rcases n9 j lj with ⟨u',aH,rfl,kR⟩ | ⟨nY,_,_,_⟩
     · rw [h2] at fi; rw [kR] at fj
       exact hG.cM u hu u' aH hij b o fi fj
     · rcases hj with ⟨u',aH,rfl⟩ | hj
       · rw [h2] at fi; rw [(hin u' aH).2] at fj
         exact hG.cM u hu u' aH hij b o fi fj
       · exact hj nY
   · rcases hi with ⟨u,hu,rfl⟩ | hi
     · rcases n9 j lj with ⟨u',aH,rfl,kR⟩ | ⟨nY,_,_,_⟩
       · rw [(hin u hu).2] at fi; rw [kR] at fj
         exact hG.cM u hu u' aH hij b o fi fj
       · rcases hj with ⟨u',aH,rfl⟩ | hj
         · rw [(hin u hu).2] at fi; rw [(hin u' aH).2] at fj
           exact hG.cM u hu u' aH hij b o fi fj
         · exact hj nY
     · exact hi h1
 · intro i B hi hB
   by_cases hg: ∃ u ∈ gs,u.1=i
   · obtain ⟨u,hu,rfl⟩:=hg
     rw [(hin u hu).1] at hB
     cases hB
     rw [(hin u hu).2]
     exact (hG.rb μ' _ hin u hu).mono dN
   · obtain ⟨h1,h2⟩:=hout i fun u hu e=>hg ⟨u,hu,e⟩
     rw [h1] at hB
     rw [h2]
     have hne:dy i≠env.bx i:=hi.resolve_left hg
     rcases cB i with e1 | e1 | ⟨e0,e1⟩
     · exact absurd e1 hne
     · rw [e1] at hB; cases hB; trivial
     · rcases hk i with e2 | ⟨e2,_⟩ | ⟨e,l,e2,e3⟩
       · exact absurd (e1.trans e2) hne
       · rw [e1,e2] at hB; cases hB; trivial
       · have C2:dy i=some (.bn e l):=e1.trans e3
         rw [C2] at hB
         cases hB
         have bp:live S env.bx i:=cO.live S e2
         have ft: ∀ b o,(μ i).au b o→ay S w0 M0 s0 (ah dy gs) μ' w' b o∧w'.cell? ⟨b,o,none⟩=w.cell? ⟨b,o,none⟩:=fun b o fH=>by
          have Dq: ¬ M b o:=fun hm=>by
           obtain ⟨q,q1,q2,q3⟩:=pV _ _ hm
           refine h.cM i q (fun e=> ?_) bp q1 _ _ fH q3
           subst e
           rw [C2] at q2
           cases q2
          have Dm:=(ju P S (h.bw i) (h.ext i bp) bp fH).1
          refine ⟨⟨Nat.lt_of_lt_of_le Dm hw.size,(h.own i bp _ _ fH).elim (fun h=> .inr (.inr h)) (fun h=> .inr (.inl h)),fun q hq p5=> ?_⟩,hw.cell _ _ Dm Dq⟩
          rcases n9 q hq with ⟨u,hu,rfl,h2⟩ | ⟨r1,r2,r3,r4⟩
          · rw [h2] at p5
            rcases j0 _ _ (ve u hu _ _ p5) with hm | hn
            · exact Dq hm
            · omega
          · rw [r3] at p5
            refine h.cM q i (fun e=> ?_) r2 bp _ _ p5 fH
            subst e
            exact hne r1
         have two:=cO.two S e2
         clear e2
         rcases two with e2 | ⟨u,l',e2,Ii⟩
         · obtain ⟨g1,g2,g3,g4,g5⟩:=h.bw i _ e2
           refine ⟨g2,g3,fun k x j8=> ?_⟩
           obtain ⟨ds,d1,d2,n,d3⟩:=g5 k x j8
           refine ⟨ds,d1,fun j u hj=> ?_,n,d3.mono S iU (Nat.le_refl _)⟩
           have fH:=kK g1 g3 (List.getElem?_eq_some_iff.1 j8).1 (j:=j) (by have :=(List.getElem?_eq_some_iff.1 hj).1; omega)
           obtain ⟨f1,f2⟩:=ft _ _ (.inl fH)
           exact ⟨f2.trans (d2 j u hj),f1⟩
         · cases Ii
           obtain ⟨g1,g2,g3,g4,n,Ms,g5,g6⟩:=h.bw i _ e2
           refine ⟨g2,g3,fun k x j8=> ?_⟩
           obtain ⟨y,ds,d1,d2,d3,d4⟩:=g6.2.2.2 k x j8 (by simp)
           obtain ⟨m,hm⟩:=vF (s':=fun b o=>ay S w0 M0 s0 env.bx μ w b o∨(μ i).au b o) hS.flat (fun u l M cs q1 q2=>bX.rep hS.flat q1 q2) d1 (fun b' o' q=>q.imp id fun q=> .inr ((g5 _ _).2 ⟨k,q⟩)) d4
           have JE:aV w (fun b o=>ay S w0 M0 s0 env.bx μ w b o∨(μ i).au b o) w' (ay S w0 M0 s0 (ah dy gs) μ' w'):=fun b o q=>q.elim (fun q=>iU b o q) fun q=>ft b o q
           refine ⟨ds,d2,fun j u hj=> ?_,m,hm.mono S JE (Nat.le_refl _)⟩
           have fH:=kK g1 g3 (List.getElem?_eq_some_iff.1 j8).1 (j:=j) (by have :=(List.getElem?_eq_some_iff.1 hj).1; omega)
           obtain ⟨f1,f2⟩:=ft _ _ (.inl fH)
           exact ⟨f2.trans (d3 j u hj),f1⟩
 · intro i vs hi hvs v hv j hj
   by_cases hg: ∃ u ∈ gs,u.1=i
   · obtain ⟨u,hu,rfl⟩:=hg
     rw [(hin u hu).1] at hvs
     obtain ⟨u',aH,he⟩:=hG.ref u hu vs (by rcases hvs with hvs | hvs <;> · rw [Option.some.inj hvs]; simp) v hv j hj
     rw [← he,(hin u' aH).1]; simp
   · obtain ⟨h1,h2⟩:=hout i fun u hu e=>hg ⟨u,hu,e⟩
     have hne:dy i≠env.bx i:=hi.resolve_left hg
     rw [h1] at hvs
     rcases cB i with e1 | e1 | ⟨e0,e1⟩
     · exact absurd e1 hne
     · rw [e1] at hvs; rcases hvs with hvs | hvs <;> cases hvs
     · rcases hk i with e2 | ⟨e2,_⟩ | ⟨e,l,e2,e3⟩
       · exact absurd (e1.trans e2) hne
       · rw [e1,e2] at hvs; rcases hvs with hvs | hvs <;> cases hvs
       · rw [e1,e3] at hvs; rcases hvs with hvs | hvs <;> cases hvs
 · intro i hi oa
   rcases n9 i oa with ⟨u,hu,rfl,h2⟩ | ⟨h1,h2,h3,h4⟩
   · rw [(hin u hu).1,h2]; exact hG.ext u hu
   · rw [h4,h3,h1]; exact h.ext i h2
end
end Go.Sy
namespace Go.Sy
section
variable {P:Program} {S:aK} {af:Nat→Nat}
theorem pI {bx aa:Bx S.C} {W:Sy.V S.C} {t:Ty} (hW: ∀ i ∈ ak S W,aa i=bx i):cF S aa t W=cF S bx t W:=by
 cases W with
 | az b=>simp only [cF]; rw [hW b (by simp [ak])]
 | _=>rfl
theorem IG {bx aa:Bx S.C} {W:Sy.V S.C} (hW: ∀ i ∈ ak S W,aa i=bx i):cn S aa W=cn S bx W:=by
 cases W with
 | az b=>simp only [cn]; rw [hW b (by simp [ak])]
 | _=>rfl
theorem F8 {bx aa:Bx S.C} : ∀ {ts:List Ty} {vs:List (Sy.V S.C)},(∀ v ∈ vs, ∀ i ∈ ak S v,aa i=bx i)→gH S aa ts vs=gH S bx ts vs
 | [],_,_=>rfl
 | t::ts,[],_=>rfl
 | t::ts,v::vs,h=>by
  simp only [gH]
  rw [pI (h v (by simp)),F8 fun v hv=>h v (by simp [hv])]
theorem za {bx aa:Bx S.C} {t:Ty} {vs:List (Sy.V S.C)} (h: ∀ v ∈ vs, ∀ i ∈ ak S v,aa i=bx i):gQ S aa t vs=gQ S bx t vs:=by
 cases t with
 | st u=>simp only [gQ]; rw [F8 h]
 | _=>
  cases vs with
  | nil=>rfl
  | cons v vs=>exact pI (h v (by simp))
theorem CN {bx aa:Bx S.C} : ∀ {vs:List (Sy.V S.C)},(∀ v ∈ vs, ∀ i ∈ ak S v,aa i=bx i)→vs.flatMap (cn S aa)=vs.flatMap (cn S bx)
 | [],_=>rfl
 | v::vs,h=>by
  simp only [List.flatMap_cons]
  rw [IG (h v (by simp)),CN fun v hv=>h v (by simp [hv])]
theorem FR {bx aa:Bx S.C} {c:CK} {vs:List (Sy.V S.C)} (h: ∀ v ∈ vs, ∀ i ∈ ak S v,aa i=bx i):cI S aa c vs=cI S bx c vs:=by
 cases c with
 | data t=>
  simp only [cI]
  rw [za h,CN fun v hv=>h v (List.mem_of_mem_take hv)]
 | aP e=>
  cases vs with
  | nil=>rfl
  | cons v vs=>
   have :=h v (by simp)
   cases v with
   | aP b e' l=>simp only [cI]; rw [this b (by simp [ak])]
   | _=>rfl
 | az e=>
  cases vs with
  | nil=>rfl
  | cons v vs=>
   have :=h v (by simp)
   cases v with
   | az b=>simp only [cI]; rw [this b (by simp [ak])]
   | pre b n=>simp only [cI]; rw [this b (by simp [ak])]
   | _=>rfl
 | aF w=>
  cases vs with
  | nil=>rfl
  | cons v vs=>
   have :=h v (by simp)
   cases v with
   | az b=>simp only [cI]; rw [this b (by simp [ak])]
   | _=>rfl
theorem nB {i:Nat} : ∀ (us:aA S.C) {bx aa:Bx S.C},aa i=bx i→ah aa us i=ah bx us i
 | [],_,_,h=>h
 | u::us,bx,aa,h=>nB us (bx:=ai bx u.1 (some u.2)) (aa:=ai aa u.1 (some u.2)) (by
  by_cases e:i=u.1
  · rw [e,aI,aI]
  · rw [aY _ _ e,aY _ _ e]; exact h)
theorem oY: ∀ {cs:List CK} {bx aa:Bx S.C} {vs:List (Sy.V S.C)},(∀ v ∈ vs, ∀ i ∈ ak S v,aa i=bx i)→cy S aa cs vs=cy S bx cs vs
 | [],_,_,_,_=>rfl
 | c::cs,bx,aa,vs,h=>by
  simp only [cy]
  rw [FR h]
  cases cI S bx c vs with
  | none=>rfl
  | some a=>
   simp only [Option.bind_some]
   rw [oY fun v hv i hi=>nB _ (h v (List.mem_of_mem_drop hv) i hi)]
def iA (S:aK) (bx aa:Bx S.C) (V:Sy.V S.C):Prop:=
 ∀ i ∈ aq S V,aa i=bx i∧(∀ vs,(bx i=some (.cells vs)∨bx i=some (.bH vs))→ ∀ v ∈ vs, ∀ j ∈ ak S v,aa j=bx j)∧ ∀ j,bx i=some (.aQ j)→aa j=bx j
theorem Om {us:aA S.C} {i:Nat} {vs:List (Sy.V S.C)} (h:DF us): ∀ {bx:Bx S.C},(ah bx us i=some (.cells vs)∨ah bx us i=some (.bH vs))→(bx i=some (.cells vs)∨bx i=some (.bH vs)):=by
 induction us with
 | nil=>exact fun h=>h
 | cons u us ih=>
  intro bx hu
  have :=ih (fun v hv=>h v (by simp [hv])) (bx:=ai bx u.1 (some u.2)) hu
  by_cases e:i=u.1
  · rw [e,aI] at this
    rcases h u (by simp) with h1 | ⟨_,_,h1⟩ <;> · rw [h1] at this; rcases this with h2 | h2 <;> cases h2
  · rw [aY _ _ e] at this; exact this
theorem On {us:aA S.C} {i j:Nat} (h:DF us): ∀ {bx:Bx S.C},ah bx us i=some (.aQ j)→bx i=some (.aQ j):=by
 induction us with
 | nil=>exact fun h=>h
 | cons u us ih=>
  intro bx hu
  have :=ih (fun v hv=>h v (by simp [hv])) (bx:=ai bx u.1 (some u.2)) hu
  by_cases e:i=u.1
  · rw [e,aI] at this
    rcases h u (by simp) with h1 | ⟨_,_,h1⟩ <;> · rw [h1] at this; cases this
  · rw [aY _ _ e] at this; exact this
theorem iA.ah {bx aa:Bx S.C} {V:Sy.V S.C} {us:aA S.C} (hd:DF us) (h:iA S bx aa V):iA S (ah bx us) (ah aa us) V:=fun i hi=>
 ⟨nB us (h i hi).1,fun vs hvs v hv j hj=>nB us ((h i hi).2.1 vs (Om hd hvs) v hv j hj),fun j hj=>nB us ((h i hi).2.2 j (On hd hj))⟩
theorem HG {bx aa:Bx S.C} {t:Ty} {v:Sy.V S.C} (this: ∀ i ∈ ak S v,aa i=bx i∧ ∀ ws,(bx i=some (.cells ws)∨bx i=some (.bH ws))→ ∀ v ∈ ws, ∀ j ∈ ak S v,aa j=bx j):kH S aa t v=kH S bx t v:=by
 cases v with
 | ptr b off=>
  obtain ⟨h1,h2⟩:=this b (by simp [ak])
  cases off with
  | zero=>
   simp only [kH]
   rw [h1]
   split
   · rename_i ws hb
     rw [za (h2 ws (.inr hb))]
   · rfl
  | succ n=>rfl
 | _=>rfl
theorem xg {bx aa:Bx S.C} : ∀ {ts:List Ty} {vs:List (Sy.V S.C)},(∀ v ∈ vs, ∀ i ∈ ak S v,aa i=bx i∧ ∀ ws,(bx i=some (.cells ws)∨bx i=some (.bH ws))→ ∀ v ∈ ws, ∀ j ∈ ak S v,aa j=bx j)→caps S aa ts vs=caps S bx ts vs
 | [],[],_=>rfl
 | [],_::_,_=>rfl
 | t::ts,[],_=>rfl
 | t::ts,v::vs,h=>by
  simp only [caps]
  have h1:kH S aa t v=kH S bx t v:=by
   have :=h v (by simp)
   cases v with
   | ptr b off=>
    obtain ⟨h1,h2⟩:=this b (by simp [ak])
    cases off with
    | zero=>
     simp only [kH]
     rw [h1]
     split
     · rename_i ws hb
       rw [za (h2 ws (.inr hb))]
     · rfl
    | succ n=>rfl
   | _=>rfl
  rw [h1,xg fun v hv=>h v (by simp [hv])]
theorem IC {fs:List (gu S)} {bx aa:Bx S.C} {A R:List Ty} {V:Sy.V S.C} (h:iA S bx aa V):nV S fs aa A R V=nV S fs bx A R V:=by
 cases V with
 | fe f vs=>
  simp only [nV]
  have : ∀ ts,caps S aa ts vs=caps S bx ts vs:=fun ts=>xg fun v hv i hi=>have q:=h i (by simp only [aq,List.mem_flatMap]; exact ⟨v,hv,hi⟩); ⟨q.1,q.2.1⟩
  simp only [this]
 | _=>rfl
theorem FY {bx aa:Bx S.C} {cs:List CK} {b:Nat} (h:iA S bx aa (.ptr b 0)):fY S aa cs b=fY S bx cs b:=by
 unfold fY
 rw [(h b (by simp [aq,ak])).1]
 split
 · rename_i vs hb
   have :cy S (ai aa b (some .dead)) cs (vs.drop 0)=cy S (ai bx b (some .dead)) cs (vs.drop 0):=by
    refine oY fun v hv i hi=> ?_
    have :=(h b (by simp [aq,ak])).2.1 vs (.inl hb) v (List.mem_of_mem_drop hv) i hi
    by_cases e:i=b
    · rw [e,aI,aI]
    · rw [aY _ _ e,aY _ _ e]; exact this
   rw [this]
 · rfl
theorem Nw {fs:List (gu S)} {bx aa:Bx S.C} {k:K} {V:Sy.V S.C} (h:iA S bx aa V):bS S fs aa k V=bS S fs bx k V:=by
 have h1: ∀ (c:CK),cI S aa c [V]=cI S bx c [V]∨ ∃ u vs,V= .agg u vs∨V= .fe u vs∨V= .gG vs:=by
  intro c
  cases V with
  | agg u vs=>exact .inr ⟨u,vs, .inl rfl⟩
  | fe u vs=>exact .inr ⟨u,vs, .inr (.inl rfl)⟩
  | gG vs=>exact .inr ⟨0,vs, .inr (.inr rfl)⟩
  | _=>exact .inl (FR fun v hv i hi=>by simp at hv; subst hv; exact (h i hi).1)
 have obj: ∀ (cs:List CK) (b:Nat) (vs:List (Sy.V S.C)) (off:Nat),V= .ptr b off→bx b=some (.cells vs)→cy S (ai aa b (some .dead)) cs (vs.drop off)=cy S (ai bx b (some .dead)) cs (vs.drop off):=by
  rintro cs b vs off rfl hb
  refine oY fun v hv i hi=> ?_
  have :=(h b (by simp [aq,ak])).2.1 vs (.inl hb) v (List.mem_of_mem_drop hv) i hi
  by_cases e:i=b
  · rw [e,aI,aI]
  · rw [aY _ _ e,aY _ _ e]; exact this
 cases k with
 | val c=>
  cases c with
  | data t=>
   obtain ⟨d1,d2⟩:=rL (t:=t) fun i hi=>(h i hi).1
   simp only [bS,d1,d2]
  | aP e=>
   rcases h1 (.aP e) with h1 | ⟨u,vs,rfl | rfl | rfl⟩
   · exact h1
   all_goals rfl
  | az e=>
   rcases h1 (.az e) with h1 | ⟨u,vs,rfl | rfl | rfl⟩
   · exact h1
   all_goals rfl
  | aF w=>
   rcases h1 (.aF w) with h1 | ⟨u,vs,rfl | rfl | rfl⟩
   · exact h1
   all_goals rfl
 | agg u cs=>
  cases V with
  | agg u' vs=>
   simp only [bS]
   rw [oY fun v hv i hi=>(h i (by simp only [aq,List.mem_flatMap]; exact ⟨v,hv,hi⟩)).1]
  | _=>rfl
 | obj cs=>
  cases V with
  | ptr b off=>
   simp only [bS]
   rw [(h b (by simp [aq,ak])).1]
   split
   · rename_i vs hb
     rw [obj cs b vs off rfl hb]
   · rfl
  | _=>rfl
 | opt cs=>
  cases V with
  | ptr b off=>
   simp only [bS]
   rw [(h b (by simp [aq,ak])).1]
   split
   · rename_i vs hb
     rw [obj cs b vs off rfl hb]
   · rfl
  | _=>rfl
 | cj cs=>
  cases V with
  | cj b n=>
   simp only [bS]
   rw [(h b (by simp [aq,ak])).1]
   split
   · rename_i vs hb
     have :cy S (ai aa b (some .dead)) cs (vs.drop 0)=cy S (ai bx b (some .dead)) cs (vs.drop 0):=by
      refine oY fun v hv i hi=> ?_
      have :=(h b (by simp [aq,ak])).2.1 vs (.inl hb) v (List.mem_of_mem_drop hv) i hi
      by_cases e:i=b
      · rw [e,aI,aI]
      · rw [aY _ _ e,aY _ _ e]; exact this
     rw [this]
   · rfl
  | _=>rfl
 | bO t cs=>
  cases V with
  | split b c=>
   simp only [bS]
   have hc:iA S bx aa (.ptr c 0):=fun i hi=>h i (by simp [aq,ak] at hi ⊢; exact .inr hi)
   have hb:iA S bx aa (.ptr b 0):=fun i hi=>h i (by simp [aq,ak] at hi ⊢; exact .inl hi)
   rw [FY hc]
   cases hy:fY S bx [.data t] c with
   | none=>rfl
   | some y=>
    simp only [Option.bind_some]
    rw [FY (hb.ah (DF.fY (us:=y.2) (x:=y.1) hy))]
  | _=>rfl
 | nil=>rfl
 | err=>rfl
 | aQ=>
  cases V with
  | ptr b off=>
   simp only [bS]
   rw [(h b (by simp [aq,ak])).1]
   split
   · rename_i j hb
     rw [(h b (by simp [aq,ak])).2.2 j hb]
   · rfl
  | _=>rfl
 | ro t=>
  cases V with
  | ptr b off=>
   simp only [bS]
   have :=HG (t:=t) (v:= .ptr b off) fun i hi=>⟨(h i hi).1,(h i hi).2.1⟩
   rw [this]
  | _=>rfl
 | fn A R=>simp only [bS]; rw [IC h]
theorem FU {fs:List (gu S)} : ∀ {ks:List K} {bx aa:Bx S.C} {Vs:List (Sy.V S.C)},(∀ V ∈ Vs,iA S bx aa V)→dP S fs aa ks Vs=dP S fs bx ks Vs
 | [],_,_,[],_=>rfl
 | [],_,_,_::_,_=>rfl
 | k::ks,_,_,[],_=>rfl
 | k::ks,bx,aa,V::Vs,h=>by
  simp only [dP]
  rw [Nw (h V (by simp))]
  cases hk:bS S fs bx k V with
  | none=>rfl
  | some a=>
   simp only [Option.bind_some]
   rw [FU fun V' I0=>(h V' (by simp [I0])).ah (DF.bS (us:=a.2) (x:=a.1) hk)]
theorem bU.length {w:World} {s:St} : ∀ {M:St} {ks:List K} {x:Ks S.C ks} {vs:List Value},bU P S w s M ks x vs→vs.length=ks.length
 | _,[],_,_,h=>by rw [h.2]; rfl
 | _,k::ks,_,_,⟨M1,M2,v,r,h1,h2,h3,h4⟩=>by subst h2; rw [List.length_cons,bU.length h4]; rfl
theorem av.flat {w:World} {s s':St} {n:Nat} {t:Ty} (hf:uN S t=true) {x:t.den S.C} {cs:List Value} (h:av S w s n t x cs):av S w s' n t x cs:=by
 cases n with
 | zero=>exact h.elim
 | succ n=>cases t with
  | int k=>exact h
  | bool=>exact h
  | str=>exact h
  | pt=>exact h
  | sl e=>simp [uN] at hf
  | st u=>
   cases n with
   | zero=>
    have : ∀ (ts:List Ty) (x:ag S.C ts) (cs:List Value),a_ S (fun t x cs=>av S w s 0 t x cs) ts x cs→a_ S (fun t x cs=>av S w s' 0 t x cs) ts x cs:=by
     intro ts x cs h
     exact a_.mono S (fun t x cs h=>h.elim) ts x cs h
    exact this _ _ _ h
   | succ m=>exact (a_.flat S (m:=m) _ _ _ hf h)
theorem jQ.flat {w:World} {s s' M:St} {c:CK} (hf:mO S c=true) {x:c.den S.C} {cs:List Value} (h:jQ S w s M c x cs):jQ S w s' M c x cs:=by
 cases c with
 | data t=>exact ⟨h.1,h.2.imp fun _ hn=>hn.flat hf⟩
 | aP e=>simp [mO] at hf
 | az e=>
  obtain ⟨a,cap,L,h1,h2,h3,h4,h5⟩:=h
  refine ⟨a,cap,L,h1,h2,h3,h4,fun i y hi=> ?_⟩
  obtain ⟨ds,d1,d2,n,d3⟩:=h5 i y hi
  exact ⟨ds,d1,d2,n,d3.flat hf⟩
 | aF w=>simp [mO] at hf
theorem dx.flat {w:World} {s s':St} : ∀ {M:St} {cs:List CK} {x:aJ S.C cs} {vs:List Value},cs.all (mO S)=true→dx S w s M cs x vs→dx S w s' M cs x vs
 | _,[],_,_,_,h=>h
 | _,_::_,_,_,hf,⟨M1,M2,v1,v2,h1,h2,h3,h4,h5⟩=>by
  simp only [List.all_cons,Bool.and_eq_true] at hf
  exact ⟨M1,M2,v1,v2,h1,h2,h3,h4.flat hf.1,dx.flat hf.2 h5⟩
theorem dQ.flat {w:World} {s s' M:St} {cs:List CK} (hf:cs.all (mO S)=true) {x:aJ S.C cs} {v:Value} (h:dQ S w s M cs x v):dQ S w s' M cs x v:=by
 obtain ⟨b,o,ds,M',h1,h2,h3,h4,h5⟩:=h
 exact ⟨b,o,ds,M',h1,h2,h3,h4,h5.flat hf⟩
theorem jR.flat {w:World} {s s' M:St} {k:K} (hf:nU S k=true) {x:k.den S.C} {v:Value} (h:jR P S w s M k x v):jR P S w s' M k x v:=by
 cases k with
 | val c=>exact ⟨h.1.flat hf,h.2⟩
 | obj cs=>exact dQ.flat hf h
 | aQ=>exact h
 | opt cs=>
  cases x with
  | none=>exact h
  | some y=>exact dQ.flat hf h
 | nil=>exact h
 | ro t=>simp [nU] at hf
 | fn a r=>simp [nU] at hf
 | bO t cs=>simp [nU] at hf
 | agg u cs=>simp [nU] at hf
 | cj cs=>
  obtain ⟨p,h1,h2⟩:=h
  exact ⟨p,h1,dQ.flat hf h2⟩
 | err=>exact h
theorem bU.flat {w:World} {s s':St} : ∀ {M:St} {ks:List K} {x:Ks S.C ks} {vs:List Value},ks.all (nU S)=true→bU P S w s M ks x vs→bU P S w s' M ks x vs
 | _,[],_,_,_,h=>h
 | _,_::_,_,_,hf,⟨M1,M2,v,r,h1,h2,h3,h4⟩=>by
  simp only [List.all_cons,Bool.and_eq_true] at hf
  exact ⟨M1,M2,v,r,h1,h2,h3.flat hf.1,bU.flat hf.2 h4⟩
def aM (P:Program) (S:aK) (e:Entry S):Prop:=iz P e.f∧ ∀ (w:World) (s M:St) (x:Ks S.C e.ps) (args:List Value) (r:Ks S.C (e.rs++outs e.ps)),
 bU P S w s M e.ps x args→(∀ b o,s b o→b<w.heap.size∧ ¬ M b o)→jf S w M→e.sp x=some r→
 Calls P e.f args.toArray w fun en w'=> ∃ us s' M',en= .returned (ja us)∧aO w w' M∧bU P S w' s' M' (e.rs++outs e.ps) r (us++eT e.ps args)∧
  (∀ b o,s' b o→b<w'.heap.size∧ ¬ M' b o∧(s b o∨M b o∨w.heap.size≤b))∧ ∀ b o,M' b o→M b o∨w.heap.size≤b
def mI (P:Program) (S:aK) (w0:World) (M0:St) (e:Entry S):Prop:=iz P e.f∧ ∀ (w:World) (s M:St) (x:Ks S.C e.ps) (args:List Value) (r:Ks S.C (e.rs++outs e.ps)),
 aO w0 w M0→(∀ b o,M b o→w0.heap.size≤b∨M0 b o)→bU P S w s M e.ps x args→(∀ b o,s b o→b<w.heap.size∧ ¬ M b o)→e.sp x=some r→
 Calls P e.f args.toArray w fun en w'=> ∃ us s' M',en= .returned (ja us)∧aO w w' M∧bU P S w' s' M' (e.rs++outs e.ps) r (us++eT e.ps args)∧
  (∀ b o,s' b o→b<w'.heap.size∧ ¬ M' b o∧(s b o∨M b o∨w.heap.size≤b))∧ ∀ b o,M' b o→M b o∨w.heap.size≤b
theorem aM.at {w0:World} {M0:St} {e:Entry S} (h:aM P S e) (hG:jf S w0 M0):mI P S w0 M0 e:=
 ⟨h.1,fun w s M x args r hc hM hx hs hr=>h.2 w s M x args r hx hs ⟨fun g hg=>by
  obtain ⟨g1,g2,v,g3,g4⟩:=hG.1 g hg
  refine ⟨Nat.lt_of_lt_of_le g1 hc.size,fun hm=> ?_,v,(hc.cell g.1.1 g.1.2 g1 g2).trans g3,g4⟩
  rcases hM _ _ hm with h1 | h1
  · exact absurd g1 (Nat.not_lt.2 h1)
  · exact g2 h1,fun g hg=>by
  obtain ⟨g1,g2,v,g3,g4⟩:=hG.2 g hg
  refine ⟨Nat.lt_of_lt_of_le g1 hc.size,fun o hm=> ?_,v,(hc.same g.1 g1 g2).trans g3,g4⟩
  rcases hM _ _ hm with h1 | h1
  · exact absurd g1 (Nat.not_lt.2 h1)
  · exact g2 o h1⟩ hr⟩
end
end Go.Sy
namespace Go.Sy
section
variable {P:Program} {S:aK} {af:Nat→Nat}
variable {w0:World} {M0 s0:St} {dq:List Deferred} {env:Env S.C} {a:Act} {w:World} {μ:Nat→Loc} {K:Act→World→Prop} {Q:Exit→Act→World→Prop} {o:Oper} {V:V S.C} {us:aA S.C}
theorem wJ {s:St} {bx:Bx S.C} {vs:List (Sy.V S.C)} {us:List Value} (h:aB P S w s μ bx vs us):RV P S w s μ bx (mq S vs) (ja us):=by
 cases vs with
 | nil=>cases h; exact ⟨#[],rfl,rfl⟩
 | cons v vs=>
  obtain ⟨c,r,rfl,h1,h2⟩:=h
  cases vs with
  | nil=>cases h2; exact jh h1
  | cons v' vs=>
   obtain ⟨c',r',rfl,h3,h4⟩:=h2
   exact ⟨_,rfl,c,c'::r',by simp,h1,c',r',rfl,h3,h4⟩
theorem DH {vs:List (Sy.V S.C)} {j:Nat} (h:j ∈ aq S (mq S vs)): ∃ v ∈ vs,j ∈ ak S v∨j ∈ aq S v:=by
 cases vs with
 | nil=>simp [mq,aq] at h
 | cons v vs=>
  cases vs with
  | nil=>exact ⟨v,by simp, .inr h⟩
  | cons v' vs=>
   simp only [mq,aq,List.mem_flatMap] at h
   obtain ⟨u,hu,hj⟩:=h
   exact ⟨u,hu, .inl hj⟩
theorem RV.mono {w w':World} {s s':St} {μ:Nat→Loc} {bx:Bx S.C} (hl:aV w s w' s') {V:Sy.V S.C} {v:Value} (h:RV P S w s μ bx V v):RV P S w' s' μ bx V v:=by
 cases V with
 | agg u vs=>obtain ⟨cs,h1,h2,h3,h4⟩:=h; exact ⟨cs,h1,h2,h3,h4.mono hl⟩
 | gG vs=>obtain ⟨cs,h1,h4⟩:=h; exact ⟨cs,h1,h4.mono hl⟩
 | fe f vs=>obtain ⟨cs,h1,h4⟩:=h; exact ⟨cs,h1,h4.mono hl⟩
 | d t x=>exact bT.mono S hl h
 | aP b e l=>exact bl.mono (P:=P) (μ:=μ) (bx:=bx) (V:= .aP b e l) hl h
 | cH t x=>exact bl.mono (P:=P) (μ:=μ) (bx:=bx) (V:= .cH t x) hl h
 | fv a r g=>exact bl.mono (P:=P) (μ:=μ) (bx:=bx) (V:= .fv a r g) hl h
 | split b c=>exact bl.mono (P:=P) (μ:=μ) (bx:=bx) (V:= .split b c) hl h
 | i_ c=>exact bl.mono (P:=P) (μ:=μ) (bx:=bx) (V:= .i_ c) hl h
 | _=>exact h
theorem dJ.mono {w w':World} {s s':St} {μ:Nat→Loc} {bx:Bx S.C} (hl:aV w s w' s'): ∀ {vs:List (Sy.V S.C)} {cs:List Value},dJ P S w s μ bx vs cs→dJ P S w' s' μ bx vs cs
 | [],_,h=>h
 | _::_,_,⟨c,r,h1,h2,h3⟩=>⟨c,r,h1,h2.mono hl,dJ.mono hl h3⟩
theorem GH {s:St} {bx:Bx S.C} {rs:List Sy.K} {vs:List (Sy.V S.C)} {us:List Value} (hg:w4 rs=true) (hn:us.length=rs.length) (h:dJ P S w s μ bx vs us) (h':rs.all qc=true→aB P S w s μ bx vs us):RV P S w s μ bx (mq S vs) (ja us):=by
 match rs,hg with
 | [],hg=>exact wJ (h' hg)
 | [k],_=>
  match vs,h with
  | [],h=>cases h; cases hn
  | [v],⟨c,r,h1,h2,h3⟩=>cases h3; subst h1; exact h2
  | _::_::_,⟨c,r,h1,h2,c',r',h3,h4,h5⟩=>subst h1 h3; simp at hn
 | _::_::_,hg=>exact wJ (h' hg)
theorem Ao {c:Call} (ho:o.op= .call c) {f:Operand} (hc:c.callee= .value f) {g:Nat} {first cap:Array Value} (hf:a.eval f= .func (.func g) first cap) (hok:iz P g):
 (execOp a.eval o).run P w= .ok (.enter g (first++c.args.map a.eval++cap)) w:=by
 obtain ⟨fn,h1,h2,h3⟩:=hok
 unfold execOp
 simp only [ho]
 have kR: ¬ fn.name= "runtime.NumGoroutine" :=by simpa using h2
 have CT: ¬ fn.body=none:=fun e=>by rw [e] at h3; cases h3
 simp [resolve,hc,hf,Deferred.ofValue,invoke,callFunc,h1,kR,CT]
theorem zF: ∀ (ps:List Sy.K) (args:List Value),args.length=ps.length→(eT ps args).length=(outs ps).length
 | [],_,_=>by simp [eT,outs]
 | _::_,[],h=>by simp at h
 | k::ps,v::args,h=>by
  have ih:=zF ps args (by simpa using h)
  cases k <;> simp [eT,outs,ih]
theorem BO (hP:aL P S af) {T:gy S} {f:Nat} {args:Array Value} {C:(Ending→World→Prop)→Prop} (hmono: ∀ R R',(∀ en w',R en w'→R' en w')→C R→C R')
 (hT: ∀ e ∈ T.es,e.f=f→ ∀ (s M:St) (x:Ks S.C e.ps) (r:Ks S.C (e.rs++outs e.ps)),(∀ b o,M b o→w0.heap.size≤b∨M0 b o)→bU P S w s M e.ps x args.toList→(∀ b o,s b o→b<w.heap.size∧ ¬ M b o)→e.sp x=some r→
  C fun en w'=> ∃ us s' M',en= .returned (ja us)∧aO w w' M∧bU P S w' s' M' (e.rs++outs e.ps) r (us++eT e.ps args.toList)∧
   (∀ b o,s' b o→b<w'.heap.size∧ ¬ M' b o∧(s b o∨M b o∨w.heap.size≤b))∧ ∀ b o,M' b o→M b o∨w.heap.size≤b)
 (hF: ∀ e ∈ T.fs,gv P S e) (h:Inv P S w0 M0 s0 dq env a w μ) {B:Nat} {cm:Bx S.C}
 {Vs:List (Sy.V S.C)} (hargs:dJ P S w (ay S w0 M0 s0 env.bx μ w) μ env.bx Vs args.toList)
 (hkn: ∀ V ∈ Vs,iA S env.bx cm V) (hnew: ∀ u ∈ us,B≤u.1→u.1<B+16→env.bx u.1=none)
 (hl:(mM S T B cm f Vs).leaf (V,us)):
 C fun en w'=> ∃ v μ',en= .returned v∧Inv P S w0 M0 s0 dq { env with bx:=ah env.bx us } a w' μ'∧RV P S w' (ay S w0 M0 s0 (ah env.bx us) μ' w') μ' (ah env.bx us) V v∧ ∀ j ∈ aq S V,ah env.bx us j≠none:=by
 unfold mM at hl
 split at hl
 · rename_i e tk hfind
   obtain ⟨e0,sn,hsel⟩:=List.exists_of_findSome?_eq_some hfind
   split at hsel
   · rename_i j6
     obtain ⟨mj,eS,hsel⟩:=Option.bind_eq_some_iff.1 hsel
     cases hsel
     cases cL:Nat.ble (ig e.rs+ig (outs e.ps)) 16&&(cZ S e.ps Vs).all fun b=> !(Nat.ble B b&&Nat.blt b (B+16)) with
     | false=>rw [cL] at hl; exact hl.elim
     | true=>
      rw [cL,cond_true] at hl
      rw [Bool.and_eq_true] at cL
      obtain ⟨cL,I_⟩:=cL
      have cL:=Nat.le_of_ble_eq_true cL
      obtain ⟨r,hr,hl⟩:=hl
      cases sr:w4 e.rs with
      | false=>rw [sr] at hl; exact hl.elim
      | true=>
      dsimp only at hl
      rw [sr,cond_true] at hl
      rw [FU hkn] at eS
      obtain ⟨x,aR⟩:=tk
      dsimp only at hr hl
      obtain ⟨k1,M,kr,fr⟩:=tT hP.tobY h hF e.ps (Tk.refl S env.bx) hargs eS
      have J7: ∀ (ks:List Sy.K) (bx:Bx S.C) (hk:Tk S env.bx bx) (Vs:List (Sy.V S.C)) (args:List Value) (x:Ks S.C ks) (us:aA S.C),dJ P S w (ay S w0 M0 s0 env.bx μ w) μ env.bx Vs args→dP S T.fs bx ks Vs=some (x,us)→Tk S bx (ah bx us):=
       fun ks bx hk Vs args x us h1 h2=>(tT hP.tobY h hF ks hk h1 h2).1
      obtain ⟨oo,K_,od⟩:=FV (s:=ay S w0 M0 s0 env.bx μ w) (s':=ay S w0 M0 s0 env.bx μ w) h.bw h.ext e.ps (Tk.refl S env.bx) J7 hargs eS
      have hdf:=DF.dP eS
      have DA: ∀ b o,bC S w0 M0 s0 env.bx (ah env.bx aR) μ w b o→b<w.heap.size∧ ¬ M b o:=by
       intro b o ⟨q1,q2,q3⟩
       refine ⟨q1,fun hm=> ?_⟩
       obtain ⟨i,i1,_,i3,i4⟩:=fr b o hm
       rcases q3 i i1 with ⟨_,_,hq⟩ | hq
       · rw [i3] at hq; cases hq
       · exact hq i4
      refine hmono _ _ ?_ (hT e sn j6 _ M x r (fun b o hm=>by obtain ⟨i,i1,_,_,i4⟩:=fr b o hm; exact h.own i i1 b o i4) kr DA hr)
      rintro en w' ⟨vs,s',M',rfl,hw,hks,hs',j0⟩
      have Jt: ∃ s2:St,bU P S w' s2 M' (e.rs++outs e.ps) r (vs++eT e.ps args.toList)∧(∀ b o,s2 b o→s' b o)∧(vA S e=true∨ ∀ b o, ¬ s2 b o):=by
       cases hlk:vA S e with
       | true=>exact ⟨s',hks,fun _ _ h=>h, .inl rfl⟩
       | false=>
        unfold vA at hlk
        simp only [Bool.not_eq_false'] at hlk
        exact ⟨fun _ _=>False,hks.flat hlk,fun _ _ h=>h.elim, .inr fun _ _ h=>h⟩
      obtain ⟨s2,Di,hs2,hlk⟩:=Jt
      obtain ⟨q,M1,M2,us',ws,hq,ct,hsp,Ds,n1,n2,l1,g1,r1,mb,Aq⟩:=D0 hP.tobY e.rs B Di hl
      obtain ⟨rfl,rfl⟩:=bg hq
      have hlen:=bU.length Di
      have hlo:=bU.length Ds
      have hla:args.toList.length=e.ps.length:=bU.length kr
      have hol:=zF e.ps args.toList hla
      have hsame:vs=us'∧eT e.ps args.toList=ws:=by
       refine List.append_inj ct ?_
       have :=congrArg List.length ct
       simp only [List.length_append] at this
       omega
      obtain ⟨rfl,rfl⟩:=hsame
      have yI: ∀ b ∈ cZ S e.ps Vs, ∀ i,B≤i→i<B+16→i≠b:=by
       rintro b hb i h1 h2 rfl
       have :=List.all_eq_true.1 I_ i hb
       rw [show Nat.ble B i=true from Nat.ble_eq_true_of_le h1,show Nat.blt i (B+16)=true from Nat.ble_eq_true_of_le h2] at this
       cases this
      obtain ⟨l2,g2,Dh⟩:=jw (P:=P) hP.tobY e.ps q.2.2 (oo.later fun b o hs=>have hq:=DA b o (gZ S w0 M0 s0 env.bx (ah env.bx aR) μ w b o hs).1; hw.cell b o hq.1 hq.2) K_ (fun b hb i h1 h2=>yI b hb i (by omega) (by omega)) Ds
      obtain ⟨g,hag⟩:=bK.both g1 g2 (fun i h1 h2=>by
       rcases h2 with h2 | h2
       · exact yI i h2 i (by omega) (by omega) rfl
       · omega) hsp
      have yH:bK P S w' s2 (fun i=> ∃ u ∈ (q.2.1++eU S q.2.2 e.ps Vs (jd S e.rs (outs e.ps) r).2),u.1=i) (q.2.1++eU S q.2.2 e.ps Vs (jd S e.rs (outs e.ps) r).2) _ M':=
       ⟨fun u hu=>⟨u,hu,rfl⟩,g.one,g.rb,g.lv,g.au,g.cM,g.ref,g.ext⟩
      obtain ⟨μ',hI,dN,lR⟩:=Inv.call hP.tobY h (n8:=cZ S e.ps Vs) hdf k1 fr hw (fun b o hs=>hs' b o (hs2 b o hs)) j0 yH (fun i hi=>by
       obtain ⟨u,hu,rfl⟩:=hi
       rcases g.fm u hu with h1 | h1 | h1
       · exact .inr (hnew u (List.mem_append.2 (.inr hu)) h1.1 (by omega))
       · exact .inl h1
       · exact .inr (hnew u (List.mem_append.2 (.inr hu)) (by omega) (by omega)))
       (fun b hb=>by
        obtain ⟨B0,d1,d2⟩:=(od b hb).1
        obtain ⟨vs,hh,hvs⟩:=(Dh b hb).2
        refine ⟨B0,vs,d2,List.mem_append.2 (.inr hvs),H8 S d1 hh ?_⟩
        unfold both
        rw [if_neg]
        · exact (Dh b hb).1
        · intro hm
          obtain ⟨u,hu,he⟩:=List.mem_map.1 hm
          have :=g1.fm u hu
          rw [he] at this
          exact yI b hb b this.1 (by omega) rfl) hlk
      have hvl:vs.length=e.rs.length:=by simp only [List.length_append] at hlen; omega
      refine ⟨_,μ',rfl,hI,GH sr hvl ((mb _ _ (hag _ _ lR).1).mono dN) (fun hn=>(Aq hn _ _ (hag _ _ lR).1).mono dN),fun j hj=> ?_⟩
      obtain ⟨v,hv,hj⟩:=DH hj
      obtain ⟨u,hu,he⟩:=r1 v hv j (hj.elim Ki id)
      have :=(lR u (List.mem_append.2 (.inl hu))).1
      rw [he] at this
      rw [this]
      simp
   · cases hsel
 · exact hl.elim
theorem HE (hP:aL P S af) {T:gy S} (hT: ∀ e ∈ T.es,mI P S w0 M0 e) (hF: ∀ e ∈ T.fs,gv P S e) (h:Inv P S w0 M0 s0 dq env a w μ) (hd: ∀ d,o.dst=some d→d<a.tmps.size) {B:Nat} {ids:List Nat}
 {Vs:List (Sy.V S.C)} {args:Array Value} {f:Nat} (hrun:iz P f→(execOp a.eval o).run P w= .ok (.enter f args) w) (hargs:dJ P S w (ay S w0 M0 s0 env.bx μ w) μ env.bx Vs args.toList)
 (hkn: ∀ V ∈ Vs,iA S env.bx (restrict S env.bx ids) V) (hnew: ∀ u ∈ us,B≤u.1→u.1<B+16→env.bx u.1=none)
 (hl:(mM S T B (restrict S env.bx ids) f Vs).leaf (V,us)) (hK:Goal P S w0 M0 s0 dq env a o.dst V us K):o.wp P a w K Q:=by
 have hok:iz P f:=by
  unfold mM at hl
  split at hl
  · rename_i e tk hfind
    obtain ⟨e0,sn,hsel⟩:=List.exists_of_findSome?_eq_some hfind
    split at hsel
    · rename_i j6
      rw [← j6]; exact (hT e0 sn).1
    · cases hsel
  · exact hl.elim
 unfold Oper.wp
 rw [hrun hok]
 refine Calls.mono (BO (dq:=dq) hP (C:=fun R=>Calls P f args w R) (fun R R' hR hc=>Calls.mono hc hR) (fun e he j6 s M x r hM hx hs hr=> ?_) hF h hargs hkn hnew hl) ?_
 · have hc:=(hT e he).2 w s M x args.toList r h.gL hM hx hs hr
   rw [j6,show args.toList.toArray=args from by simp] at hc
   exact hc
 · rintro en w' ⟨v,μ',rfl,hI,cl,cC⟩
   refine hK _ w' μ' (hI.put hd cl cC) ?_
   cases o.dst <;> simp [Act.put]
end
end Go.Sy
namespace Go.Sy
section
variable {P:Program} {S:aK} {af:Nat→Nat}
variable {w0:World} {M0 s0:St} {dq:List Deferred} {env:Env S.C} {a:Act} {w:World} {μ:Nat→Loc} {K:Act→World→Prop} {Q:Exit→Act→World→Prop} {o:Oper} {V:V S.C} {us:aA S.C}
theorem Inv.world (h:Inv P S w0 M0 s0 dq env a w μ) {w':World} (hw:aO w w' (fun _ _=>False)):
 Inv P S w0 M0 s0 dq env a w' μ∧aV w' (grown (ay S w0 M0 s0 env.bx μ w) w w') w' (ay S w0 M0 s0 env.bx μ w'):=by
 have iU:=h.later (T:=fun _ _=>False) (U:=fun _=>False) (aa:=env.bx) (μ':=μ) hw (fun _ _ h=>h.elim) (fun _ _=>⟨rfl,rfl⟩) (fun _ h=>h.elim)
 refine ⟨h.step (T:=fun _ _=>False) (U:=fun _=>False) hw (fun _ _ h=>h.elim) (fun _ _=>⟨rfl,rfl⟩) (fun _ h=>h.elim) (fun i B0 hi=>⟨B0,hi,cg.refl S _ _⟩) (fun _ _ h=>h.elim) (fun _ _ h=>h.elim) (fun _ _ h=>h.elim) (fun _ h=>h.elim), ?_⟩
 rintro b o (hs | ⟨h1,h2⟩)
 · exact ⟨(iU b o hs).1,rfl⟩
 · exact ⟨⟨h2, .inr (.inr (Nat.le_trans h.gL.size h1)),fun i li hf=>absurd (ju P S (h.bw i) (h.ext i li) li hf).1 (by omega)⟩,rfl⟩
theorem B9 {bx aa:Bx S.C} : ∀ {ts:List Ty} {Vs:List (Sy.V S.C)},(∀ V ∈ Vs, ∀ i ∈ aq S V,aa i=bx i)→jk S aa ts Vs=jk S bx ts Vs
 | [],[],_=>rfl
 | [],_::_,_=>rfl
 | _::_,[],_=>rfl
 | t::ts,V::Vs,h=>by
  obtain ⟨h1,h2⟩:=rL (t:=t) (h V (by simp))
  simp only [jk,h1,h2]
  rw [B9 fun V hV=>h V (by simp [hV])]
theorem xF {bx:Bx S.C} : ∀ {ts:List Ty} {Vs:List (Sy.V S.C)} {x:ag S.C ts} {us:aA S.C},jk S bx ts Vs=some (x,us)→cE bx us
 | [],[],_,_,h=>by cases h; intro u hu; simp at hu
 | [],_::_,_,_,h=>by cases h
 | _::_,[],_,_,h=>by cases h
 | t::ts,V::Vs,x,us,h=>by
  simp only [jk] at h
  obtain ⟨y,hy,h⟩:=Option.bind_eq_some_iff.1 h
  obtain ⟨⟨z,u2⟩,hz,h⟩:=Option.bind_eq_some_iff.1 h
  cases h
  exact (cE.cQ bx V).append (xF hz)
theorem xG (hS:bY S) (h:Inv P S w0 M0 s0 dq env a w μ) {US:aA S.C} (hU:cE env.bx US): ∀ {ts:List Ty} {Vs:List (Sy.V S.C)} {args:List Value} {x:ag S.C ts} {us:aA S.C},
 dJ P S w (ay S w0 M0 s0 env.bx μ w) μ env.bx Vs args→jk S env.bx ts Vs=some (x,us)→(∀ u ∈ us,u ∈ US)→fE S w (bC S w0 M0 s0 env.bx (ah env.bx US) μ w) ts x args
 | [],[],_,_,_,hv,h,_=>hv
 | [],_::_,_,_,_,_,h,_=>by cases h
 | _::_,[],_,_,_,_,h,_=>by cases h
 | t::ts,V::Vs,args,x,us,⟨v,r,hargs,h1,h2⟩,hx,hs=>by
  simp only [jk] at hx
  obtain ⟨y,hy,hx⟩:=Option.bind_eq_some_iff.1 hx
  obtain ⟨⟨z,u2⟩,hz,hx⟩:=Option.bind_eq_some_iff.1 hx
  cases hx
  obtain ⟨_,d2⟩:=uI hS h (Tk.refl S env.bx) h1 hy
  refine ⟨v,r,hargs, ?_, ?_⟩
  · rw [show ag.head (ag.cons y z)=y from by cases ts <;> rfl]
    exact d2.mono S (oX S (hU.tk (us:=cQ S env.bx V) fun u hu=>hs u (by simp [hu])))
  · rw [show ag.tail (ag.cons y z)=z from by cases ts <;> rfl]
    exact xG hS h hU h2 hz fun u hu=>hs u (by simp [hu])
theorem Ga {s:St} {bx:Bx S.C} : ∀ {ts:List Ty} {x:ag S.C ts} {us:List Value},fE S w s ts x us→aB P S w s μ bx (o5 S ts x) us∧ ∀ v ∈ o5 S ts x,aq S v= []∧ak S v= []
 | [],_,_,h=>⟨h,by simp [o5]⟩
 | t::ts,x,us,⟨v,r,h1,h2,h3⟩=>by
  obtain ⟨h4,h5⟩:=Ga (bx:=bx) h3
  refine ⟨⟨v,r,h1,h2,h4⟩,fun u hu=> ?_⟩
  rcases List.mem_cons.1 hu with rfl | hu
  · exact ⟨rfl,rfl⟩
  · exact h5 u hu
theorem Gk (hP:aL P S af) (h:Inv P S w0 M0 s0 dq env a w μ) (hd: ∀ d,o.dst=some d→d<a.tmps.size) {f:Nat} {args:Array Value} {us:aA S.C} (hfz:cE env.bx us) {r:List Ty} {y:ag S.C r}
 (hrun:(execOp a.eval o).run P w= .ok (.enter f args) w)
 (hc:Calls P f args w fun e w'=> ∃ us',e= .returned (ja us')∧aO w w' (fun _ _=>False)∧fE S w' (grown (ay S w0 M0 s0 (ah env.bx us) μ w) w w') r y us')
 (hK:Goal P S w0 M0 s0 dq env a o.dst (mq S (o5 S r y)) us K):o.wp P a w K Q:=by
 have h1:=h.tk hP.tobY hfz.mj
 unfold Oper.wp
 rw [hrun]
 refine Calls.mono hc ?_
 rintro en w' ⟨vs,rfl,hw,iX⟩
 obtain ⟨h2,hl⟩:=h1.world hw
 obtain ⟨h3,h4⟩:=Ga (P:=P) (μ:=μ) (bx:=ah env.bx us) (iX.mono S hl)
 refine hK _ w' μ (h2.put hd (wJ h3) fun j hj=> ?_) ?_
 · obtain ⟨v,hv,hj⟩:=DH hj
   obtain ⟨e1,e2⟩:=h4 v hv
   rw [e1,e2] at hj
   simp at hj
 · cases o.dst <;> simp [Act.put]
theorem HF (hP:aL P S af) {T:gy S} (hT: ∀ e ∈ T.es,mI P S w0 M0 e) (hF: ∀ e ∈ T.fs,gv P S e) (h:Inv P S w0 M0 s0 dq env a w μ) (hd: ∀ d,o.dst=some d→d<a.tmps.size) {B:Nat} {ids:List Nat}
 {c:Call} (ho:o.op= .call c) {f:Operand} (hc:c.callee= .value f) {Vs:List (Sy.V S.C)} {Vf:Sy.V S.C} (hargs:c.args.toList.mapM (aE S env.tm)=some Vs) (hf:aE S env.tm f=some Vf)
 (hkn: ∀ V ∈ Vs,iA S env.bx (restrict S env.bx ids) V) (JB:iA S env.bx (restrict S env.bx ids) Vf) (hnew: ∀ u ∈ us,B≤u.1→u.1<B+16→env.bx u.1=none)
 (hl:(rH S T B (restrict S env.bx ids) Vs Vf).leaf (V,us)) (hK:Goal P S w0 M0 s0 dq env a o.dst V us K):o.wp P a w K Q:=by
 obtain ⟨hvs,_⟩:=uu h hargs
 obtain ⟨vn,_⟩:=aW h hf
 have pY: ∀ {ts:List Ty} {x:ag S.C ts} {us:aA S.C},jk S (restrict S env.bx ids) ts Vs=some (x,us)→jk S env.bx ts Vs=some (x,us):=fun hx=>by
  rw [B9 (bx:=env.bx) fun V hV i hi=>(hkn V hV i hi).1] at hx; exact hx
 cases Vf with
 | fv A R g=>
  simp only [rH] at hl
  split at hl
  · rename_i x us' hx
    obtain ⟨y,hy,hl⟩:=hl
    obtain ⟨rfl,rfl⟩:=bg hl
    have hx:=pY hx
    have hfz:=xF hx
    have iX:=(xG hP.tobY h hfz hvs hx fun u hu=>hu).mono S (wA hfz.mj)
    have vn:kE P S w (ay S w0 M0 s0 env.bx μ w) A R g (a.eval f):=vn
    obtain ⟨g',first,cap,he,hok,n6⟩:=vn
    have :=n6 w _ (FQ hfz.mj) (h.nX.at h.gL fun _ _ h=>h.elim) x _ y iX hy
    refine Gk hP h hd hfz (Ao ho hc he hok) ?_ hK
    rw [show (c.args.toList.map a.eval).toArray=c.args.map a.eval from by rw [← Array.toList_map,Array.toArray_toList]] at this
    exact this
  · exact hl.elim
 | fe g vs=>
  obtain ⟨cs,he,hcs⟩:=vn
  cases vs with
  | nil=>
   simp only [rH] at hl
   have pX:cs= #[]:=by have h0:cs.toList= []:=hcs; exact Array.toList_eq_nil_iff.1 h0
   subst pX
   refine HE hP hT hF h hd (args:=c.args.map a.eval) (fun hok=> ?_) (by simpa using hvs) hkn hnew hl hK
   have :=Ao (w:=w) ho hc he hok
   simpa using this
  | cons v vs=>
   simp only [rH] at hl
   split at hl
   · rename_i e hfind
     split at hl
     · rename_i y x us' hy hx
       obtain ⟨z,hz,hl⟩:=hl
       obtain ⟨rfl,rfl⟩:=bg hl
       have hx:=pY hx
       have hfz:=xF hx
       have iX:=(xG hP.tobY h hfz hvs hx fun u hu=>hu).mono S (wA hfz.mj)
       have hmem:=List.mem_of_find?_eq_some hfind
       have j6:e.f=g:=by simpa using List.find?_some hfind
       obtain ⟨hok,n6⟩:=hF e hmem
       rw [j6] at hok n6
       have hy:caps S env.bx e.c (v::vs)=some y:=by
        rw [← xg (bx:=env.bx) (aa:=restrict S env.bx ids) fun u hu i hi=>have q:=JB i (by simp only [aq,List.mem_flatMap]; exact ⟨u,hu,hi⟩); ⟨q.1,q.2.1⟩]
        exact hy
       have hcap:=xh hP.tobY h (Tk.refl S env.bx) e.c hcs hy
       have Jg:gr S w (ay S w0 M0 s0 (ah env.bx us) μ w) e.c y cs.toList:=by
        refine gr.mono ?_ _ _ _ hcap
        exact (oX S hfz.mj).trans (wA hfz.mj)
       refine Gk hP h hd hfz (Ao ho hc he hok) ?_ hK
       have :=n6 w _ x y z (c.args.toList.map a.eval) cs.toList (h.nX.at h.gL fun _ _ h=>h.elim) iX Jg hz
       rw [show (c.args.toList.map a.eval++cs.toList).toArray= #[]++c.args.map a.eval++cs from by simp] at this
       exact this
     · exact hl.elim
   · exact hl.elim
 | _=>exact hl.elim
theorem yd {bx cm:Bx S.C} : ∀ (vs:List (Sy.V S.C)) (u:Nat×b7 S.C),u ∈ jY S cm vs→(∀ i B,cm i=some B→bx i=some B)→ ∃ ws,u.2= .bH ws∧bx u.1=some (.cells ws)
 | [],u,hu,_=>by simp [jY] at hu
 | v::vs,u,hu,h=>by
  cases v with
  | ptr b off=>
   simp only [jY,List.mem_append] at hu
   rcases hu with hu | hu
   · split at hu
     · rename_i ws hb
       simp at hu
       subst hu
       exact ⟨ws,rfl,h _ _ hb⟩
     · simp at hu
   · exact yd vs u hu h
  | _=>exact yd vs u hu h
theorem Cz {bx:Bx S.C} {i:Nat} : ∀ {us:aA S.C} (aa:Bx S.C),(∀ u ∈ us, ∃ ws,u.2= .bH ws∧bx u.1=some (.cells ws))→ah aa us i=aa i∨ ∃ ws,bx i=some (.cells ws)∧ah aa us i=some (.bH ws)
 | [],_,_=> .inl rfl
 | u::us,aa,h=>by
  rcases Cz (us:=us) (ai aa u.1 (some u.2)) (fun v hv=>h v (by simp [hv])) with h1 | h1
  · by_cases e:i=u.1
    · right
      obtain ⟨ws,h2,h3⟩:=h u (by simp)
      refine ⟨ws,e▸h3, ?_⟩
      show ah (ai aa u.1 (some u.2)) us i=_
      rw [h1,e,aI,h2]
    · left
      show ah (ai aa u.1 (some u.2)) us i=_
      rw [h1,aY _ _ e]
  · exact .inr h1
theorem Inv.uP (h:Inv P S w0 M0 s0 dq env a w μ) {aa:Bx S.C} (hk: ∀ i,aa i=env.bx i∨ ∃ ws,env.bx i=some (.cells ws)∧aa i=some (.bH ws)):Inv P S w0 M0 s0 dq { env with bx:=aa } a w μ:=by
 have hlv: ∀ i,live S aa i→aa i=env.bx i:=fun i hi=>by
  rcases hk i with e | ⟨ws,_,e⟩
  · exact e
  · unfold live at hi; rw [e] at hi; exact hi.elim
 have hf: ∀ i, ¬ aa i=env.bx i→live S aa i→False:=fun i hi hl=>hi (hlv i hl)
 have hl:aV w (ay S w0 M0 s0 env.bx μ w) w (ay S w0 M0 s0 aa μ w):=h.later (T:=fun _ _=>False) (U:=fun i=> ¬ aa i=env.bx i) (aO.refl w _) (fun _ _ h=>h.elim) (fun i hi=>⟨Classical.not_not.1 hi,rfl⟩) (fun i hi hl=>(hf i hi hl).elim)
 have hc: ∀ i B0,env.bx i=some B0→ ∃ B,aa i=some B∧cg S (μ i) (μ i) B0 B:=fun i B0 bA=>by
  rcases hk i with e | ⟨ws,e1,e2⟩
  · exact ⟨B0,e.trans bA,cg.refl S _ _⟩
  · rw [bA] at e1; cases e1
    exact ⟨_,e2,rfl⟩
 refine h.step (T:=fun _ _=>False) (U:=fun i=> ¬ aa i=env.bx i) (aO.refl w _) (fun _ _ h=>h.elim) (fun i hi=>⟨Classical.not_not.1 hi,rfl⟩)
  (fun i hi hl=>(hf i hi hl).elim) hc (fun i _ hi _ _ hl=>(hf i hi hl).elim) (fun i B hi hB=> ?_) (fun i vs hi hvs v hv j hj=> ?_) (fun i hi hl=>(hf i hi hl).elim)
 · rcases hk i with e | ⟨ws,e1,e2⟩
   · exact absurd e hi
   · rw [e2] at hB
     cases hB
     obtain ⟨g1,g2,g3,cs,g4,g5⟩:=h.bw i _ e1
     have bp:live S env.bx i:=by unfold live; rw [e1]; trivial
     have hlen:=aB.length P S g5
     refine ⟨g1,cs,fun j u hj=>⟨g4 j u hj, ?_⟩,aB.step P S hl hc (h.jB i ws (.inl e1)) g5⟩
     have hj':=(List.getElem?_eq_some_iff.1 hj).1
     have fH:(μ i).au (μ i).b ((μ i).o+j):= .inl ⟨rfl,by omega,by omega⟩
     refine ⟨(ju P S (h.bw i) (h.ext i bp) bp fH).1,(h.own i bp _ _ fH).elim (fun h=> .inr (.inr h)) (fun h=> .inr (.inl h)),fun q hq p5=> ?_⟩
     refine h.cM q i (fun e=> ?_) ((dA S (hlv q hq)).1 hq) bp _ _ p5 fH
     subst e
     unfold live at hq; rw [e2] at hq; exact hq
 · rcases hk i with e | ⟨ws,e1,e2⟩
   · exact absurd e hi
   · rw [e2] at hvs
     rcases hvs with hvs | hvs
     · cases hvs
     · cases hvs
       have :=h.jB i _ (.inl e1) v hv j hj
       obtain ⟨B0,bA⟩:=Option.ne_none_iff_exists'.1 this
       obtain ⟨B',gk,_⟩:=hc j B0 bA
       rw [gk]; simp
theorem Bo {s:St} {bx:Bx S.C} : ∀ {vs:List (Sy.V S.C)} {cs:List Value},vs.all (bG S)=true→dJ P S w s μ bx vs cs→aB P S w s μ bx vs cs
 | [],_,_,h=>h
 | v::vs,_,hs,⟨c,r,h1,h2,h3⟩=>by
  simp only [List.all_cons,Bool.and_eq_true] at hs
  refine ⟨c,r,h1, ?_,Bo hs.2 h3⟩
  cases v <;> first | exact h2 | simp [bG] at hs
theorem KY (h:Inv P S w0 M0 s0 dq env a w μ) (hd: ∀ d,o.dst=some d→d<a.tmps.size) {f:Nat} {cs:Array Operand} {ids:List Nat} (ho:o.op= .makeFunc (.func f) #[] cs)
 (hl:(match cs.toList.mapM (aE S env.tm) with
  | some vs=>cond (vs.all (bG S)) (ax S (.fe f vs) (jY S (restrict S env.bx ids) vs)) .fail
  | none=> .fail).leaf (V,us)) (hK:Goal P S w0 M0 s0 dq env a o.dst V us K):o.wp P a w K Q:=by
 split at hl
 · rename_i vs hvs
   cases hs:vs.all (bG S) with
   | false=>rw [hs] at hl; exact hl.elim
   | true=>
    rw [hs,cond_true] at hl
    obtain ⟨rfl,rfl⟩:=bg hl
    obtain ⟨h1,h2⟩:=uu h hvs
    have h3:=Bo hs h1
    have hall: ∀ i,ah env.bx (jY S (restrict S env.bx ids) vs) i=env.bx i∨ ∃ ws,env.bx i=some (.cells ws)∧ah env.bx (jY S (restrict S env.bx ids) vs) i=some (.bH ws):=fun i=>
     Cz env.bx fun u hu=>yd vs u hu fun i B hB=>dD hB
    have hI:=h.uP hall
    have hc: ∀ i B0,env.bx i=some B0→ ∃ B,ah env.bx (jY S (restrict S env.bx ids) vs) i=some B∧cg S (μ i) (μ i) B0 B:=fun i B0 bA=>by
     rcases hall i with e | ⟨ws,e1,e2⟩
     · exact ⟨B0,e.trans bA,cg.refl S _ _⟩
     · rw [bA] at e1; cases e1
       exact ⟨_,e2,rfl⟩
    have iU:aV w (ay S w0 M0 s0 env.bx μ w) w (ay S w0 M0 s0 (ah env.bx (jY S (restrict S env.bx ids) vs)) μ w):=fun b o ⟨q1,q2,q3⟩=>⟨⟨q1,q2,fun i hi=>q3 i (by
     rcases hall i with e | ⟨ws,_,e⟩
     · exact (dA S e).1 hi
     · unfold live at hi; rw [e] at hi; exact hi.elim)⟩,rfl⟩
    have cC: ∀ v ∈ vs, ∀ j ∈ ak S v,env.bx j≠none:=fun v hv j hj=>by
     obtain ⟨x,hx,he⟩:=h2 v hv
     refine (aW h he).2 j ?_
     cases v <;> first | exact hj | simp [ak] at hj
    unfold Oper.wp
    have hrun:(execOp a.eval o).run P w= .ok (.value (.func (.func f) #[] (cs.map a.eval))) w:=by
     unfold execOp
     simp only [ho]
     simp [Instr.makeFunc]
    rw [hrun]
    refine hK _ w μ (hI.put hd (V:= .fe f vs) ⟨_,rfl, ?_⟩ fun j hj=> ?_) ?_
    · have :=aB.step P S iU hc cC h3
      simpa using this
    · simp only [aq,List.mem_flatMap] at hj
      obtain ⟨v,hv,hj⟩:=hj
      obtain ⟨B0,bA⟩:=Option.ne_none_iff_exists'.1 (cC v hv j hj)
      obtain ⟨B',gk,_⟩:=hc j B0 bA
      dsimp only
      rw [gk]; simp
    · cases o.dst <;> simp [Act.put]
 · exact hl.elim
theorem K1 (h:Inv P S w0 M0 s0 dq env a w μ) (hd: ∀ d,o.dst=some d→d<a.tmps.size) {c:Call} (ho:o.op= .call c) {b:Builtin} (hc:c.callee= .builtin b) {args:List (Sy.V S.C)}
 (hargs:c.args.toList.mapM (aE S env.tm)=some args)
 (hl:(match args with
  | [v,w]=>match v.int?,w.int? with
   | some (k,x),some (k',y)=>if k=k' then match b with
    | .min=>ax S (.d (.int k) (Min.min (α:=Int) x y)) []
    | .max=>ax S (.d (.int k) (Max.max (α:=Int) x y)) []
    | _=>Tr.fail else Tr.fail
   | _,_=>Tr.fail
  | _=>Tr.fail).leaf (V,us)) (hK:Goal P S w0 M0 s0 dq env a o.dst V us K):o.wp P a w K Q:=by
 split at hl
 · rename_i v u
   obtain ⟨xs,xx,hxs,j7,hex⟩:=w6 hargs
   have har:c.args= #[xs,xx]:=by
    have :c.args=c.args.toList.toArray:=by simp
    rw [this,hxs]
   split at hl
   · rename_i k x k' y hv hu
     split at hl
     · rename_i hkk
       subst hkk
       have e1:=iH (aW h j7).1 hv
       have e2:=iH (aW h hex).1 hu
       split at hl
       · obtain ⟨rfl,rfl⟩:=bg hl
         refine wp_pure (V:= .d (.int k) (Min.min (α:=Int) x y)) h (v:= .int k (Min.min x y)) ?_ hd (iq ..) (by simp [aq,ak]) hK
         unfold execOp
         simp only [ho]
         simp [resolve,hc,har,e1,e2,invoke,builtin,Builtin.min_,Builtin.min2]
         split <;> first | omega | (simp; omega)
       · obtain ⟨rfl,rfl⟩:=bg hl
         refine wp_pure (V:= .d (.int k) (Max.max (α:=Int) x y)) h (v:= .int k (Max.max x y)) ?_ hd (iq ..) (by simp [aq,ak]) hK
         unfold execOp
         simp only [ho]
         simp [resolve,hc,har,e1,e2,invoke,builtin,Builtin.max_,Builtin.max2]
         split <;> first | omega | (simp; omega)
       · exact hl.elim
     · exact hl.elim
   · exact hl.elim
 · exact hl.elim
end
end Go.Sy
namespace Go.Sy
section
variable {P:Program} {S:aK} {af:Nat→Nat}
variable {w0:World} {M0 s0:St} {dq:List Deferred} {env:Env S.C} {a:Act} {w:World} {μ:Nat→Loc} {K:Act→World→Prop} {Q:Exit→Act→World→Prop} {o:Oper} {V:V S.C} {us:aA S.C}
theorem BC {s:St} {bx:Bx S.C} {e:Ty} (he:aZ e=false) {V:Sy.V S.C} {v:Value} {x:e.den S.C} (hv:bl P S w s μ bx V v) (hx:cF S (fun _=>none) e V=some x): ∃ n,av S w s n e x [v]:=by
 have hd: ∀ (u:Ty) (y:u.den S.C),bT S w s u y v→dj S u e y=some x→ ∃ n,av S w s n e x [v]:=by
  intro u y hr hc
  obtain ⟨rfl,rfl⟩:=dm hc
  obtain ⟨h1,n,hn⟩:=hr
  rw [av.jV h1 he] at hn
  exact ⟨n,hn⟩
 cases V with
 | d u y=>exact hd u y hv hx
 | pr p i=>
  obtain ⟨rfl,rfl⟩:=dm hx
  cases hv
  exact ⟨1,rfl⟩
 | aP b e l=>exact hd (.sl e) l hv.1 hx
 | b8=>
  cases e with
  | sl e=>
   cases hx
   cases hv
   exact ⟨1,none,0,rfl,Nat.le_refl _, .inl rfl⟩
  | _=>cases hx
 | _=>cases hx
theorem F6 {s:St} {bx:Bx S.C} : ∀ (ts:List Ty) (hts:ts.all (fun t=> !aZ t)=true) {vs:List (Sy.V S.C)} {cs:List Value} {x:ag S.C ts},aB P S w s μ bx vs cs→gH S (fun _=>none) ts vs=some x→ ∃ n,a_ S (fun t x cs=>av S w s n t x cs) ts x (cs.take ts.length)
 | [],_,_,cs,_,_,_=>⟨0,by simp [a_]⟩
 | t::ts,hts,[],_,_,_,hx=>by simp [gH] at hx
 | t::ts,hts,V::vs,cs,x,⟨c,r,hcs,hv,hr⟩,hx=>by
  simp only [List.all_cons,Bool.and_eq_true,Bool.not_eq_true'] at hts
  simp only [gH] at hx
  obtain ⟨y,hy,hx⟩:=Option.bind_eq_some_iff.1 hx
  obtain ⟨z,hz,hx⟩:=Option.bind_eq_some_iff.1 hx
  cases hx
  obtain ⟨n,hn⟩:=BC hts.1 hv hy
  obtain ⟨m,hm⟩:=F6 ts hts.2 hr hz
  refine ⟨max n m,c,r.take ts.length,by simp [hcs], ?_, ?_⟩
  · rw [show ag.head (ag.cons y z)=y from by cases ts <;> rfl]
    exact hn.up S (by omega)
  · rw [show ag.tail (ag.cons y z)=z from by cases ts <;> rfl]
    exact a_.mono S (fun t x cs hr=>hr.up S (by omega)) _ _ _ hm
theorem B_ (hP:aL P S af) {s:St} {bx:Bx S.C} {u:Nat} {V:Sy.V S.C} {v:Value} {x:S.C u} (hv:RV P S w s μ bx V v) (hx:datum S (fun _=>none) (.st u) V=some x): ∃ cs n,v= .agg cs∧a_ S (fun t x cs=>av S w s n t x cs) (S.F u) (S.ex u x) cs.toList:=by
 cases V with
 | agg u' vs=>
  simp only [datum] at hx
  split at hx
  · rename_i hu
    obtain ⟨cs,g1,g2,g3,g4⟩:=hv
    simp only [gQ] at hx
    obtain ⟨y,hy,hx⟩:=Option.bind_eq_some_iff.1 hx
    cases hx
    obtain ⟨n,hn⟩:=F6 (S.F u) (hP.flat u) g4 hy
    have hlen:=aB.length P S g4
    rw [List.take_of_length_le (by rw [hlen,g2,hu]; exact Nat.le_refl _)] at hn
    refine ⟨cs,n,g1, ?_⟩
    rw [hP.kL]
    exact hn
  · cases hx
 | d t y=>
  simp only [datum] at hx
  obtain ⟨rfl,h2⟩:=dm hx
  cases h2
  obtain ⟨ha,n,hr⟩:=hv
  have : ∃ cs,v= .agg cs:=by
   cases v <;> first | exact ⟨_,rfl⟩ | (simp [Go.Sy.isAgg,aZ] at ha)
  obtain ⟨cs,rfl⟩:=this
  cases n with
  | zero=>exact hr.elim
  | succ n=>exact ⟨cs,n,rfl,hr⟩
 | _=>cases hx
theorem uL {t:Ty} {ts:List Ty} (x y:ag S.C (t::ts)):iF S (t::ts) x y↔pR S t (ag.head x) (ag.head y)∧iF S ts (ag.tail x) (ag.tail y):=by
 cases ts with
 | nil=>exact ⟨fun h=>⟨h,trivial⟩,fun h=>h.1⟩
 | cons u ts=>exact Iff.rfl
theorem ME (hP:aL P S af) {s:St} {n m:Nat} {t:Nat} {T:Ty} (h4:match T with | .int _=>True | .bool=>True | .str=>True | _=>False) (h3:S.ty t=some T) {x y:T.den S.C} {c c':Value} (e2:av S w s n T x [c]) (f2:av S w s m T y [c']) (d:Nat):
 ∃ b0,(Op.equalIn (d+1) t c c').run P w= .ok b0 w∧(b0=true↔pR S T x y):=by
 have hty:=(hP.ty t T h3).2
 cases n with
 | zero=>exact e2.elim
 | succ n=>
 cases m with
 | zero=>exact f2.elim
 | succ m=>
 cases T with
 | int k=>
  have e2: [c]= [Value.int k _]:=e2
  have f2: [c']= [Value.int k _]:=f2
  cases e2; cases f2
  exact ⟨_,run_equalIn_int w d t k k _ _ hty,by show _↔ @Eq Int _ _; exact beq_iff_eq⟩
 | bool=>
  have e2: [c]= [Value.bool _]:=e2
  have f2: [c']= [Value.bool _]:=f2
  cases e2; cases f2
  exact ⟨_,run_equalIn_bool' w d t _ _ hty,by show _↔ @Eq Bool _ _; exact beq_iff_eq⟩
 | str=>
  have e2: [c]= [Value.string ⟨List.toArray _⟩]:=e2
  have f2: [c']= [Value.string ⟨List.toArray _⟩]:=f2
  cases e2; cases f2
  exact ⟨_,run_equalIn_string w d t _ _ hty,by show _↔ @Eq (List UInt8) _ _; rw [ByteArray.toList_eq,ByteArray.toList_eq]; exact beq_iff_eq⟩
 | st u=>exact h4.elim
 | sl e=>exact h4.elim
 | pt=>exact h4.elim
theorem Fe (hP:aL P S af) {s:St} {d:Nat} {n m:Nat} : ∀ (fs:List Field) (ts:List Ty) (i:Nat) (xs ys:Array Value) (x y:ag S.C ts),uh S fs ts i→
 a_ S (fun t x cs=>av S w s n t x cs) ts x (xs.toList.drop i)→a_ S (fun t x cs=>av S w s m t x cs) ts y (ys.toList.drop i)→ ∃ b,(Op.eqFields (d+1) xs ys fs).run P w= .ok b w∧(b=true↔iF S ts x y)
 | [],[],_,_,_,_,_,_,_,_=>⟨true,by simp [Op.eqFields],by simp [iF]⟩
 | [],_::_,_,_,_,_,_,h,_,_=>h.elim
 | _::_,[],_,_,_,_,_,h,_,_=>h.elim
 | fd::fs,T::ts,i,xs,ys,x,y,⟨h1,h2,h3,h4,h5⟩,⟨c,r,e1,e2,e3⟩,⟨c',r',f1,f2,f3⟩=>by
  have nx:xs.toList.drop (i+1)=r:=by rw [← List.drop_drop,e1]; rfl
  have ny:ys.toList.drop (i+1)=r':=by rw [← List.drop_drop,f1]; rfl
  obtain ⟨b,g1,g2⟩:=Fe hP (d:=d) fs ts (i+1) xs ys (ag.tail x) (ag.tail y) h5 (by rw [nx]; exact e3) (by rw [ny]; exact f3)
  have hsz:Ty.sz S T=1∧aZ T=false:=by cases T <;> first | exact ⟨rfl,rfl⟩ | exact h4.elim
  have JK:i<xs.size:=by
   have :=congrArg List.length e1
   simp at this; omega
  have JL:i<ys.size:=by
   have :=congrArg List.length f1
   simp at this; omega
  have hm: ∀ ds,ee T ds=ds.headD Go.undef:=by intro ds; cases T <;> first | rfl | exact h4.elim
  have px:=l_ hP h3 (cs:=xs) (off:=i) (by rw [hsz.1]; omega) w
  have py:=l_ hP h3 (cs:=ys) (off:=i) (by rw [hsz.1]; omega) w
  rw [hm,e1,hsz.1] at px
  rw [hm,f1,hsz.1] at py
  have px:(part fd.type xs i).run P w= .ok c w:=px
  have py:(part fd.type ys i).run P w= .ok c' w:=py
  have heq: ∃ b0,(Op.equalIn (d+1) fd.type c c').run P w= .ok b0 w∧(b0=true↔pR S T (ag.head x) (ag.head y)):=by
   have hty:=(hP.ty fd.type T h3).2
   cases n with
   | zero=>exact e2.elim
   | succ n=>
   cases m with
   | zero=>exact f2.elim
   | succ m=>
   cases T with
   | int k=>
    have e2: [c]= [Value.int k _]:=e2
    have f2: [c']= [Value.int k _]:=f2
    cases e2; cases f2
    exact ⟨_,run_equalIn_int w d fd.type k k _ _ hty,by show _↔ @Eq Int _ _; exact beq_iff_eq⟩
   | bool=>
    have e2: [c]= [Value.bool _]:=e2
    have f2: [c']= [Value.bool _]:=f2
    cases e2; cases f2
    exact ⟨_,run_equalIn_bool' w d fd.type _ _ hty,by show _↔ @Eq Bool _ _; exact beq_iff_eq⟩
   | str=>
    have e2: [c]= [Value.string ⟨List.toArray _⟩]:=e2
    have f2: [c']= [Value.string ⟨List.toArray _⟩]:=f2
    cases e2; cases f2
    exact ⟨_,run_equalIn_string w d fd.type _ _ hty,by show _↔ @Eq (List UInt8) _ _; rw [ByteArray.toList_eq,ByteArray.toList_eq]; exact beq_iff_eq⟩
   | st u=>exact h4.elim
   | sl e=>exact h4.elim
   | pt=>exact h4.elim
  obtain ⟨b0,k1,k2⟩:=heq
  rw [uL]
  simp only [Op.eqFields,h2,ne_eq,not_false_eq_true,if_true,h1,Sem.run_bind,px,py,k1,Result.andThen_ok]
  cases b0 with
  | true=>
   simp only [Bool.not_true,Bool.false_eq_true,if_false]
   exact ⟨b,g1,by rw [g2]; exact ⟨fun h=>⟨k2.1 rfl,h⟩,fun h=>h.2⟩⟩
  | false=>
   simp only [Bool.not_false,if_true,Sem.run_pure]
   exact ⟨false,rfl,fun h=>(by cases h),fun h=>(by have :=k2.2 h.1; cases this)⟩
def mo:(ts us:List Ty)→ag S.C (ts++us)→ag S.C ts
 | [],_,_=>()
 | _::ts,us,x=>ag.cons (ag.head x) (mo ts us (ag.tail x))
def tV:(ts us:List Ty)→ag S.C (ts++us)→ag S.C us
 | [],_,x=>x
 | _::ts,us,x=>tV ts us (ag.tail x)
theorem head_cons {t:Ty} {ts:List Ty} (x:t.den S.C) (r:ag S.C ts):ag.head (ag.cons x r)=x:=by cases ts <;> rfl
theorem tail_cons {t:Ty} {ts:List Ty} (x:t.den S.C) (r:ag S.C ts):ag.tail (ag.cons x r)=r:=by cases ts <;> rfl
theorem Co: ∀ (ts us:List Ty) (x y:ag S.C (ts++us)),iF S (ts++us) x y↔iF S ts (mo ts us x) (mo ts us y)∧iF S us (tV ts us x) (tV ts us y)
 | [],us,x,y=>by
  show _↔True∧_
  rw [true_and]; rfl
 | t::ts,us,x,y=>by
  have h:=uL (S:=S) (t:=t) (ts:=ts++us) x y
  have h2:=uL (S:=S) (t:=t) (ts:=ts) (mo (t::ts) us x) (mo (t::ts) us y)
  show iF S (t::(ts++us)) x y↔_
  rw [h,h2,Co ts us]
  simp only [mo,tV,head_cons,tail_cons]
  exact and_assoc.symm
theorem wK {R:(t:Ty)→t.den S.C→List Value→Prop} : ∀ (ts us:List Ty) (x:ag S.C (ts++us)) (cs:List Value),a_ S R (ts++us) x cs→a_ S R ts (mo ts us x) (cs.take ts.length)∧a_ S R us (tV ts us x) (cs.drop ts.length)∧ts.length≤cs.length
 | [],us,x,cs,h=>⟨rfl,h,Nat.zero_le _⟩
 | t::ts,us,x,cs,⟨c,r,hc,h1,h2⟩=>by
  subst hc
  obtain ⟨a,b,l⟩:=wK ts us _ _ h2
  refine ⟨⟨c,r.take ts.length,rfl, ?_, ?_⟩,b,by simpa using l⟩
  · simp only [mo,head_cons]; exact h1
  · simp only [mo,tail_cons]; exact a
theorem Ap (hP:aL P S af) {s:St} {d:Nat} {n m:Nat} : ∀ (fs:List Field) (ts:List Ty) (i:Nat) (xs ys:Array Value) (x y:ag S.C ts),uk P S fs ts i→
 a_ S (fun t x cs=>av S w s n t x cs) ts x (xs.toList.drop i)→a_ S (fun t x cs=>av S w s m t x cs) ts y (ys.toList.drop i)→ ∃ b,(Op.eqFields (d+3) xs ys fs).run P w= .ok b w∧(b=true↔iF S ts x y)
 | [],ts,_,_,_,_,_,h,_,_=>by
  have h:ts= []:=h
  subst h
  exact ⟨true,by simp [Op.eqFields],by simp [iF]⟩
 | fd::fs,ts,i,xs,ys,x,y,⟨h1,h2,h3⟩,hx,hy=>by
  have step: ∀ (b0 b:Bool) (c c':Value) (A B:Prop),(part fd.type xs i).run P w= .ok c w→(part fd.type ys i).run P w= .ok c' w→(Op.equalIn (d+3) fd.type c c').run P w= .ok b0 w→(b0=true↔A)→(Op.eqFields (d+3) xs ys fs).run P w= .ok b w→(b=true↔B)→
   ∃ b,(Op.eqFields (d+3) xs ys (fd::fs)).run P w= .ok b w∧(b=true↔A∧B):=by
   intro b0 b c c' A B px py k1 k2 g1 g2
   simp only [Op.eqFields,h2,ne_eq,not_false_eq_true,if_true,h1,Sem.run_bind,px,py,k1,Result.andThen_ok]
   cases b0 with
   | true=>
    simp only [Bool.not_true,Bool.false_eq_true,if_false]
    exact ⟨b,g1,by rw [g2]; exact ⟨fun h=>⟨k2.1 rfl,h⟩,fun h=>h.2⟩⟩
   | false=>
    simp only [Bool.not_false,if_true,Sem.run_pure]
    exact ⟨false,rfl,fun h=>(by cases h),fun h=>(by have :=k2.2 h.1; cases this)⟩
  rcases h3 with ⟨T,r,rfl,hty,hsc,h5⟩ | ⟨v,r,gs,rfl,hty,hu,hsi,hpos,hfl,h5⟩
  · obtain ⟨c,cr,e1,e2,e3⟩:=hx
    obtain ⟨c',H_,f1,f2,f3⟩:=hy
    have nx:xs.toList.drop (i+1)=cr:=by rw [← List.drop_drop,e1]; rfl
    have ny:ys.toList.drop (i+1)=H_:=by rw [← List.drop_drop,f1]; rfl
    obtain ⟨b,g1,g2⟩:=Ap hP (d:=d) fs r (i+1) xs ys (ag.tail x) (ag.tail y) h5 (by rw [nx]; exact e3) (by rw [ny]; exact f3)
    have OE:uh S [fd] [T] i:=⟨h1,h2,hty,hsc,trivial⟩
    have hsz:Ty.sz S T=1∧aZ T=false:=by cases T <;> first | exact ⟨rfl,rfl⟩ | exact hsc.elim
    have JK:i<xs.size:=by
     have :=congrArg List.length e1
     simp at this; omega
    have JL:i<ys.size:=by
     have :=congrArg List.length f1
     simp at this; omega
    have hm: ∀ ds,ee T ds=ds.headD Go.undef:=by intro ds; cases T <;> first | rfl | exact hsc.elim
    have px:=l_ hP hty (cs:=xs) (off:=i) (by rw [hsz.1]; omega) w
    have py:=l_ hP hty (cs:=ys) (off:=i) (by rw [hsz.1]; omega) w
    rw [hm,e1,hsz.1] at px
    rw [hm,f1,hsz.1] at py
    have px:(part fd.type xs i).run P w= .ok c w:=px
    have py:(part fd.type ys i).run P w= .ok c' w:=py
    obtain ⟨b0,k1,k2⟩:=ME (w:=w) hP hsc hty e2 f2 (d+2)
    rw [uL]
    exact step b0 b c c' _ _ px py k1 k2 g1 g2
  · obtain ⟨x1,x2,lx⟩:=wK (S.F v) r x _ hx
    obtain ⟨y1,y2,ly⟩:=wK (S.F v) r y _ hy
    rw [List.drop_drop] at x2 y2
    obtain ⟨b,g1,g2⟩:=Ap hP (d:=d) fs r (i+(S.F v).length) xs ys _ _ h5 x2 y2
    rw [List.length_drop] at lx ly
    have px:=l_ hP hty (cs:=xs) (off:=i) (by show i+(S.F v).length≤_; have :xs.toList.length=xs.size:=Array.length_toList; omega) w
    have py:=l_ hP hty (cs:=ys) (off:=i) (by show i+(S.F v).length≤_; have :ys.toList.length=ys.size:=Array.length_toList; omega) w
    have hfo:P.underlying fd.type=some (.struct (P.fieldsOf fd.type)):=by unfold Program.fieldsOf; rw [hu]
    have yF:P.fieldsOf fd.type=gs:=by unfold Program.fieldsOf; rw [hu]
    obtain ⟨b0,k1,k2⟩:=Fe hP (d:=d+1) gs.toList (S.F v) 0 ((xs.toList.drop i).take (S.F v).length).toArray ((ys.toList.drop i).take (S.F v).length).toArray _ _ hfl (by simpa using x1) (by simpa using y1)
    rw [Co]
    refine step b0 b (.agg ((xs.toList.drop i).take (S.F v).length).toArray) (.agg ((ys.toList.drop i).take (S.F v).length).toArray) _ _ px py ?_ k2 g1 g2
    rw [run_equalIn_agg w (d+2) fd.type _ _ hfo hsi,yF]
    exact k1
theorem Nq (hP:aL P S af) (h:Inv P S w0 M0 s0 dq env a w μ) (hd: ∀ d,o.dst=some d→d<a.tmps.size) {op:BinOp} {t t':TypeId} {x y:Operand} (ho:o.op= .binOp op t x y t') (he:S.eq t=true)
 (hl:(match aE S env.tm x,aE S env.tm y with
  | some p,some q=>structEq S op t p q
  | _,_=> .fail).leaf (V,us)) (hK:Goal P S w0 M0 s0 dq env a o.dst V us K):o.wp P a w K Q:=by
 obtain ⟨u,ht,⟨fs,hu,hfl⟩,hsi,hgt⟩:=hP.eq t he
 have hfo:P.underlying t=some (.struct (P.fieldsOf t)):=by unfold Program.fieldsOf; rw [hu]
 have yF:P.fieldsOf t=fs:=by unfold Program.fieldsOf; rw [hu]
 split at hl
 · rename_i p q hx hy
   obtain ⟨ct,_⟩:=aW h hx
   obtain ⟨dV,_⟩:=aW h hy
   unfold structEq at hl
   rw [ht] at hl
   dsimp only at hl
   split at hl
   · rename_i c d hc hd'
     obtain ⟨xs,n,e1,r1⟩:=B_ hP ct hc
     obtain ⟨ys,m,e2,r2⟩:=B_ hP dV hd'
     obtain ⟨b,g1,g2⟩:=Ap hP (d:=9996) fs.toList (S.F u) 0 xs ys _ _ hfl (by simpa using r1) (by simpa using r2)
     have hrun:(Op.equalIn 10000 t (.agg xs) (.agg ys)).run P w= .ok b w:=by
      rw [run_equalIn_agg w 9999 t xs ys hfo hsi,yF]
      exact g1
     have fin: ∀ (z:Bool),(binOp op t (.agg xs) (.agg ys)).run P w= .ok (.bool z) w→RV P S w (ay S w0 M0 s0 env.bx μ w) μ env.bx V (.bool z)→aq S V= []→us= []→o.wp P a w K Q:=by
      rintro z hz hr hi rfl
      refine wp_pure h (v:= .bool z) ?_ hd hr (by simp [hi]) hK
      unfold execOp
      simp only [ho,e1,e2]
      simp [run_eqGuard_agg w op t x y xs ys hgt,hz]
     split at hl
     · obtain ⟨rfl,rfl⟩:=bg hl
       refine fin b (by rw [run_eql_struct,hrun]; rfl) ?_ rfl rfl
       show Value.bool b=Value.bool (@decide _ (rP S _ _ _))
       congr 1
       cases hb:b with
       | true=>exact (@decide_eq_true _ (_) (g2.1 hb)).symm
       | false=>exact (@decide_eq_false _ (_) (fun hq=>by rw [g2.2 hq] at hb; cases hb)).symm
     · obtain ⟨rfl,rfl⟩:=bg hl
       refine fin (!b) (by rw [run_neq_struct,hrun]; rfl) ?_ rfl rfl
       show Value.bool (!b)=Value.bool (@decide _ (@instDecidableNot _ (rP S _ _ _)))
       congr 1
       cases hb:b with
       | true=>exact (@decide_eq_false _ (_) (fun hq=>hq (g2.1 hb))).symm
       | false=>exact (@decide_eq_true _ (_) (fun hq=>by rw [g2.2 hq] at hb; cases hb)).symm
     · exact hl.elim
   · exact hl.elim
 · exact hl.elim
theorem vW {s:St} {bx:Bx S.C} {e:Ty} (he:aZ e=false): ∀ {vs:List (Sy.V S.C)} {cs:List Value} {l:List (e.den S.C)},aB P S w s μ bx vs cs→rowOf S e vs=some l→l.length=vs.length∧
 ∀ (j:Nat) (x:e.den S.C),l[j]? =some x→ ∃ c n,cs[j]? =some c∧av S w s n e x [c]
 | [],_,_,_,hl=>by
  cases hl
  exact ⟨rfl,fun j x h=>by simp at h⟩
 | v::vs,_,l,⟨c,r,rfl,h1,h2⟩,hl=>by
  simp only [rowOf] at hl
  obtain ⟨x,hx,hl⟩:=Option.bind_eq_some_iff.1 hl
  obtain ⟨l',hl',hl⟩:=Option.bind_eq_some_iff.1 hl
  cases hl
  obtain ⟨h3,h4⟩:=vW he h2 hl'
  refine ⟨by simp [h3],fun j y hj=> ?_⟩
  cases j with
  | zero=>
   simp at hj
   subst hj
   obtain ⟨n,hn⟩:=BC he h1 hx
   exact ⟨c,n,rfl,hn⟩
  | succ j=>
   obtain ⟨c',n,h5,h6⟩:=h4 j y (by simpa using hj)
   exact ⟨c',n,by simpa using h5,h6⟩
theorem w5 (hP:aL P S af) {t n u:Nat} {e:Ty} (h:mL S t=some (n,e,u)): ∃ te,S.ty t=some (.st u)∧P.underlying t=some (.array n te)∧S.ty te=some e∧Ty.sz S e=1∧aZ e=false∧S.F u=List.replicate n e:=by
 unfold mL at h
 cases ha:S.ar t with
 | none=>rw [ha] at h; cases h
 | some p=>
  obtain ⟨n',e'⟩:=p
  rw [ha] at h
  dsimp only at h
  split at h
  · cases h
  · rename_i u' oc hu
    cases h
    obtain ⟨_,_,h3⟩:=hP.ty t _ hu
    rw [ha] at h3
    obtain ⟨te,h4,h5,h6,_⟩:=h3
    rcases h6 with ⟨h6,h7,h8⟩ | ⟨w,rfl,_⟩
    · exact ⟨te,hu,h4,h5,h6,h7,h8⟩
    · exact absurd rfl (oc w)
  · cases h
theorem Hf (hP:aL P S af) {t n m u:Nat} (h:uw S t=some (n,m,u)): ∃ te,S.ty t=some (.st u)∧P.underlying t=some (.array n te)∧S.ty te=some (.st m):=by
 unfold uw at h
 cases ha:S.ar t with
 | none=>rw [ha] at h; cases h
 | some p=>
  obtain ⟨n',e'⟩:=p
  rw [ha] at h
  dsimp only at h
  split at h
  · rename_i w u' hu
    cases h
    obtain ⟨_,_,h3⟩:=hP.ty t _ hu
    rw [ha] at h3
    obtain ⟨te,h4,h5,_⟩:=h3
    exact ⟨te,hu,h4,h5⟩
  · cases h
theorem MI (hP:aL P S af) {t n te:Nat} {e:Ty} (hu:P.underlying t=some (.array n te)) (he:S.ty te=some e) (h1:Ty.sz S e=1) {b o':Nat} {k:IntKind} {i:Int} (h0:0≤i) (hi:i<(n:Int)) (w:World):
 (Instr.indexAt t (.pointer (some ⟨b,o',none⟩)) (.int k i)).run P w= .ok (.pointer (some ⟨b,o'+i.toNat,none⟩)) w:=by
 simp [Instr.indexAt,asIntOf,run_underlying hu,h0,hi,hP.size he w,Addr.add_mid,h1,Instr.sureAddr]
theorem MG (hP:aL P S af) {t n te:Nat} {e:Ty} (hu:P.underlying t=some (.array n te)) (he:S.ty te=some e) (h1:Ty.sz S e=1) (hst:aZ e=false) {cs:Array Value} {c:Value} {k:IntKind} {i:Int} (h0:0≤i) (hi:i<(n:Int)) (hc:cs.toList[i.toNat]? =some c) (w:World):
 (Instr.index t (.agg cs) (.int k i)).run P w= .ok c w:=by
 have hlt:i.toNat<cs.size:=by
  have :=(List.getElem?_eq_some_iff.1 hc).1
  simpa using this
 have :=l_ hP he (cs:=cs) (off:=i.toNat) (by rw [h1]; omega) w
 rw [h1] at this
 simp only [Instr.index,asIntOf,Sem.run_bind,Sem.run_pure,Result.andThen_ok,run_underlying hu]
 simp only [h0,hi,and_self,if_true,Sem.run_bind,hP.size he w,Result.andThen_ok,h1,Nat.mul_one,this]
 congr 1
 have hm: ∀ ds,ee e ds=ds.headD Go.undef:=by intro ds; cases e <;> first | rfl | simp [aZ] at hst
 have j4:cs.toList[i.toNat]=c:=by
  have :=(List.getElem?_eq_some_iff.1 hc).2
  exact this
 rw [hm,List.drop_eq_getElem_cons (by simpa using hlt),j4]
 rfl
theorem Ox (h:Inv P S w0 M0 s0 dq env a w μ) {o:Oper} {K:Act→World→Prop} {Q:Exit→Act→World→Prop} {V:Sy.V S.C} {v:Value} {us:aA S.C}
 (hrun:(execOp a.eval o).run P w= .ok (.value v) w) (hd: ∀ d,o.dst=some d→d<a.tmps.size) (hk: ∀ i,ah env.bx us i=env.bx i∨ ∃ ws,env.bx i=some (.cells ws)∧ah env.bx us i=some (.bH ws))
 (hv:Inv P S w0 M0 s0 dq { env with bx:=ah env.bx us } a w μ→RV P S w (ay S w0 M0 s0 (ah env.bx us) μ w) μ (ah env.bx us) V v) (hr: ∀ i ∈ aq S V,ah env.bx us i≠none)
 (hK: ∀ a' w' μ',Inv P S w0 M0 s0 dq (env.apply o.dst V us) a' w' μ'→a'.tmps.size=a.tmps.size→K a' w'):o.wp P a w K Q:=by
 unfold Oper.wp
 rw [hrun]
 have hI:=h.uP hk
 refine hK _ w μ (hI.put hd (hv hI) hr) ?_
 cases o.dst <;> simp [Act.put]
theorem G8 (hP:aL P S af) (h:Inv P S w0 M0 s0 dq env a w μ) (hd: ∀ d,o.dst=some d→d<a.tmps.size) {t:TypeId} {x i:Operand} {ids:List Nat} {n u:Nat} {e:Ty} (ho:o.op= .indexAddr t x i) (hte:mL S t=some (n,e,u))
 (hl:(match aE S env.tm x,aE S env.tm i with
  | some v,some w=>match w.int? with
   | some (_,j)=>w7 S n e u (restrict S env.bx ids) j v
   | none=> .fail
  | _,_=> .fail).leaf (V,us)) (hK:Goal P S w0 M0 s0 dq env a o.dst V us K):o.wp P a w K Q:=by
 obtain ⟨te,ht,hu,he,h1,hst,hF⟩:=w5 hP hte
 split at hl
 · rename_i v wv hx hi
   obtain ⟨hv,cR⟩:=aW h hx
   obtain ⟨lV,_⟩:=aW h hi
   split at hl
   · rename_i k j hn
     have hin:=iH lV hn
     have run: ∀ (b off:Nat),a.eval x= .pointer (some ⟨b,off,none⟩)→0≤j→j<(n:Int)→(execOp a.eval o).run P w= .ok (.value (.pointer (some ⟨b,off+j.toNat,none⟩))) w:=by
      intro b off he' h0 hj
      unfold execOp
      simp only [ho,he',hin]
      simp [MI hP hu he h1 h0 hj]
     unfold w7 at hl
     split at hl
     · rename_i b off
       have main: ∀ (vs:List (Sy.V S.C)),(env.bx b=some (.cells vs)∨env.bx b=some (.bH vs))→(match rowOf S e ((vs.drop off).take n) with
        | some l=> .gd (cX j l.length) (ax S (.cH e (gi S e l j)) [(b, .bH vs)])
        | none=> .fail:Rt S).leaf (V,us)→o.wp P a w K Q:=by
        intro vs hb hl1
        clear hl
        split at hl1
        · rename_i l hrow
          obtain ⟨hg,rfl,rfl⟩:=d_ hl1
          have g0:0≤j:=hg ⟨0≤j,inferInstance⟩ (by simp [cX,gd])
          have g1:j<(l.length:Int):=hg ⟨j<(l.length:Int),inferInstance⟩ (by simp [cX,gd])
          have hk: ∀ i,ah env.bx [(b,b7.bH vs)] i=env.bx i∨ ∃ ws,env.bx i=some (.cells ws)∧ah env.bx [(b,b7.bH vs)] i=some (.bH ws):=by
           intro i
           by_cases e':i=b
           · subst e'
             rcases hb with hb | hb
             · exact .inr ⟨vs,hb,aI ..⟩
             · exact .inl ((aI ..).trans hb.symm)
           · exact .inl (aY _ _ e')
          have hlen:l.length≤n∧l.length≤vs.length - off:=by
           have : ∀ (e:Ty) (vs:List (Sy.V S.C)) (l:List (e.den S.C)),rowOf S e vs=some l→l.length=vs.length:=by
            intro e vs
            induction vs with
            | nil=>intro l hl; cases hl; rfl
            | cons v vs ih=>
             intro l hl
             simp only [rowOf] at hl
             obtain ⟨x,hx,hl⟩:=Option.bind_eq_some_iff.1 hl
             obtain ⟨l',hl',hl⟩:=Option.bind_eq_some_iff.1 hl
             cases hl
             simp [ih l' hl']
           have :=this e _ l hrow
           rw [List.length_take,List.length_drop] at this
           omega
          have yV:a.eval x= .pointer (some ⟨(μ b).b,(μ b).o+off,none⟩):=hv
          refine Ox (V:= .cH e (gi S e l j)) h (run _ _ yV g0 (by omega)) hd hk (fun hI=> ?_) (by simp [aq,ak]) hK
          have fV:ah env.bx [(b,b7.bH vs)] b=some (.bH vs):=aI ..
          obtain ⟨_,cs,cu,cl⟩:=hI.bw b _ fV
          obtain ⟨_,gB⟩:=vW hst (aB.take P S n (aB.drop P S off cl)) hrow
          obtain ⟨c,m,hc,hr⟩:=gB j.toNat _ (nW g0 g1)
          refine ⟨(μ b).b,(μ b).o+off+j.toNat,[c],rfl,fun q u hq=> ?_,by rw [h1]; rfl,m,hr⟩
          cases q with
          | zero=>
           simp at hq
           subst hq
           rw [List.getElem?_take] at hc
           split at hc
           · rw [List.getElem?_drop] at hc
             have :=cu (off+j.toNat) c hc
             rw [Nat.add_zero,Nat.add_assoc]
             exact this
           · cases hc
          | succ q=>simp at hq
        · exact hl1.elim
       split at hl
       · rename_i vs hb; exact main vs (.inl (dD hb)) hl
       · rename_i vs hb; exact main vs (.inr (dD hb)) hl
       · exact hl.elim
     · rename_i t' y
       split at hl
       · rename_i y' hc
         obtain ⟨rfl,rfl⟩:=dm hc
         split at hl
         · rename_i l hrow
           obtain ⟨hg,rfl,rfl⟩:=d_ hl
           have g0:0≤j:=hg ⟨0≤j,inferInstance⟩ (by simp [cX,gd])
           have g1:j<(l.length:Int):=hg ⟨j<(l.length:Int),inferInstance⟩ (by simp [cX,gd])
           obtain ⟨b,o',ds,yV,cu,hlen,m,hr⟩:=hv
           obtain ⟨cl,_⟩:=kM (P:=P) hP.tobY μ env.bx hr
           obtain ⟨sx,gB⟩:=vW hst (aB.take P S n cl) hrow
           rw [List.length_take] at sx
           obtain ⟨c,m',hc,hr'⟩:=gB j.toNat _ (nW g0 g1)
           refine wp_pure (V:= .cH e (gi S e l j)) h (run _ _ yV g0 (by omega)) hd ⟨b,o'+j.toNat,[c],rfl,fun q u hq=> ?_,by rw [h1]; rfl,m',hr'⟩ (by simp [aq,ak]) hK
           cases q with
           | zero=>
            simp at hq
            subst hq
            rw [List.getElem?_take] at hc
            split at hc
            · have :=cu j.toNat c hc
              rw [Nat.add_zero]
              exact this
            · cases hc
           | succ q=>simp at hq
         · exact hl.elim
       · exact hl.elim
     · exact hl.elim
   · exact hl.elim
 · exact hl.elim
theorem Nn (hP:aL P S af) (h:Inv P S w0 M0 s0 dq env a w μ) (hd: ∀ d,o.dst=some d→d<a.tmps.size) {t:TypeId} {x y:Operand} {ids:List Nat} {n u:Nat} {e:Ty} (ho:o.op= .store t x y) (hte:mL S t=some (n,e,u))
 (cC: ∀ V,aE S env.tm y=some V→ ∀ i ∈ aq S V,restrict S env.bx ids i=env.bx i)
 (hl:(match aE S env.tm x,aE S env.tm y with
  | some p,some v=>A5 S u (restrict S env.bx ids) v p
  | _,_=> .fail).leaf (V,us)) (hK:Goal P S w0 M0 s0 dq env a o.dst V us K):o.wp P a w K Q:=by
 obtain ⟨te,ht,_⟩:=w5 hP hte
 split at hl
 · rename_i p v hx hy
   unfold A5 at hl
   split at hl
   · rename_i b off
     split at hl
     · rename_i vs hb
       cases hf:fits S (cellsOf S v) (Ty.sz S (.st u))&&Nat.ble (off+Ty.sz S (.st u)) vs.length with
       | false=>rw [hf] at hl; exact hl.elim
       | true=>
        rw [hf] at hl
        obtain ⟨rfl,rfl⟩:=bg hl
        refine FN hP h hd (V:= .skip) (us:= [(b, .cells (setCells S vs off (cellsOf S v)))]) ho cC ?_ fun a' w' μ' hI hsz=> ?_
        · rw [ht,hx,hy]
          simp only [tP]
          rw [hb]
          dsimp only
          rw [hf]
          rfl
        · have hfr:=hI.uP (aa:=ah env.bx [(b, .bH (setCells S vs off (cellsOf S v)))]) fun i=>by
           by_cases e':i=b
           · subst e'
             exact .inr ⟨_,aI ..,aI ..⟩
           · exact .inl ((aY _ _ e').trans (aY _ _ e').symm)
          exact hK a' w' μ' hfr hsz
     · exact hl.elim
   · exact hl.elim
 · exact hl.elim
theorem G_ (hP:aL P S af) (h:Inv P S w0 M0 s0 dq env a w μ) (hd: ∀ d,o.dst=some d→d<a.tmps.size) {t:TypeId} {x i:Operand} {n u:Nat} {e:Ty} (ho:o.op= .index t x i) (hte:mL S t=some (n,e,u))
 (hl:(match aE S env.tm x,aE S env.tm i with
  | some v,some w=>match w.int? with
   | some (_,j)=>w8 S n e u j v
   | none=> .fail
  | _,_=> .fail).leaf (V,us)) (hK:Goal P S w0 M0 s0 dq env a o.dst V us K):o.wp P a w K Q:=by
 obtain ⟨te,ht,hu,he,h1,hst,hF⟩:=w5 hP hte
 split at hl
 · rename_i v wv hx hi
   obtain ⟨hv,cR⟩:=aW h hx
   obtain ⟨lV,_⟩:=aW h hi
   split at hl
   · rename_i k j hn
     have hin:=iH lV hn
     unfold w8 at hl
     split at hl
     · rename_i vs hcells
       split at hl
       · rename_i l hrow
         obtain ⟨hg,rfl,rfl⟩:=d_ hl
         have g0:0≤j:=hg ⟨0≤j,inferInstance⟩ (by simp [cX,gd])
         have g1:j<(l.length:Int):=hg ⟨j<(l.length:Int),inferInstance⟩ (by simp [cX,gd])
         have p7: ∃ cs,a.eval x= .agg cs∧aB P S w (ay S w0 M0 s0 env.bx μ w) μ env.bx vs cs.toList:=by
          unfold rA at hcells
          split at hcells
          · rename_i u' vs'
            cases hb:Nat.beq u u' with
            | false=>rw [hb] at hcells; cases hcells
            | true=>
             rw [hb] at hcells
             cases hcells
             obtain ⟨cs,g1,g2,g3,g4⟩:=hv
             exact ⟨cs,g1,g4⟩
          · rename_i t' y
            obtain ⟨y',hc,hcells⟩:=Option.bind_eq_some_iff.1 hcells
            cases hcells
            obtain ⟨rfl,rfl⟩:=dm hc
            obtain ⟨ha,m,hr⟩:=hv
            have : ∃ cs,a.eval x= .agg cs:=by
             cases e':a.eval x <;> rw [e'] at ha <;> first | exact ⟨_,rfl⟩ | (simp [Go.Sy.isAgg,aZ] at ha)
            obtain ⟨cs,hcs⟩:=this
            rw [hcs] at hr
            exact ⟨cs,hcs,(kM (P:=P) hP.tobY μ env.bx hr).1⟩
          · cases hcells
         obtain ⟨cs,hcs,cl⟩:=p7
         obtain ⟨sx,gB⟩:=vW hst (aB.take P S n cl) hrow
         rw [List.length_take] at sx
         obtain ⟨c,m',hc,hr'⟩:=gB j.toNat _ (nW g0 g1)
         have fW:cs.toList[j.toNat]? =some c:=by
          rw [List.getElem?_take] at hc
          split at hc
          · exact hc
          · cases hc
         refine wp_pure (V:= .d e (gi S e l j)) h (v:=c) ?_ hd ?_ (by simp [aq,ak]) hK
         · unfold execOp
           simp only [ho,hcs,hin]
           simp [MG hP hu he h1 hst g0 (by omega:j<(n:Int)) fW]
         · have :=vD hr'
           have hm: ∀ ds,ee e ds=ds.headD Go.undef:=by intro ds; cases e <;> first | rfl | simp [aZ] at hst
           rw [hm] at this
           exact this
       · exact hl.elim
     · exact hl.elim
   · exact hl.elim
 · exact hl.elim
theorem BB {w k:Nat} {j:Int} {vs:List (Sy.V S.C)} : ∀ {i m:Nat},(uv S w k j vs i m).leaf (V,us)→ ∃ q,i≤q∧q<i+m∧j=(q:Int)∧V= .agg w ((vs.drop (q*k)).take k)∧us= []
 | _,0,h=>h.elim
 | i,m+1,h=>by
  rcases h with ⟨hj,h⟩ | ⟨_,h⟩
  · obtain ⟨rfl,rfl⟩:=bg h
    exact ⟨i,Nat.le_refl _,by omega,hj,rfl,rfl⟩
  · obtain ⟨q,h1,h2,h3⟩:=BB h
    exact ⟨q,by omega,by omega,h3⟩
theorem MH (hP:aL P S af) {t n te m:Nat} (hu:P.underlying t=some (.array n te)) (he:S.ty te=some (.st m)) {cs:Array Value} {k:IntKind} {q:Nat} (hi:q<n) (hle:q*(S.F m).length+(S.F m).length≤cs.size) (w:World):
 (Instr.index t (.agg cs) (.int k (q:Int))).run P w= .ok (ee (.st m) ((cs.toList.drop (q*(S.F m).length)).take (S.F m).length)) w:=by
 have :=l_ hP he (cs:=cs) (off:=q*(S.F m).length) hle w
 have h0:(0:Int)≤(q:Int):=by omega
 have hi':(q:Int)<(n:Int):=by omega
 have hsz:Ty.sz S (.st m)=(S.F m).length:=rfl
 rw [hsz] at this
 simp only [Instr.index,asIntOf,Sem.run_bind,Sem.run_pure,Result.andThen_ok,run_underlying hu]
 simp only [h0,hi',and_self,if_true,Sem.run_bind,hP.size he w,Result.andThen_ok,hsz,Int.toNat_natCast,this]
theorem G9 (hP:aL P S af) (h:Inv P S w0 M0 s0 dq env a w μ) (hd: ∀ d,o.dst=some d→d<a.tmps.size) {t:TypeId} {x i:Operand} {n m u:Nat} (ho:o.op= .index t x i) (hte:uw S t=some (n,m,u))
 (hl:(match aE S env.tm x,aE S env.tm i with
  | some v,some w=>match rA S u v,w.int? with
   | some vs,some (_,j)=>cond (Nat.beq vs.length (n*(S.F m).length)) (uv S m (S.F m).length j vs 0 n) .fail
   | _,_=> .fail
  | _,_=> .fail).leaf (V,us)) (hK:Goal P S w0 M0 s0 dq env a o.dst V us K):o.wp P a w K Q:=by
 obtain ⟨te,ht,hu,he⟩:=Hf hP hte
 split at hl
 · rename_i v wv hx hi
   obtain ⟨hv,cR⟩:=aW h hx
   obtain ⟨lV,_⟩:=aW h hi
   split at hl
   · rename_i vs k j hcells hn
     have hin:=iH lV hn
     cases hb:Nat.beq vs.length (n*(S.F m).length) with
     | false=>rw [hb] at hl; exact hl.elim
     | true=>
      rw [hb,cond_true] at hl
      have hlen:=Nat.eq_of_beq_eq_true hb
      obtain ⟨q,_,hq,rfl,rfl,rfl⟩:=BB hl
      have p7: ∃ cs:Array Value,a.eval x= .agg cs∧vs.all (bG S)=true∧aB P S w (ay S w0 M0 s0 env.bx μ w) μ env.bx vs cs.toList∧ ∀ V ∈ vs, ∀ i ∈ ak S V,env.bx i≠none:=by
       unfold rA at hcells
       split at hcells
       · rename_i u' vs'
         cases hb:Nat.beq u u' with
         | false=>rw [hb] at hcells; cases hcells
         | true=>
          rw [hb] at hcells
          cases hcells
          obtain ⟨cs,g1,g2,g3,g4⟩:=hv
          exact ⟨cs,g1,g3,g4,fun V hV i hi=>cR i (by simp only [aq,List.mem_flatMap]; exact ⟨V,hV,hi⟩)⟩
       · rename_i t' y
         obtain ⟨y',hc,hcells⟩:=Option.bind_eq_some_iff.1 hcells
         cases hcells
         obtain ⟨rfl,rfl⟩:=dm hc
         obtain ⟨ha,r,hr⟩:=hv
         have : ∃ cs,a.eval x= .agg cs:=by
          cases e':a.eval x <;> rw [e'] at ha <;> first | exact ⟨_,rfl⟩ | (simp [Go.Sy.isAgg,aZ] at ha)
         obtain ⟨cs,hcs⟩:=this
         rw [hcs] at hr
         obtain ⟨x1,x2,x3⟩:=kM (P:=P) hP.tobY μ env.bx hr
         exact ⟨cs,hcs,x2,x1,fun V hV i hi=>by rw [x3 V hV] at hi; simp at hi⟩
       · cases hcells
      obtain ⟨cs,hcs,j9,cl,cC⟩:=p7
      have hcl:cs.size=n*(S.F m).length:=by
       have :=aB.length P S cl
       rw [hlen] at this
       simpa using this
      have hle:q*(S.F m).length+(S.F m).length≤n*(S.F m).length:=by
       have :(q+1)*(S.F m).length≤n*(S.F m).length:=Nat.mul_le_mul_right _ (by omega)
       rw [Nat.add_mul,Nat.one_mul] at this
       exact this
      have hvl:((vs.drop (q*(S.F m).length)).take (S.F m).length).length=(S.F m).length:=by
       rw [List.length_take,List.length_drop]; omega
      refine wp_pure (V:= .agg m ((vs.drop (q*(S.F m).length)).take (S.F m).length)) h (v:= .agg ((cs.toList.drop (q*(S.F m).length)).take (S.F m).length).toArray) ?_ hd
       ⟨_,rfl,hvl, ?_,by rw [List.toList_toArray]; exact aB.take P S _ (aB.drop P S _ cl)⟩ (fun i hi=> ?_) hK
      · unfold execOp
        simp only [ho,hcs,hin]
        simp [MH hP hu he (cs:=cs) (k:=k) (by omega:q<n) (by omega),ee]
      · rw [List.all_eq_true] at j9 ⊢
        exact fun V hV=>j9 V (List.mem_of_mem_drop (List.mem_of_mem_take hV))
      · simp only [aq,List.mem_flatMap] at hi
        obtain ⟨V,hV,hi⟩:=hi
        exact cC V (List.mem_of_mem_drop (List.mem_of_mem_take hV)) i hi
   · exact hl.elim
 · exact hl.elim
end
end Go.Sy
namespace Go.Sy
section
variable {P:Program} {S:aK} {af:Nat→Nat}
variable {w0:World} {M0 s0:St} {dq:List Deferred} {env:Env S.C} {a:Act} {w:World} {μ:Nat→Loc} {K:Act→World→Prop} {Q:Exit→Act→World→Prop} {o:Oper} {V:V S.C} {us:aA S.C}
theorem KN {x y:Operand} {n:Nat} (h:vB x y=some n):x= .const (.int .i64 (n:Int))∧y= .const (.int .i64 (n:Int))∧n≤8:=by
 unfold vB at h
 split at h
 · rename_i p q
   cases hc:Nat.beq p q&&Nat.ble p 8 with
   | false=>rw [hc] at h; cases h
   | true=>
    rw [hc,cond_true] at h
    cases h
    rw [Bool.and_eq_true] at hc
    have e1:=Nat.eq_of_beq_eq_true hc.1
    subst e1
    exact ⟨rfl,rfl,Nat.le_of_ble_eq_true hc.2⟩
 · cases h
theorem Bp {s:St} {bx:Bx S.C} : ∀ (n:Nat) (cs:List Value),cs=List.replicate n (Value.slice none 0 0)→aB P S w s μ bx (List.replicate n (.b8:Sy.V S.C)) cs
 | 0,_,h=>h
 | n+1,_,h=>⟨.slice none 0 0,List.replicate n (.slice none 0 0),h,rfl,Bp n _ rfl⟩
theorem KX (hP:aL P S af) (h:Inv P S w0 M0 s0 dq env a w μ) (hd: ∀ d,o.dst=some d→d<a.tmps.size) {vw:Bool} {B:Nat} {t:TypeId} {x y:Operand} (ho:o.op= .makeSlice t x y)
 (hnew: ∀ u ∈ us,B≤u.1→u.1<B+16→env.bx u.1=none)
 (hl:(match dM S t,aE S env.tm x,aE S env.tm y with
  | some e,some v,some w=>match cond (vw&&zf e&&Nat.ble (af t) 64) (vB x y) none with
   | some n=>ax S (.cj B n) [(B, .cells (List.replicate n .b8))]
   | none=>match v.int?,w.int? with
    | some (.i64,n),some (.i64,m)=>Tr.gd [gd (0≤n),gd (n≤m),gd (m*af t≤limit)] (ax S (.az (B)) [(B, .arr e (List.replicate n.toNat (Ty.zero S e)))])
    | _,_=>Tr.fail
  | _,_,_=>Tr.fail).leaf (V,us)) (hK:Goal P S w0 M0 s0 dq env a o.dst V us K):o.wp P a w K Q:=by
 split at hl
 · rename_i e v u ht hx hy
   split at hl
   · rename_i n hn
     cases hc:(vw&&zf e&&Nat.ble (af t) 64) with
     | false=>rw [hc] at hn; cases hn
     | true=>
     rw [hc,cond_true] at hn
     simp only [Bool.and_eq_true] at hc
     obtain ⟨⟨_,dN⟩,dw⟩:=hc
     have dw:=Nat.le_of_ble_eq_true dw
     obtain ⟨hex,Jq,ON⟩:=KN hn
     obtain ⟨rfl,rfl⟩:=bg hl
     obtain ⟨e1,rfl⟩: ∃ e1,e= .sl e1:=by
      cases e with
      | sl e1=>exact ⟨e1,rfl⟩
      | _=>cases dN
     have ht':=jl ht
     obtain ⟨te,ie,z,hu,hte,hie,hby,cB,_⟩:=hP.sl ht'
     obtain ⟨⟨i,z,h1,h2,h3,h4,h5⟩,_⟩:=hP.ty te _ hte
     rw [hie] at h1
     cases h1
     have hz:z.cells.toList= [.slice none 0 0]:=h5
     have hsz:ie.size=1:=h2
     have hbig:(n:Int)*af t≤512:=by
      have q1:(af t:Int)≤64:=by omega
      have q2:(n:Int)≤8:=by omega
      exact Int.le_trans (Int.mul_le_mul q2 q1 (by omega) (by omega)) (by decide)
     have hrun:=run_make (P:=P) w t te ie z hu hie h3 .i64 .i64 n n (by omega) (Int.le_refl _) (by rw [hby,Int.mul_comm]; omega) (by omega)
     have hB:=hnew _ (List.mem_singleton.2 rfl) (Nat.le_refl _) (by show B<B+16; omega)
     have hcells:(madeCells z.cells (n*1)).toList=List.replicate n (Value.slice none 0 0):=by
      have hzs:z.cells= #[.slice none 0 0]:=by
       have :z.cells=z.cells.toList.toArray:=by simp
       rw [this,hz]
      rw [hzs,Nat.mul_one]
      unfold madeCells
      apply List.ext_getElem
      · simp
      · intro j vf hj2
        simp [Nat.mod_one]
     have nt:=k6 (w:=w) (cs:=madeCells z.cells (n*1)) (t:=te)
     rw [size_madeCells,Nat.mul_one] at nt
     refine nD (i:=B) (B:= .cells (List.replicate n .b8)) (V:= .cj B n) (v:= .slice (some ⟨w.heap.size,0,none⟩) n n) (L:=⟨w.heap.size,0,n,0,false,fun _ _=>False⟩) (w':=w.alloc (.cells (madeCells z.cells (n*1)) te)) h ?_ hd (aO.alloc w _ _) hB (fun b o' hf=>Nat.le_of_eq hf.1.symm)
      (fun hl _ h3=>⟨⟨?_, ?_, ?_,_, ?_,Bp n _ hcells⟩, ?_⟩) (fun vs hvs v hv j hj=> ?_) (fun j hj=> .inl (by simpa [aq,ak] using hj)) hK
     · unfold execOp
       simp only [ho,hex,Jq]
       have :(Instr.makeSlice t (.int .i64 (n:Int)) (.int .i64 (n:Int))).run P w= .ok (.slice (some ⟨w.heap.size,0,none⟩) n n) (w.alloc (.cells (madeCells z.cells (n*1)) te)):=by
        rw [hrun,hsz]; rfl
       simp [this,Act.eval]
     · rw [List.all_eq_true]
       intro v hv
       rw [List.eq_of_mem_replicate hv]; rfl
     · simp
     · simpa using nt.1
     · simpa using nt.2
     · show Value.slice _ n n= .slice (some ⟨(ai μ B _ B).b,(ai μ B _ B).o,none⟩) n n
       rw [aI]
     · have :v= .b8:=by
        rcases hvs with hvs | hvs
        · cases hvs; exact List.eq_of_mem_replicate hv
        · cases hvs
       rw [this] at hj
       simp [ak] at hj
   · exact KZ hP h hd ho hnew (by rw [ht,hx,hy]; exact hl) hK
 · exact hl.elim
theorem F4 {e:Ty} : ∀ {vs:List (Sy.V S.C)} {l:List (List (e.den S.C))},qQ S e vs=some l→l.length=vs.length
 | [],l,h=>by cases h; rfl
 | v::vs,l,h=>by
  cases v with
  | aP b e' x=>
   simp only [qQ] at h
   obtain ⟨y,hy,h⟩:=Option.bind_eq_some_iff.1 h
   obtain ⟨r,hr,h⟩:=Option.bind_eq_some_iff.1 h
   cases h
   show (y::r).length=_
   simp only [List.length_cons]
   exact congrArg (· +1) (F4 hr)
  | _=>cases h
theorem F3 {s:St} {bx:Bx S.C} {e:Ty} : ∀ {vs:List (Sy.V S.C)} {l:List (List (e.den S.C))} {cs:List Value},qQ S e vs=some l→aB P S w s μ bx vs cs→ ∀ (i:Nat) (x:List (e.den S.C)),l[i]? =some x→ ∃ c,cs[i]? =some c∧bT S w s (.sl e) x c
 | [],l,cs,h,_,i,x,hx=>by cases h; simp at hx
 | v::vs,l,cs,h,⟨c,r,hc,h1,h2⟩,i,x,hx=>by
  cases v with
  | aP b e' y=>
   simp only [qQ] at h
   obtain ⟨z,hz,h⟩:=Option.bind_eq_some_iff.1 h
   obtain ⟨q,hq,h⟩:=Option.bind_eq_some_iff.1 h
   cases h
   subst hc
   cases i with
   | zero=>
    have hx:some z=some x:=hx
    cases hx
    refine ⟨c,rfl, ?_⟩
    obtain ⟨he,hz⟩:=dm hz
    cases he
    cases hz
    exact h1.1
   | succ i=>
    have hx:q[i]? =some x:=hx
    exact F3 hq h2 i x hx
  | _=>cases h
theorem Hg {nl:Bool} (h:Inv P S w0 M0 s0 dq env a w μ) (hd: ∀ d,o.dst=some d→d<a.tmps.size) {x:Operand} {B:Nat} {ids:List Nat} (ho:execOp a.eval o=pure (.value (a.eval x)))
 (hnew: ∀ u ∈ us,B≤u.1→u.1<B+16→env.bx u.1=none)
 (hl:(match aE S env.tm x with
  | some .b8=>cond nl (ax S .b8 []) (match dM S o.type with
   | some e=>ax S (.aP B e []) [(B, .tail)]
   | none=> .fail)
  | some (.cj b n)=>settle S (dM S o.type) (restrict S env.bx ids) b n
  | some v=>ax S v []
  | none=> .fail).leaf (V,us)) (hK:Goal P S w0 M0 s0 dq env a o.dst V us K):o.wp P a w K Q:=by
 have hrun:(execOp a.eval o).run P w= .ok (.value (a.eval x)) w:=by rw [ho]; rfl
 split at hl
 · rename_i hx
   exact zv (nl:=nl) h hd (x:=x) (B:=B) ho hnew (by rw [hx]; exact hl) hK
 · rename_i b n hx
   obtain ⟨hv,hr⟩:=aW h hx
   unfold settle at hl
   split at hl
   · rename_i vs hb
     have hb:=dD hb
     split at hl
     · obtain ⟨rfl,rfl⟩:=bg hl
       exact wp_pure h hrun hd hv hr hK
     · split at hl
       · rename_i e he
         split at hl
         · rename_i l hlr
           cases hn:Nat.beq n vs.length with
           | false=>rw [hn] at hl; exact hl.elim
           | true=>
            rw [hn,cond_true] at hl
            have hn:=Nat.eq_of_beq_eq_true hn
            obtain ⟨rfl,rfl⟩:=bg hl
            have hall: ∀ i,ah env.bx [(b,b7.bH vs)] i=env.bx i∨ ∃ ws,env.bx i=some (.cells ws)∧ah env.bx [(b,b7.bH vs)] i=some (.bH ws):=fun i=>by
             by_cases e:i=b
             · subst e; exact .inr ⟨vs,hb,aI _ _ _⟩
             · exact .inl (aY _ _ e)
            have hI:=h.uP hall
            obtain ⟨_,cs,cu,cl⟩:=hI.bw b (.bH vs) (aI _ _ _)
            have sx:=F4 hlr
            have hv:a.eval x= .slice (some ⟨(μ b).b,(μ b).o,none⟩) n n:=hv
            unfold Oper.wp
            rw [hrun]
            refine hK _ w μ (hI.put hd (V:= .d (.sl (.sl e)) l) ?_ (by simp [aq,ak])) ?_
            · rw [hv,hn, ← sx]
              refine AZ (Nat.le_refl _) fun i y hy=> ?_
              obtain ⟨c,hc,ha,m,hm⟩:=F3 hlr cl i y hy
              refine ⟨[c],rfl,fun j u hj=> ?_,m, ?_⟩
              · cases j with
                | zero=>
                 simp at hj
                 subst hj
                 have :=cu i c hc
                 rw [show i*Ty.sz S (.sl e)=i from Nat.mul_one i]
                 exact this
                | succ j=>simp at hj
              · rwa [av.jV ha rfl] at hm
            · cases o.dst <;> simp [Act.put]
         · exact hl.elim
       · exact hl.elim
   · exact hl.elim
 · rename_i v JS OO hx
   refine zv (nl:=nl) h hd (x:=x) (B:=B) ho hnew ?_ hK
   rw [hx]
   cases v with
   | b8=>exact absurd rfl JS
   | _=>exact hl
 · exact hl.elim
theorem Io (hP:aL P S af) (h:Inv P S w0 M0 s0 dq env a w μ) (hd: ∀ d,o.dst=some d→d<a.tmps.size) {op:BinOp} {t t':TypeId} {x:Operand} (ho:o.op= .binOp op t x (.const .nilIface) t')
 (hl:(match aE S env.tm x with
  | some (.err b)=>cond (S.ou t) (match op with
   | .eql=>ax S (.d .bool b) []
   | .neq=>ax S (.d .bool (Bool.not b)) []
   | _=> .fail) .fail
  | _=> .fail).leaf (V,us)) (hK:Goal P S w0 M0 s0 dq env a o.dst V us K):o.wp P a w K Q:=by
 split at hl
 · rename_i b hx
   obtain ⟨hv,_⟩:=aW h hx
   have hv:wG b (a.eval x):=hv
   cases hi:S.ou t with
   | false=>rw [hi] at hl; exact hl.elim
   | true=>
    rw [hi,cond_true] at hl
    obtain ⟨ms,hu⟩:=hP.ou t hi
    have hif:P.isIface t=true:=by unfold Program.isIface; rw [hu]
    have hg:(eqGuard op t x (.const .nilIface) (a.eval x) .nilIface).run P w= .ok () w:=by
     cases b with
     | true=>
      have hv:a.eval x= .nilIface:=hv
      rw [hv,eqGuard_nil_constR]; rfl
     | false=>
      obtain ⟨u,p,hv⟩:=hv
      rw [hv]
      exact xM rfl w
    have fin: ∀ r:Bool,V= .d .bool r→us= []→(binOp op t (a.eval x) .nilIface).run P w= .ok (.bool r) w→o.wp P a w K Q:=by
     rintro r rfl rfl hr
     refine wp_pure h (V:= .d .bool r) (v:= .bool r) ?_ hd (lN ..) (by simp [aq,ak]) hK
     unfold execOp
     simp only [ho]
     have e:a.eval (.const .nilIface)= .nilIface:=rfl
     rw [e]
     simp [hg,hr]
    split at hl
    · obtain ⟨h1,h2⟩:=bg hl
      refine fin b h1 h2 ?_
      cases b with
      | true=>
       have hv:a.eval x= .nilIface:=hv
       rw [hv]; exact run_eql_nil_nil_at w t hif
      | false=>
       obtain ⟨u,p,hv⟩:=hv
       rw [hv]; exact run_eql_iface_nil w t hif u p
    · obtain ⟨h1,h2⟩:=bg hl
      refine fin (Bool.not b) h1 h2 ?_
      cases b with
      | true=>
       have hv:a.eval x= .nilIface:=hv
       rw [hv]; exact run_neq_nil_nil_at w t hif
      | false=>
       obtain ⟨u,p,hv⟩:=hv
       rw [hv]; exact run_neq_iface_nil w t hif u p
    · exact hl.elim
 · exact hl.elim
theorem zB {T:gy S} {B:Nat} {op:BinOp} {t t' ty:TypeId} {x y:Operand} {tm:Nat→Sy.V S.C} {bx:Bx S.C} (hy:y≠ .const .nilIface):
 bZ S T af B (.binOp op t x y t') ty tm bx=cond (S.eq t) (match aE S tm x,aE S tm y with
 | some a,some b=>structEq S op t a b
 | _,_=> .fail) (match aE S tm x,aE S tm y with
 | some a,some b=>match ux S op t a b with
  | some (gs,v)=> .gd gs (ax S v [])
  | none=> .fail
 | _,_=> .fail):=by
 cases y with
 | const v=>cases v <;> first | rfl | exact absurd rfl hy
 | _=>rfl
end
end Go.Sy
