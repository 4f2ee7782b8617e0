import Derived.Test.YtabknfplmamfmaaGreatDoorLActRightsa
set_option linter.unusedVariables false
set_option linter.unusedSimpArgs false
namespace Go.Sy.Ex
open Go.Sy
theorem DB (k:Nat) (s:aE):dR (k+1) s 6=(qo (dR k) s).bind fun r1=>some (af.mk r1.1.Kind r1.1.N r1.1.Name r1.1.Kids r1.1.At,r1.2):=by
 show oM (dR k) k s 6=_
 unfold oM
 rw [if_pos rfl]
theorem P6 {t:T} {K:List Tk} {n:Nat} (h:Sg t K n):P t K n 6:=fun l i o hl hs hi ho _=>by
 obtain ⟨e,Z,Z2,he,hr⟩:=h l i o hl hs hi ho
 refine ⟨e,Z+1,he,fun k hk=> ?_⟩
 obtain ⟨k,rfl⟩: ∃ j,k=j+1:=⟨k - 1,by omega⟩
 rw [DB,show qo (dR k) (st l i o)=some (e,st l (i+K.length) o) from cu Z2 fun j hj=>hr k (by omega) j hj,aa,eta]
theorem EX {t:T} {K:List Tk} {n:Nat} {m:Int} (h1:1≤m) (h:Qp t K n m):P t K n m:=fun l i o hl hs hi ho hv=>by
 obtain ⟨e,Z,j,he,hj,hr⟩:=h l i o hl hs hi ho (by omega)
 refine ⟨e,Z+1,he,fun k hk=> ?_⟩
 obtain ⟨k,rfl⟩: ∃ j,k=j+1:=⟨k - 1,by omega⟩
 rw [hr k (by omega)]
 exact It k _ l _ o h1 hi (by omega) e (by omega)
theorem A0 {t:T} {K:List Tk} {n:Nat} {m:Int} (h1:1≤m) (h5:m≤5) (h:P t K n (m+1)):Qp t K n m:=fun l i o hl hs hi ho hv=>by
 obtain ⟨e,Z,he,hr⟩:=h l i o hl hs hi ho (by omega)
 exact ⟨e,Z+1,0,he,by omega,fun k hk=>by rw [zw k l i o h1 h5 (hr k (by omega)),Nat.sub_zero]⟩
theorem EW {t:T} {K:List Tk} {n:Nat} {m:Int} (h1:1≤m) (h5:m≤5) (h:P t K n (m+1)):P t K n m:=EX h1 (A0 h1 h5 h)
theorem nU {c:Prop} [Decidable c] (h: ¬ c) (K:List Tk):mV c K=K:=if_neg h
theorem Sk {c:Prop} [Decidable c] (h:c) (K:List Tk):mV c K=(3,bK,0)::K++ [(3,bw,0)]:=if_pos h
theorem iM {c:Prop} [Decidable c] (h: ¬ c) (n:Nat):jQ c n=n:=if_neg h
theorem Sj {c:Prop} [Decidable c] (h:c) (n:Nat):jQ c n=n+1:=if_pos h
theorem uz {t:ax} {tx:List UInt8} (h:strip t=(3,tx,0)):iY t=(cC tx).2:=by
 unfold strip at h
 simp only [Prod.mk.injEq] at h
 unfold iY
 rw [if_pos h.1,h.2.1]
theorem AK {k:Int} (h:7≤k∧k≤19):cC (dD k)=(k,lvl k):=by
 have hk:k=7∨k=8∨k=9∨k=10∨k=11∨k=12∨k=13∨k=14∨k=15∨k=16∨k=17∨k=18∨k=19:=by omega
 rcases hk with rfl | rfl | rfl | rfl | rfl | rfl | rfl | rfl | rfl | rfl | rfl | rfl | rfl <;> decide
theorem Li {k:Int} {x y:T} {Kx Ky:List Tk} {nx ny:Nat} (hk:7≤k∧k≤19) (h3:lvl k≠3) (hx:Qp x Kx nx (lvl k)) (hy:P y Ky ny (lvl k+1)):Qp (.bin k x y) (Kx++(3,dD k,0)::Ky) (max nx ny) (lvl k):=fun l i o hl hs hi ho hv=>by
 have hr:=(mG hk.1 hk.2).2
 simp only [List.length_append,List.length_cons] at hi hv ⊢
 obtain ⟨qV,vI,hop,qW⟩:=Seq.append.1 hs
 obtain ⟨e,Z,j,he,hj,vR⟩:=hx l i o hl qV vI (by omega) (by rw [uz hop,AK hk]; exact Int.le_refl _)
 have hlen:i+Kx.length+1+Ky.length=i+(Kx.length+(Ky.length+1)):=by omega
 obtain ⟨f,Z',hf,hr2⟩:=hy l (i+Kx.length+1) o hl qW (by omega) (by omega) (by rw [hlen]; omega)
 refine ⟨af.mk k 0 [] [e,f] (aj l (i+Kx.length)).At,max Z Z'+2,j+1,⟨rfl,rfl,rfl,e,f,rfl,he,hf⟩,by omega,fun q hq=> ?_⟩
 rw [vR q (by omega),show q - j=(q - (j+1))+1 from by omega]
 rw [Iu q _ l hl _ o hr.1 hr.2 vI hop (AK hk) e (hr2 q (by omega)),if_neg h3,hlen]
theorem MQ {k:Int} {x y:T} {Kx Ky:List Tk} {nx ny:Nat} (hk:7≤k∧k≤19) (h3:lvl k=3) (hx:P x Kx nx 4) (hy:P y Ky ny 4) (l:List ax) (i o:Nat) (hl:l.length≤100000) (hs:Seq l i (Kx++(3,dD k,0)::Ky)) (hi:i+(Kx++(3,dD k,0)::Ky).length<l.length) (ho:o+max nx ny≤12) (hv:iY (aj l (i+(Kx++(3,dD k,0)::Ky).length))<4):
 ∃ e Z,Is (.bin k x y) e∧ ∀ q,Z≤q→dR q (st l i o) 3=some (e,st l (i+(Kx++(3,dD k,0)::Ky).length) o):=by
 simp only [List.length_append,List.length_cons] at hi hv ⊢
 obtain ⟨qV,vI,hop,qW⟩:=Seq.append.1 hs
 obtain ⟨e,Z,he,vR⟩:=hx l i o hl qV vI (by omega) (by rw [uz hop,AK hk,h3]; show (3:Int)<4; decide)
 have hlen:i+Kx.length+1+Ky.length=i+(Kx.length+(Ky.length+1)):=by omega
 obtain ⟨f,Z',hf,hr2⟩:=hy l (i+Kx.length+1) o hl qW (by omega) (by omega) (by rw [hlen]; omega)
 refine ⟨af.mk k 0 [] [e,f] (aj l (i+Kx.length)).At,max Z Z'+2,⟨rfl,rfl,rfl,e,f,rfl,he,hf⟩,fun q hq=> ?_⟩
 obtain ⟨q,rfl⟩: ∃ j,q=j+2:=⟨q - 2,by omega⟩
 rw [zw (q+1) l i o (by decide) (by decide) (vR (q+1) (by omega))]
 rw [Iu (q+1) q l hl _ o (by decide) (by decide) vI hop (by rw [AK hk,h3]) e (hr2 (q+1) (by omega)),if_pos rfl,hlen]
theorem Lg {k:Int} {x y:T} {Kx Ky:List Tk} {nx ny:Nat} (hk:7≤k∧k≤19) (h3:lvl k=3) (hx:P x Kx nx 4) (hy:P y Ky ny 4):P (.bin k x y) (Kx++(3,dD k,0)::Ky) (max nx ny) 3:=fun l i o hl hs hi ho hv=>MQ hk h3 hx hy l i o hl hs hi ho (by omega)
theorem tw {l:List ax} {i o:Nat} (hi:i<l.length) {k:Int} {s:List UInt8} {n:Int} (h:strip (aj l i)=(k,s,n)) (s':List UInt8) (b:Bool) (hb:b=decide ((k=3∨k=1)∧s=s')):jT (st l i o) s'=some (b,st l i o):=by
 rw [v8 hi]
 unfold strip at h
 simp only [Prod.mk.injEq] at h
 unfold br
 rw [h.1,h.2.1,hb]
theorem uC {l:List ax} {i o:Nat} (hi:i<l.length) (hl:l.length≤100000) {k:Int} {s:List UInt8} {n:Int} (h:strip (aj l i)=(k,s,n)) (s':List UInt8) (b:Bool) (hb:b=decide ((k=3∨k=1)∧s=s')):mj (st l i o) s'=some (b,if b=true then st l (i+1) o else st l i o):=by
 rw [xy hi hl]
 unfold strip at h
 simp only [Prod.mk.injEq] at h
 unfold br
 rw [h.1,h.2.1,hb]
theorem xk {self:aE→Int→Option (af×aE)} {l:List ax} {i o:Nat} (hi:i<l.length) {k:Int} {s:List UInt8} {n:Int} (h:strip (aj l i)=(k,s,n)) (h1:decide ((k=3∨k=1)∧s=dA)=false) (h2:decide ((k=3∨k=1)∧s=gN)=false) (k2:Nat) {e:af} {st':aE} (hp:gD self (st l i o)=some (e,st')):
 gZ self (k2+1) (st l i o)=some (e,st'):=by
 show oN (gZ self k2) self k2 (st l i o)=_
 unfold oN
 rw [ic hi,aa]
 dsimp only
 rw [tw hi h dA false h1.symm,aa]
 dsimp only [cond_false]
 rw [tw hi h gN false h2.symm,aa]
 dsimp only [cond_false]
 rw [hp,aa,eta]
theorem fR {t:ax} {k:Int} {s:List UInt8} {n:Int} (h:strip t=(k,s,n)):t.Kind=k∧t.Text=s∧t.N=n:=by
 unfold strip at h
 simpa only [Prod.mk.injEq] using h
theorem Ls {n:Int} :Sg (.num n) [(2,Lib.itoa n,n)] 0:=fun l i o hl hs hi ho=>by
 obtain ⟨h1,h2, -⟩:=hs
 refine ⟨af.mk 1 n [] [] (aj l i).At,0,1,⟨rfl,rfl,rfl,rfl⟩,fun k _ k2 hk2=> ?_⟩
 obtain ⟨k2,rfl⟩: ∃ j,k2=j+1:=⟨k2 - 1,by omega⟩
 refine xk h1 h2 (by rw [decide_eq_false_iff_not]; rintro ⟨h | h,_⟩ <;> cases h) (by rw [decide_eq_false_iff_not]; rintro ⟨h | h,_⟩ <;> cases h) k2 ?_
 unfold gD
 rw [ic h1,aa]
 dsimp only
 rw [if_pos (fR h2).1,(fR h2).2.2]
 show some (_,(⟨⟨l,ag (((i:Nat):Int)+1),⟨0,0⟩⟩,(o:Int)⟩:aE))=_
 rw [ig h1 hl]; rfl
theorem Dm {s:List UInt8} (h:bT s=true) {c:UInt8} (hc:lt c=false) (u:List UInt8):s≠c::u:=fun e=>by
 have :=(eB h).2.2.2.1
 rw [e] at this
 rw [List.getD_cons_zero] at this
 rw [hc] at this; cases this
theorem Lv {s:List UInt8} (h:bT s=true):Sg (.var s) [(1,s,0)] 0:=fun l i o hl hs hi ho=>by
 obtain ⟨h1,h2, -⟩:=hs
 refine ⟨af.mk 2 0 s [] (aj l i).At,0,1,⟨rfl,rfl,rfl,rfl⟩,fun k _ k2 hk2=> ?_⟩
 obtain ⟨k2,rfl⟩: ∃ j,k2=j+1:=⟨k2 - 1,by omega⟩
 refine xk h1 h2 (by rw [decide_eq_false_iff_not]; rintro ⟨_,h'⟩; exact Dm h (by decide) _ h') (by rw [decide_eq_false_iff_not]; rintro ⟨_,h'⟩; exact Dm h (by decide) _ h') k2 ?_
 unfold gD
 rw [ic h1,aa]
 dsimp only
 rw [if_neg (by rw [(fR h2).1]; decide)]
 rw [uC h1 hl h2 jB false (by symm; rw [decide_eq_false_iff_not]; rintro ⟨_,h'⟩; exact Dm h (by decide) _ h'),aa]
 dsimp only [cond_false]
 rw [if_neg (by decide),tA h1,aa]
 dsimp only
 rw [(fR h2).1,(fR h2).2.1,(eB h).2.2.1]
 simp only [decide_true,Bool.not_false,Bool.and_true,cond_true]
 rw [zq h1 hl (fR h2).1 (by rw [(fR h2).2.1]; exact (eB h).2.2.1),aa,(fR h2).2.1]
 rfl
theorem Lq:Sg .arg [(3,jB,0)] 0:=fun l i o hl hs hi ho=>by
 obtain ⟨h1,h2, -⟩:=hs
 refine ⟨af.mk 3 0 [] [] (aj l i).At,0,1,⟨rfl,rfl,rfl,rfl⟩,fun k _ k2 hk2=> ?_⟩
 obtain ⟨k2,rfl⟩: ∃ j,k2=j+1:=⟨k2 - 1,by omega⟩
 refine xk h1 h2 (by decide) (by decide) k2 ?_
 unfold gD
 rw [ic h1,aa]
 dsimp only
 rw [if_neg (by rw [(fR h2).1]; decide)]
 rw [uC h1 hl h2 jB true (by decide),aa]
 rfl
theorem Lr {s:List UInt8} (h:bT s=true):Sg (.d_ s) [(1,gu,0),(3,bK,0),(1,s,0),(3,bw,0)] 0:=fun l i o hl hs hi ho=>by
 obtain ⟨h1,h2,h3,h4,h5,h6,h7,h8, -⟩:=hs
 refine ⟨af.mk 4 0 s [] (aj l i).At,0,1,⟨rfl,rfl,rfl,rfl⟩,fun k _ k2 hk2=> ?_⟩
 obtain ⟨k2,rfl⟩: ∃ j,k2=j+1:=⟨k2 - 1,by omega⟩
 refine xk h1 h2 (by decide) (by decide) k2 ?_
 unfold gD
 rw [ic h1,aa]
 dsimp only
 rw [if_neg (by rw [(fR h2).1]; decide)]
 rw [uC h1 hl h2 jB false (by decide),aa]
 dsimp only [cond_false]
 rw [if_neg (by decide),tA h1,aa]
 dsimp only
 rw [(fR h2).2.1,show (!fI gu)=false from by decide]
 simp only [Bool.and_false,cond_false]
 rw [uC h1 hl h2 gu true (by decide),aa]
 dsimp only [cond_true]
 rw [if_pos rfl,si h3 hl (iJ h4 (Or.inl rfl)),aa]
 rw [zq h5 hl (fR h6).1 (by rw [(fR h6).2.1]; exact (eB h).2.2.1),aa,(fR h6).2.1]
 dsimp only
 rw [si h7 hl (iJ h8 (Or.inl rfl)),aa]
 rfl
theorem Lt {t:T} {K:List Tk} {n:Nat} (h:P t K n 1):Sg t ((3,bK,0)::K++ [(3,bw,0)]) (n+1):=fun l i o hl hs hi ho=>by
 simp only [List.length_append,List.length_cons,List.length_nil] at hi ⊢
 obtain ⟨⟨h1,h2,h3⟩,hr⟩:=Seq.append.1 hs
 obtain ⟨h4,h5, -⟩:=hr
 simp only [List.length_cons] at h4 h5
 have hlen:i+1+K.length=i+(K.length+1):=by omega
 obtain ⟨e,Z,he,hp⟩:=h l (i+1) (o+1) hl h3 (by omega) (by omega) (by rw [hlen,uz h5]; decide)
 refine ⟨e,Z,1,he,fun k hk k2 hk2=> ?_⟩
 obtain ⟨k2,rfl⟩: ∃ j,k2=j+1:=⟨k2 - 1,by omega⟩
 refine xk h1 h2 (by decide) (by decide) k2 ?_
 unfold gD
 rw [ic h1,aa]
 dsimp only
 rw [if_neg (by rw [(fR h2).1]; decide)]
 rw [uC h1 hl h2 jB false (by decide),aa]
 dsimp only [cond_false]
 rw [if_neg (by decide),tA h1,aa]
 dsimp only
 rw [show decide ((aj l i).Kind=1)=false from by rw [(fR h2).1]; decide]
 simp only [Bool.false_and,cond_false]
 rw [uC h1 hl h2 gu false (by decide),aa]
 dsimp only [cond_false]
 rw [if_neg (by decide),tw h1 h2 bK true (by decide),aa]
 dsimp only [Bool.not_true,cond_false]
 rw [oL h1 hl (by omega),aa]
 dsimp only [Bool.not_true,cond_false]
 rw [hp k hk,aa]
 dsimp only
 rw [hlen,si h4 hl (iJ h5 (Or.inl rfl)),aa,eta]
 show some (e,(⟨⟨l,((i+(K.length+1)+1:Nat):Int),⟨0,0⟩⟩,ag (((o+1:Nat):Int) - 1)⟩:aE))=_
 rw [show ag (((o+1:Nat):Int) - 1)=(o:Int) from by rw [bD (by omega) (by omega)]; omega]
 rfl
theorem Lu {k:Int} {t:T} {K:List Tk} {n:Nat} (hk:k=5∨k=6) (h:Sg t K n):Sg (.un k t) ((3,if k=5 then dA else gN,0)::K) (n+1):=fun l i o hl hs hi ho=>by
 simp only [List.length_cons] at hi ⊢
 obtain ⟨h1,h2,h3⟩:=hs
 have hlen:i+1+K.length=i+(K.length+1):=by omega
 obtain ⟨e,Z,Z2,he,hr⟩:=h l (i+1) (o+1) hl h3 (by omega) (by omega)
 refine ⟨af.mk k 0 [] [e] (aj l i).At,Z,Z2+1,⟨rfl,rfl,rfl,e,rfl,he⟩,fun q hq k2 hk2=> ?_⟩
 obtain ⟨k2,rfl⟩: ∃ j,k2=j+1:=⟨k2 - 1,by omega⟩
 show oN (gZ (dR q) k2) (dR q) k2 (st l i o)=_
 unfold oN
 rw [ic h1,aa]
 dsimp only
 have hw:ag (((o+1:Nat):Int) - 1)=(o:Int):=by rw [bD (by omega) (by omega)]; omega
 rcases hk with rfl | rfl
 · rw [if_pos rfl] at h2
   rw [tw h1 h2 dA true (by decide),aa]
   dsimp only [cond_true]
   rw [oL h1 hl (by omega),aa]
   dsimp only [Bool.not_true,cond_false]
   rw [hr q hq k2 (by omega),aa,eta,hlen]
   show some (_,(⟨⟨l,((i+(K.length+1):Nat):Int),⟨0,0⟩⟩,ag (((o+1:Nat):Int) - 1)⟩:aE))=_
   rw [hw]; rfl
 · rw [if_neg (by decide)] at h2
   rw [tw h1 h2 dA false (by decide),aa]
   dsimp only [cond_false]
   rw [tw h1 h2 gN true (by decide),aa]
   dsimp only [cond_true]
   rw [oL h1 hl (by omega),aa]
   dsimp only [Bool.not_true,cond_false]
   rw [hr q hq k2 (by omega),aa,eta,hlen]
   show some (_,(⟨⟨l,((i+(K.length+1):Nat):Int),⟨0,0⟩⟩,ag (((o+1:Nat):Int) - 1)⟩:aE))=_
   rw [hw]; rfl
def nu (t:T):Prop:=Sg t (toks t 6) (aT t 6)∧(∀ m:Int,1≤m→m≤6→P t (toks t m) (aT t m) m)∧ ∀ m:Int,1≤m→m≤5→m≠3→Qp t (toks t m) (aT t m) m
theorem down {t:T} {K:List Tk} {n:Nat} (h6:P t K n 6): ∀ (j:Nat) (m:Int),m=6 - (j:Int)→1≤m→P t K n m
 | 0, m, hm, _ => by have : m = 6 := by omega
                     subst this; exact h6
 | j+1,m,hm,hl=>EW (by omega) (by omega) (down h6 j (m+1) (by omega) (by omega))
theorem BG {t:T} {K:List Tk} {n:Nat} {a:Int} (ha:a≤6) (h6:P t K n a): ∀ (j:Nat) (m:Int),m=a - (j:Int)→1≤m→P t K n m
 | 0, m, hm, _ => by have : m = a := by omega
                     subst this; exact h6
 | j+1,m,hm,hl=>EW (by omega) (by omega) (BG ha h6 j (m+1) (by omega) (by omega))
theorem Sg.at {t:T} {K:List Tk} {n:Nat} (h:Sg t K n) (m:Int) (h1:1≤m) (h6:m≤6):P t K n m:=down (P6 h) (6 - m).toNat m (by omega) h1
theorem uK {t:T} {K:List Tk} {n:Nat} (hS:Sg t K n) (hs: ∀ m:Int,1≤m→m≤6→toks t m=K∧aT t m=n):nu t:=by
 have hP: ∀ m:Int,1≤m→m≤6→P t (toks t m) (aT t m) m:=fun m h1 h6=>by rw [(hs m h1 h6).1,(hs m h1 h6).2]; exact hS.at m h1 h6
 refine ⟨?_,hP,fun m h1 h5 _=> ?_⟩
 · rw [(hs 6 (by decide) (by decide)).1,(hs 6 (by decide) (by decide)).2]; exact hS
 · rw [(hs m h1 (by omega)).1,(hs m h1 (by omega)).2]
   exact A0 h1 h5 (hS.at (m+1) (by omega) (by omega))
theorem K6 {k:Int} {x y:T} (hk:7≤k∧k≤19) (hx:nu x) (hy:nu y):nu (.bin k x y):=by
 have hr:=(mG hk.1 hk.2).2
 have hb:toks x (b9 k)++(3,dD k,0)::toks y (cB k)=toks (.bin k x y) 1∧max (aT x (b9 k)) (aT y (cB k))=aT (.bin k x y) 1:=by
  simp only [toks,aT]; rw [nU (by omega),iM (by omega)]; exact ⟨rfl,rfl⟩
 have hlo: ∀ m:Int,m≤lvl k→toks (.bin k x y) m=toks (.bin k x y) 1∧aT (.bin k x y) m=aT (.bin k x y) 1:=fun m hm=>by
  simp only [toks,aT]; rw [nU (by omega),nU (by omega),iM (by omega),iM (by omega)]; exact ⟨rfl,rfl⟩
 have hhi: ∀ m:Int,lvl k<m→toks (.bin k x y) m=(3,bK,0)::toks (.bin k x y) 1++ [(3,bw,0)]∧aT (.bin k x y) m=aT (.bin k x y) 1+1:=fun m hm=>by
  simp only [toks,aT]; rw [Sk (by omega),nU (by omega),Sj (by omega),iM (by omega)]; exact ⟨rfl,rfl⟩
 have hQ:lvl k≠3→Qp (.bin k x y) (toks (.bin k x y) 1) (aT (.bin k x y) 1) (lvl k):=fun h3=>by
  have hlf:b9 k=lvl k:=by unfold b9; rw [if_neg h3]
  have oU:cB k=lvl k+1:=by unfold cB; rw [if_neg h3]
  rw [← hb.1, ← hb.2,hlf,oU]
  exact Li hk h3 (hx.2.2 (lvl k) hr.1 hr.2 h3) (hy.2.1 (lvl k+1) (by omega) (by omega))
 have hP:P (.bin k x y) (toks (.bin k x y) 1) (aT (.bin k x y) 1) (lvl k):=by
  by_cases h3:lvl k=3
  · have hlf:b9 k=4:=by unfold b9; rw [if_pos h3]
    have oU:cB k=4:=by unfold cB; rw [if_pos h3]
    rw [← hb.1, ← hb.2,hlf,oU,h3]
    exact Lg hk h3 (hx.2.1 4 (by decide) (by decide)) (hy.2.1 4 (by decide) (by decide))
  · exact EX hr.1 (hQ h3)
 have hS:Sg (.bin k x y) (toks (.bin k x y) 6) (aT (.bin k x y) 6):=by
  rw [(hhi 6 (by omega)).1,(hhi 6 (by omega)).2]
  exact Lt (BG (by omega) hP (lvl k - 1).toNat 1 (by omega) (by decide))
 have GQ: ∀ m:Int,1≤m→m≤6→P (.bin k x y) (toks (.bin k x y) m) (aT (.bin k x y) m) m:=fun m h1 h6=>by
  by_cases h:m≤lvl k
  · rw [(hlo m h).1,(hlo m h).2]
    exact BG (by omega) hP (lvl k - m).toNat m (by omega) h1
  · rw [(hhi m (by omega)).1,(hhi m (by omega)).2, ← (hhi 6 (by omega)).1, ← (hhi 6 (by omega)).2]
    exact hS.at m h1 h6
 refine ⟨hS,GQ,fun m h1 h5 h3=> ?_⟩
 by_cases h:m=lvl k
 · subst h
   rw [(hlo _ (Int.le_refl _)).1,(hlo _ (Int.le_refl _)).2]
   exact hQ h3
 · have e:toks (.bin k x y) m=toks (.bin k x y) (m+1)∧aT (.bin k x y) m=aT (.bin k x y) (m+1):=by
    by_cases hm:m<lvl k
    · rw [(hlo m (by omega)).1,(hlo m (by omega)).2,(hlo (m+1) (by omega)).1,(hlo (m+1) (by omega)).2]; exact ⟨rfl,rfl⟩
    · rw [(hhi m (by omega)).1,(hhi m (by omega)).2,(hhi (m+1) (by omega)).1,(hhi (m+1) (by omega)).2]; exact ⟨rfl,rfl⟩
   rw [e.1,e.2]
   exact A0 h1 h5 (GQ (m+1) (by omega) (by omega))
theorem xU: ∀ t:T,t.ok→nu t
 | .num n,h=>uK Ls fun m h1 h6=>by simp only [toks,aT]; rw [nU (by omega),iM (by omega)]; exact ⟨rfl,rfl⟩
 | .var s,h=>uK (Lv h) fun m h1 h6=>by simp only [toks,aT]; rw [nU (by omega),iM (by omega)]; exact ⟨rfl,rfl⟩
 | .arg,h=>uK Lq fun m h1 h6=>by simp only [toks,aT]; rw [nU (by omega),iM (by omega)]; exact ⟨rfl,rfl⟩
 | .d_ s,h=>uK (Lr h) fun m h1 h6=>by simp only [toks,aT]; rw [nU (by omega),iM (by omega)]; exact ⟨rfl,rfl⟩
 | .un k t,h=>uK (Lu h.1 (xU t h.2).1) fun m h1 h6=>by simp only [toks,aT]; rw [nU (by omega),iM (by omega)]; exact ⟨rfl,rfl⟩
 | .bin k x y,h=>K6 h.1 (xU x h.2.1) (xU y h.2.2)
theorem Mp {t:T} (h:t.ok):P t (toks t 1) (aT t 1) 1:=(xU t h).2.1 1 (by decide) (by decide)
end Go.Sy.Ex
namespace Go.Sy.Ex
open Go.Sy
def h2 (y:UInt8):Bool:= !decide (y=61∨y=62∨y=38∨y=124)
def h1 (x:UInt8):Bool:= !decide (x=45∨x=61∨x=33∨x=60∨x=62∨x=38∨x=124)
theorem IP (x y:UInt8) (h:h2 y=true): [x,y] ∉ iL:=by
 unfold h2 at h
 simp only [Bool.not_eq_true',decide_eq_false_iff_not,not_or] at h
 simp [iL,h]
theorem Si (x y:UInt8) (h:h1 x=true): [x,y] ∉ iL:=by
 unfold h1 at h
 simp only [Bool.not_eq_true',decide_eq_false_iff_not,not_or] at h
 simp [iL,h]
theorem AJ {a b:List UInt8} (h: ∀ y,b.head?=some y→nm y=false∧h2 y=true):iX a b=true:=by
 unfold iX
 split
 · rename_i x y hx hy
   obtain ⟨e1,e2⟩:=h y hy
   rw [e1,Bool.and_false,decide_eq_false (IP x y e2)]; rfl
 · rfl
theorem AI {a b:List UInt8} (h: ∀ x,a.getLast?=some x→nm x=false∧h1 x=true):iX a b=true:=by
 unfold iX
 split
 · rename_i x y hx hy
   obtain ⟨e1,e2⟩:=h x hx
   rw [e1,Bool.false_and,decide_eq_false (Si x y e2)]; rfl
 · rfl
theorem UK {a b:List UInt8} (h: ∀ x,a.getLast?=some x→nm x=false) (hb: ∀ y,b.head?=some y→h2 y=true):iX a b=true:=by
 unfold iX
 split
 · rename_i x y hx hy
   rw [h x hx,Bool.false_and,decide_eq_false (IP x y (hb y hy))]; rfl
 · rfl
theorem IA: ∀ y:UInt8,nm y=true→h2 y=true:=fun y h=>by
 unfold h2
 simp only [Bool.not_eq_true',decide_eq_false_iff_not,not_or]
 refine ⟨?_, ?_, ?_, ?_⟩ <;> (intro e; subst e; revert h; decide)
theorem QS {n:Int} (h:0≤n): ∀ y,(Lib.itoa n).head?=some y→h2 y=true:=fun y hy=>IA y (by simp [nm,wg h y (List.mem_of_mem_head? hy)])
theorem RT {s:List UInt8} (h:bT s=true): ∀ y,s.head?=some y→h2 y=true:=fun y hy=>IA y ((eB h).2.2.2.2 y (List.mem_of_mem_head? hy))
theorem Pz {a b:List UInt8} (h:a≠ []):(a++b).head?=a.head?:=by cases a with
 | nil=>exact absurd rfl h
 | cons x l=>rfl
theorem tH {c:Prop} [Decidable c] {s:List UInt8} (h:s≠ []∧ ∀ y,s.head?=some y→h2 y=true):par c s≠ []∧ ∀ y,(par c s).head?=some y→h2 y=true:=by
 unfold par
 split
 · refine ⟨by simp,fun y hy=> ?_⟩
   cases hy; decide
 · exact h
theorem IW: ∀ (t:T) (a:Int),t.ok→pr t a≠ []∧ ∀ y,(pr t a).head?=some y→h2 y=true
 | .num n,a,h=>tH ⟨y8 h.1,QS h.1⟩
 | .var s,a,h=>tH ⟨(eB h).1,RT h⟩
 | .arg,a,h=>tH ⟨by simp,fun y hy=>by cases hy; decide⟩
 | .d_ s,a,h=>tH ⟨by simp,fun y hy=>by cases hy; decide⟩
 | .un k t,a,h=>tH ⟨by simp,fun y hy=>by
  rw [List.head?_cons] at hy
  cases hy
  split <;> decide⟩
 | .bin k x y,a,h=>tH (by
  obtain ⟨h1,h2⟩:=IW x (b9 k) h.2.1
  exact ⟨by simp [h1],fun z hz=>by rw [List.append_assoc,Pz h1] at hz; exact h2 z hz⟩)
theorem Lx.par {c:Prop} [Decidable c] {s:List UInt8} {K:List Tk} (h:Lx s K):Lx (Ex.par c s) (mV c K):=by
 unfold Ex.par mV
 split
 · refine Lx.append (a:=40::s) (Lx.append (a:= [40]) (b:=s) (Ka:= [(3,bK,0)]) (eI 2 (by decide)) h (AI fun x hx=>by cases hx; decide)) (Kb:= [(3,bw,0)]) (eI 2 (by decide)) (AJ fun x hx=>by cases hx; decide)
 · exact h
theorem Lx.dD {k:Int} (h:7≤k∧k≤19):Lx (aJ++dD k++aJ) [(3,Ex.dD k,0)]:=by
 have hk:k=7∨k=8∨k=9∨k=10∨k=11∨k=12∨k=13∨k=14∨k=15∨k=16∨k=17∨k=18∨k=19:=by omega
 rcases hk with rfl | rfl | rfl | rfl | rfl | rfl | rfl | rfl | rfl | rfl | rfl | rfl | rfl <;> exact eI 3 (by decide)
theorem wG: ∀ (t:T) (a:Int),t.ok→Lx (pr t a) (toks t a)
 | .num n,a,h=>(Lx.num h.1 h.2).par
 | .var s,a,h=>(Lx.name h).par
 | .arg,a,h=>(eI 2 (by decide)).par
 | .d_ s,a,h=>Lx.par (Lx.append (a:=fY++s) (Lx.append (Ka:= [(1,gu,0),(3,bK,0)]) (eI 3 (by decide)) (Lx.name h) (AI fun x hx=>by cases hx; decide)) (Kb:= [(3,bw,0)]) (eI 2 (by decide)) (AJ fun x hx=>by cases hx; decide))
 | .un k t,a,h=>Lx.par (by
  refine Lx.append (a:= [if k=5 then 45 else 33]) (Ka:= [(3,if k=5 then dA else gN,0)]) ?_ (wG t 6 h.2) (UK (fun x hx=> ?_) (IW t 6 h.2).2)
  · split <;> exact eI 2 (by decide)
  · rw [List.getLast?_singleton] at hx
    cases hx
    split <;> decide)
 | .bin k x y,a,h=>Lx.par (by
  rw [show toks x (b9 k)++(3,dD k,0)::toks y (cB k)=(toks x (b9 k)++ [(3,dD k,0)])++toks y (cB k) from by simp]
  refine Lx.append (Lx.append (wG x (b9 k) h.2.1) (Lx.dD h.1) (AJ fun z hz=>by cases hz; decide)) (wG y (cB k) h.2.2) (AI fun z hz=> ?_)
  rw [show pr x (b9 k)++(aJ++dD k++aJ)=(pr x (b9 k)++(aJ++dD k))++ [32] from by simp,List.getLast?_concat] at hz
  cases hz
  decide)
theorem Em: ∀ {l:List ax} {K R:List Tk} {i:Nat},(l.drop i).map strip=K++R→Seq l i K
 | l,[],R,i,_=>trivial
 | l,k::K,R,i,h=>by
  have hi:i<l.length:=by
   by_cases hc:i<l.length
   · exact hc
   · rw [List.drop_eq_nil_of_le (by omega)] at h; cases h
  rw [List.drop_eq_getElem_cons hi,List.map_cons,List.cons_append] at h
  injection h with h1 h2
  exact ⟨hi,by unfold aj; rw [List.getD_eq_getElem?_getD,List.getElem?_eq_getElem hi]; exact h1,Em h2⟩
end Go.Sy.Ex
namespace Go.Sy.Ex
open Go.Sy
theorem Ih (c:Int):tW c=some (jM c):=by
 have fin: ∀ a:Bool,((a=true)↔((97≤c∧c≤122)∨(65≤c∧c≤90)∨c=95))→some a=some (jM c):=by
  intro a ha
  have e1:a=jM c:=by rw [Bool.eq_iff_iff,ha]; simp [jM]
  rw [e1]
 unfold tW
 repeat' split
 all_goals
  refine fin _ ?_
  first
   | (simp only [decide_eq_true_eq]; omega)
   | exact ⟨fun _=>by omega,fun _=>rfl⟩
theorem NH (c:Int):wV c=some (isDigit c):=by
 unfold wV isDigit
 by_cases h:48≤c
 · rw [if_pos h]; simp [h]
 · rw [if_neg h]; simp [h]
theorem Un (s:List UInt8): ∀ m n,n+m=35→ ∀ k,m+1≤k→tV k s Ft ((n:Nat):Int)=some (decide (s ∈ nq.drop n)):=by
 intro m
 induction m with
 | zero=>
  intro n h k hk
  obtain ⟨k,rfl⟩: ∃ j,k=j+1:=⟨k - 1,by omega⟩
  obtain rfl:n=35:=by omega
  simp only [tV]
  rw [if_neg (by omega)]
  rfl
 | succ m ih=>
  intro n h k hk
  obtain ⟨k,rfl⟩: ∃ j,k=j+1:=⟨k - 1,by omega⟩
  have hlt:n<nq.length:=by rw [Wn]; omega
  have e:ag ((n:Int)+1)=((n+1:Nat):Int):=by rw [bD (by omega) (by omega)]; omega
  have hlen:(n:Int)<(nq.length:Int):=by omega
  simp only [tV]
  rw [if_pos (by omega),if_pos (by omega),if_pos hlen,e,ih (n+1) (by omega) k (by omega),List.drop_eq_getElem_cons hlt]
  by_cases hx:nq.getD (((n:Nat):Int).toNat) []=s
  · rw [if_pos hx]
    rw [Int.toNat_natCast,cO _ hlt] at hx
    rw [hx]
    simp
  · rw [if_neg hx]
    rw [Int.toNat_natCast,cO _ hlt] at hx
    congr 1
    rw [decide_eq_decide,List.mem_cons]
    exact ⟨.inr,fun q=>q.elim (fun q=>absurd q.symm hx) id⟩
theorem JJ (s:List UInt8):wU s=some (fI s):=cu 36 fun k hk=>Un s 35 0 rfl k hk
theorem Uh (s:List UInt8) (hl:s.length<200000000000000): ∀ m n,n+m=s.length→ ∀ k,m+1≤k→rF k s ((n:Nat):Int)=some ((s.drop n).all nm&& !fI s):=by
 intro m
 induction m with
 | zero=>
  intro n h k hk
  obtain ⟨k,rfl⟩: ∃ j,k=j+1:=⟨k - 1,by omega⟩
  simp only [rF]
  rw [if_neg (by omega),JJ,aa,List.drop_eq_nil_of_le (by omega)]
  simp
 | succ m ih=>
  intro n h k hk
  obtain ⟨k,rfl⟩: ∃ j,k=j+1:=⟨k - 1,by omega⟩
  have hlt:n<s.length:=by omega
  have e:ag ((n:Int)+1)=((n+1:Nat):Int):=by rw [bD (by omega) (by omega)]; omega
  simp only [rF,Ih,NH,aa]
  rw [if_pos (by omega),if_pos (by omega),if_pos (by omega),if_pos (by omega),if_pos (by omega),Int.toNat_natCast,cO _ hlt,e,ih (n+1) (by omega) k (by omega),List.drop_eq_getElem_cons hlt,List.all_cons]
  have vH:isDigit ((s[n].toNat:Nat):Int)=dg s[n]:=rfl
  have hlt':jM ((s[n].toNat:Nat):Int)=lt s[n]:=rfl
  rw [vH,hlt']
  have hnm:nm s[n]=(lt s[n]||dg s[n]):=rfl
  rw [hnm]
  cases lt s[n] <;> cases dg s[n] <;> simp
theorem D9 (s:List UInt8) (hl:s.length<200000000000000):n5 s=some (bT s):=by
 refine cu (s.length+1) fun k hk=> ?_
 unfold DY bT
 by_cases h0:s= []
 · subst h0; rfl
 · have hlen:0<s.length:=List.length_pos_iff.2 h0
   rw [if_neg (by omega)]
   by_cases qx:24<s.length
   · rw [if_pos (by omega),decide_eq_false (fun q=>by omega)]; simp
   · rw [if_neg (by omega),if_pos (by omega),if_pos (by omega),decide_eq_true ⟨h0,by omega⟩,Ih,aa,show (0:Int).toNat=0 from rfl,cO _ hlen]
     have hlt':jM ((s[0].toNat:Nat):Int)=lt s[0]:=rfl
     rw [hlt']
     have :=Uh s hl s.length 0 (by omega) k hk
     rw [show ((0:Nat):Int)=0 from rfl,List.drop_zero] at this
     rw [this]
     cases lt s[0] <;> cases s.all nm <;> cases fI s <;> rfl
end Go.Sy.Ex
namespace Go.Sy.Ex
open Go.Sy
def Fw:Nat→af→Prop
 | 0,_=>False
 | n+1,e=>(e.Kids.length≤n+2∧e.Kids.length≤10000000000000)∧e.Name.length≤199999999999999∧(-9223372036854775808≤e.N∧e.N≤9223372036854775807)∧ ∀ x ∈ e.Kids,Fw n x
def eK (e:af):Bool:=decide ((1≤e.Kind∧e.Kind≤19)∧e.Kids.length=(dL e.Kind).length∧((e.Kind=2∨e.Kind=4)↔e.Name≠ [])∧((e.Kind=2∨e.Kind=4)→bT e.Name=true)∧(e.N=0∨(e.Kind=1∧0<e.N)))
theorem UN {e:af} (hn:e.Name.length≤199999999999999):yx e=some (eK e):=cu 2 fun k hk=>by
 obtain ⟨k,rfl⟩: ∃ j,k=j+2:=⟨k - 2,by omega⟩
 have vF:vo (k+1) e.Kind e.N e.Name e.Kids e.At=some (decide (e.N=0∨(e.Kind=1∧0<e.N))):=by
  simp only [vo]
  by_cases h0:e.N=0
  · rw [if_pos h0,decide_eq_true (Or.inl h0)]
  · rw [if_neg h0]
    by_cases h1:e.Kind=1
    · rw [if_pos h1]; congr 1; rw [decide_eq_decide]; simp [h0,h1]
    · rw [if_neg h1]; congr 1; symm; rw [decide_eq_false_iff_not]; simp [h0,h1]
 have hc0: ∀ named:Bool,sV (k+2) e.Kind e.N e.Name e.Kids e.At named=some (decide (((named=true)↔e.Name≠ [])∧((named=true)→bT e.Name=true)∧(e.N=0∨(e.Kind=1∧0<e.N)))):=fun named=>by
  simp only [sV]
  cases named with
  | false=>
   by_cases hN:e.Name= []
   · rw [if_neg (by simp [hN]),cond_false,vF]; congr 1; rw [decide_eq_decide]; simp [hN]
   · rw [if_pos (by simp [hN])]; congr 1; symm; rw [decide_eq_false_iff_not]; simp [hN]
  | true=>
   by_cases hN:e.Name= []
   · rw [if_pos (by simp [hN])]; congr 1; symm; rw [decide_eq_false_iff_not]; simp [hN]
   · rw [if_neg (by simp [hN]),cond_true,wA _ (by omega),aa]
     cases hP:bT e.Name with
     | false=>simp
     | true=>
      rw [Bool.not_true,cond_false,vF]; congr 1; rw [decide_eq_decide]; simp [hN]
 have key: ∀ named:Bool,((named=true)↔(e.Kind=2∨e.Kind=4))→(if e.Kind<1 then
  some false else
  if 19<e.Kind then
  some false else
  (dQ e.Kind).bind fun r1=>
  if (e.Kids.length:Int)≠(r1.length:Int) then
  some false else
  sV (k+2) e.Kind e.N e.Name e.Kids e.At named)=some (eK e):=fun named hnm=>by
  unfold eK
  by_cases h1:e.Kind<1
  · rw [if_pos h1,decide_eq_false (fun q=>by omega)]
  · rw [if_neg h1]
    by_cases h19:19<e.Kind
    · rw [if_pos h19,decide_eq_false (fun q=>by omega)]
    · rw [if_neg h19,iq,aa]
      by_cases hl:e.Kids.length=(dL e.Kind).length
      · rw [if_neg (by omega),hc0]; congr 1; rw [decide_eq_decide,hnm]
        exact ⟨fun q=>⟨by omega,hl,q⟩,fun q=>q.2.2⟩
      · rw [if_pos (by omega),decide_eq_false (fun q=>hl q.2.1)]
 show yy (k+2) e=_
 unfold yy
 by_cases h2:e.Kind=2
 · rw [if_pos h2]
   exact key true (by simp [h2])
 · rw [if_neg h2]
   exact key (decide (e.Kind=4)) (by simp [h2])
def Tr (e:af):Prop:= ∃ t,Is t e∧t.ok
theorem Is.eK {t:T} {e:af} (h:Is t e) (hok:t.ok):eK e=true:=by
 unfold Ex.eK
 rw [decide_eq_true_eq]
 cases t with
 | num n=>
  obtain ⟨h1,h2,h3,h4⟩:=h
  obtain ⟨h5,h6⟩:=hok
  rw [h1,h2,h3,h4]
  exact ⟨by decide,by decide,by decide,by decide,by omega⟩
 | var s=>
  obtain ⟨h1,h2,h3,h4⟩:=h
  rw [h1,h2,h3,h4]
  exact ⟨by decide,by decide,by simp [(eB hok).1],fun _=>hok,by omega⟩
 | arg=>
  obtain ⟨h1,h2,h3,h4⟩:=h
  rw [h1,h2,h3,h4]
  exact ⟨by decide,by decide,by decide,by decide,by omega⟩
 | d_ s=>
  obtain ⟨h1,h2,h3,h4⟩:=h
  rw [h1,h2,h3,h4]
  exact ⟨by decide,by decide,by simp [(eB hok).1],fun _=>hok,by omega⟩
 | un k t=>
  obtain ⟨h1,h2,h3,x,h4,_⟩:=h
  obtain ⟨hk,_⟩:=hok
  rw [h1,h2,h3,h4,wF hk]
  exact ⟨by omega,rfl,⟨fun q=>by omega,fun q=>absurd rfl q⟩,fun q=>by omega, .inl rfl⟩
 | bin k a b=>
  obtain ⟨h1,h2,h3,x,y,h4,_⟩:=h
  obtain ⟨hk,_⟩:=hok
  rw [h1,h2,h3,h4,tJ hk]
  exact ⟨by omega,rfl,⟨fun q=>by omega,fun q=>absurd rfl q⟩,fun q=>by omega, .inl rfl⟩
def inr:T→Nat
 | .un k t=>aT t 6
 | .bin k x y=>max (aT x (b9 k)) (aT y (cB k))
 | _=>0
theorem zu {t:T} (h:t.ok) {a:Int} (ha:a≤7):aT t a=inr t+(if lvl t.kind<a then 1 else 0)+(if lvl t.kind=6 then 1 else 0):=by
 cases t with
 | num n=>
  have hk:lvl (T.num n).kind=7:=by show lvl 1=7; decide
  simp only [aT,inr]; rw [iM (by omega),if_neg (c:=lvl _<a) (by omega),if_neg (c:=lvl _=6) (by omega)]
 | var s=>
  have hk:lvl (T.var s).kind=7:=by show lvl 2=7; decide
  simp only [aT,inr]; rw [iM (by omega),if_neg (c:=lvl _<a) (by omega),if_neg (c:=lvl _=6) (by omega)]
 | arg=>
  have hk:lvl T.arg.kind=7:=by show lvl 3=7; decide
  simp only [aT,inr]; rw [iM (by omega),if_neg (c:=lvl _<a) (by omega),if_neg (c:=lvl _=6) (by omega)]
 | d_ s=>
  have hk:lvl (T.d_ s).kind=7:=by show lvl 4=7; decide
  simp only [aT,inr]; rw [iM (by omega),if_neg (c:=lvl _<a) (by omega),if_neg (c:=lvl _=6) (by omega)]
 | un k t=>
  have hk:lvl (T.un k t).kind=6:=by show lvl k=6; rcases h.1 with rfl | rfl <;> decide
  simp only [aT,inr]; rw [if_pos (c:=lvl _=6) hk]; unfold jQ; split <;> split <;> omega
 | bin k x y=>
  have :=(mG h.1.1 h.1.2).2
  have hk:lvl (T.bin k x y).kind=lvl k:=rfl
  simp only [aT,inr]; rw [if_neg (c:=lvl (T.bin k x y).kind=6) (by omega)]; unfold jQ; split <;> split <;> omega
theorem inside {e:af} (hs:eK e=true) (hN:e.N≤9223372036854775807) (o:Int):(∃ t,Is t e∧t.ok∧o+inr t≤12)↔(o≤12∧ ∀ p ∈ e.Kids.zip (dL e.Kind), ∃ t,Is t p.1∧t.ok∧o+aT t p.2≤12):=by
 have hs':=hs
 unfold eK at hs'
 rw [decide_eq_true_eq] at hs'
 obtain ⟨hk,hl,kz,hn2,OZ⟩:=hs'
 constructor
 · rintro ⟨t,ht,hok,hle⟩
   refine ⟨by omega,fun p hp=> ?_⟩
   have WL:=ht.kind
   cases t with
   | num n=>rw [ht.2.2.2] at hp; cases hp
   | var n=>rw [ht.2.2.2] at hp; cases hp
   | arg=>rw [ht.2.2.2] at hp; cases hp
   | d_ n=>rw [ht.2.2.2] at hp; cases hp
   | un k t=>
    obtain ⟨h1,h2,h3,x,h4,h5⟩:=ht
    rw [h4,h1,wF hok.1] at hp
    simp only [List.zip_cons_cons,List.zip_nil_right,List.mem_singleton] at hp
    subst hp
    exact ⟨t,h5,hok.2,by simpa only [inr] using hle⟩
   | bin k a b=>
    obtain ⟨h1,h2,h3,x,y,h4,h5,h6⟩:=ht
    rw [h4,h1,tJ hok.1] at hp
    simp only [inr] at hle
    simp only [List.zip_cons_cons,List.zip_nil_right,List.mem_cons,List.not_mem_nil,or_false] at hp
    rcases hp with rfl | rfl
    · exact ⟨a,h5,hok.2.1,by show o+((aT a (b9 k):Nat):Int)≤12; omega⟩
    · exact ⟨b,h6,hok.2.2,by show o+((aT b (cB k):Nat):Int)≤12; omega⟩
 · rintro ⟨ho,hp⟩
   have Cx:e.Kind=1∨e.Kind=2∨e.Kind=3∨e.Kind=4∨(e.Kind=5∨e.Kind=6)∨(7≤e.Kind∧e.Kind≤19):=by omega
   rcases Cx with h | h | h | h | h | h
   · rw [h] at hl
     exact ⟨.num e.N,⟨h,rfl,by simpa [h] using kz,List.eq_nil_of_length_eq_zero (hl.trans (by decide))⟩,by unfold T.ok; omega,by simp only [inr]; omega⟩
   · rw [h] at hl
     exact ⟨.var e.Name,⟨h,by omega,rfl,List.eq_nil_of_length_eq_zero (hl.trans (by decide))⟩,hn2 (.inl h),by simp only [inr]; omega⟩
   · rw [h] at hl
     exact ⟨.arg,⟨h,by omega,by simpa [h] using kz,List.eq_nil_of_length_eq_zero (hl.trans (by decide))⟩,trivial,by simp only [inr]; omega⟩
   · rw [h] at hl
     exact ⟨.d_ e.Name,⟨h,by omega,rfl,List.eq_nil_of_length_eq_zero (hl.trans (by decide))⟩,hn2 (.inr h),by simp only [inr]; omega⟩
   · rw [wF h] at hl hp
     obtain ⟨x,hx⟩:=List.length_eq_one_iff.1 hl
     rw [hx] at hp
     obtain ⟨t,h1,h2,h3⟩:=hp (x,6) (by simp)
     exact ⟨.un e.Kind t,⟨rfl,by omega,Classical.byContradiction fun q=>by have :=kz.2 q; omega,x,hx,h1⟩,⟨h,h2⟩,by simpa only [inr] using h3⟩
   · rw [tJ h] at hl hp
     obtain ⟨x,y,hx⟩: ∃ x y,e.Kids= [x,y]:=by
      match hq:e.Kids with
      | [x,y]=>exact ⟨x,y,rfl⟩
      | []=>rw [hq] at hl; cases hl
      | [_]=>rw [hq] at hl; cases hl
      | _::_::_::_=>rw [hq] at hl; simp at hl
     rw [hx] at hp
     obtain ⟨t,h1,h2,h3⟩:=hp (x,b9 e.Kind) (by simp)
     obtain ⟨u,h4,h5,h6⟩:=hp (y,cB e.Kind) (by simp)
     have h3:o+((aT t (b9 e.Kind):Nat):Int)≤12:=h3
     have h6:o+((aT u (cB e.Kind):Nat):Int)≤12:=h6
     exact ⟨.bin e.Kind t u,⟨rfl,by omega,Classical.byContradiction fun q=>by have :=kz.2 q; omega,x,y,hx,h1,h4⟩,⟨h,h2,h5⟩,by simp only [inr]; omega⟩
theorem Ss {k:Int} : ∀ p ∈ dL k,1≤p∧p≤6:=fun p hp=>by
 have :=Di k
 unfold dL at hp
 split at hp
 · cases hp
 · split at hp
   · simp at hp; omega
   · unfold b9 cB at hp
     simp at hp
     rcases hp with rfl | rfl <;> split <;> omega
theorem Ue (self:af→Int→Int→Option Bool) (e:af) (o:Int) (Q:af→Int→Prop) (hl:e.Kids.length=(dL e.Kind).length) (h2:e.Kids.length≤10000000000000) (hQ: ∀ x ∈ e.Kids, ∀ p,1≤p∧p≤6→ ∃ b,self x p o=some b∧(b=true↔Q x p)):
 ∀ m n,n+m=e.Kids.length→ ∀ k,m+1≤k→ ∃ b,mK self k o e.Kind e.N e.Name e.Kids e.At (dL e.Kind) ((dL e.Kind).length:Int) ((n:Nat):Int)=some b∧(b=true↔ ∀ q ∈ (e.Kids.zip (dL e.Kind)).drop n,Q q.1 q.2):=by
 intro m
 induction m with
 | zero=>
  intro n h k hk
  obtain ⟨k,rfl⟩: ∃ j,k=j+1:=⟨k - 1,by omega⟩
  refine ⟨true, ?_, ?_⟩
  · simp only [mK]; rw [if_neg (by omega)]
  · rw [List.drop_eq_nil_of_le (by rw [List.length_zip]; omega)]; simp
 | succ m ih=>
  intro n h k hk
  obtain ⟨k,rfl⟩: ∃ j,k=j+1:=⟨k - 1,by omega⟩
  have kz:n<e.Kids.length:=by omega
  have hn2:n<(dL e.Kind).length:=by omega
  have hz:(e.Kids.zip (dL e.Kind)).drop n=(e.Kids[n],(dL e.Kind)[n])::(e.Kids.zip (dL e.Kind)).drop (n+1):=by
   rw [List.drop_eq_getElem_cons (by rw [List.length_zip]; omega),List.getElem_zip]
  obtain ⟨b,hb,hb'⟩:=hQ e.Kids[n] (List.getElem_mem kz) (dL e.Kind)[n] (Ss _ (List.getElem_mem hn2))
  simp only [mK]
  rw [if_pos (by omega),if_pos (by omega),if_pos (by omega),if_pos (by omega),if_pos (by omega),Int.toNat_natCast,cO _ kz,cO _ hn2,hb,aa]
  cases b with
  | false=>
   refine ⟨false,by simp, ?_⟩
   rw [hz]
   constructor
   · intro q; cases q
   · intro q
     exact (Bool.false_ne_true (hb'.2 (q _ List.mem_cons_self))).elim
  | true=>
   obtain ⟨b',h1,h2⟩:=ih (n+1) (by omega) k (by omega)
   refine ⟨b', ?_, ?_⟩
   · simp only [Bool.not_true,cond_false]
     rw [show ag ((n:Int)+1)=((n+1:Nat):Int) from by rw [bD (by omega) (by omega)]; omega]
     exact h1
   · rw [hz,h2]
     simp [hb'.1 rfl]
theorem D7: ∀ (n:Nat) (e:af) (a o:Int),Fw n e→1≤a∧a≤6→0≤o→o≤12→ ∀ k,n+4≤k→ ∃ b,oO k e a o=some b∧(b=true↔ ∃ t,Is t e∧t.ok∧o+aT t a≤12)
 | 0,e,a,o,h,_,_,_,_,_=>h.elim
 | n+1,e,a,o,⟨h1,h2,h3,h4⟩,ha,ho,qS,k,hk=>by
  obtain ⟨k,rfl⟩: ∃ j,k=j+1:=⟨k - 1,by omega⟩
  show ∃ b,yu (oO k) k e a o=some b∧_
  unfold yu
  rw [eta,UN h2,aa]
  cases hs:eK e with
  | false=>
   refine ⟨false,rfl, ?_⟩
   constructor
   · intro q; cases q
   · rintro ⟨t,ht,hok,_⟩
     rw [ht.eK hok] at hs; cases hs
  | true=>
   have hs':=hs
   unfold eK at hs'
   rw [decide_eq_true_eq] at hs'
   have hl:=hs'.2.1
   have tail: ∀ o':Int,0≤o'→ ∃ b,(if 12<o' then some false else (dQ e.Kind).bind fun r=>mK (oO k) k o' e.Kind e.N e.Name e.Kids e.At r (r.length:Int) 0)=some b∧(b=true↔ ∃ t,Is t e∧t.ok∧o'+inr t≤12):=fun o' ho'=>by
    by_cases h12:12<o'
    · rw [if_pos h12]
      exact ⟨false,rfl,⟨fun q=>(by cases q),fun ⟨t,_,_,q⟩=>(by omega)⟩⟩
    · rw [if_neg h12,iq,aa]
      obtain ⟨b,hb,hb'⟩:=Ue (oO k) e o' (fun x p=> ∃ t,Is t x∧t.ok∧o'+aT t p≤12) hl h1.2 (fun x hx p hp=>D7 n x p o' (h4 x hx) hp ho' (by omega) k (by omega)) e.Kids.length 0 (by omega) k (by omega)
      refine ⟨b,hb, ?_⟩
      rw [hb',inside hs h3.2 o',List.drop_zero]
      exact ⟨fun q=>⟨by omega,q⟩,fun q=>q.2⟩
   rw [Bool.not_true,cond_false]
   simp only [o7,aa]
   have fin: ∀ o':Int,o'=o+(if lvl e.Kind<a then 1 else 0)+(if lvl e.Kind=6 then 1 else 0)→ ∀ b:Bool,(b=true↔ ∃ t,Is t e∧t.ok∧o'+inr t≤12)→(b=true↔ ∃ t,Is t e∧t.ok∧o+aT t a≤12):=fun o' ho' b hb=>by
    rw [hb]
    constructor
    · rintro ⟨t,ht,hok,q⟩
      refine ⟨t,ht,hok, ?_⟩
      rw [zu hok (by omega), ← ht.kind]
      rw [ho'] at q
      split at q <;> split at q <;> (try rw [if_pos (by assumption)]) <;> (try rw [if_neg (by assumption)]) <;> (try rw [if_pos (by assumption)]) <;> (try rw [if_neg (by assumption)]) <;> omega
    · rintro ⟨t,ht,hok,q⟩
      refine ⟨t,ht,hok, ?_⟩
      rw [zu hok (by omega), ← ht.kind] at q
      rw [ho']
      split <;> split <;> (try rw [if_pos (by assumption)] at q) <;> (try rw [if_neg (by assumption)] at q) <;> (try rw [if_pos (by assumption)] at q) <;> (try rw [if_neg (by assumption)] at q) <;> omega
   by_cases hA:lvl e.Kind<a
   · rw [if_pos hA]
     by_cases h6:lvl e.Kind=6
     · rw [if_pos h6]
       rw [show ag (ag (o+1)+1)=o+2 from by rw [bD (n:=o+1) (by omega) (by omega),bD (by omega) (by omega)]; omega]
       obtain ⟨b,hb,hb'⟩:=tail (o+2) (by omega)
       exact ⟨b,hb,fin (o+2) (by rw [if_pos hA,if_pos h6]; omega) b hb'⟩
     · rw [if_neg h6]
       rw [show ag (o+1)=o+1 from bD (by omega) (by omega)]
       obtain ⟨b,hb,hb'⟩:=tail (o+1) (by omega)
       exact ⟨b,hb,fin (o+1) (by rw [if_pos hA,if_neg h6]; omega) b hb'⟩
   · rw [if_neg hA]
     by_cases h6:lvl e.Kind=6
     · rw [if_pos h6]
       rw [show ag (o+1)=o+1 from bD (by omega) (by omega)]
       obtain ⟨b,hb,hb'⟩:=tail (o+1) (by omega)
       exact ⟨b,hb,fin (o+1) (by rw [if_neg hA,if_pos h6]; omega) b hb'⟩
     · rw [if_neg h6]
       obtain ⟨b,hb,hb'⟩:=tail o (by omega)
       exact ⟨b,hb,fin o (by rw [if_neg hA,if_neg h6]; omega) b hb'⟩
theorem E2 {n:Nat} {e:af} (h:Fw n e): ∃ b,qm e=some b∧(b=true↔ ∃ t,Is t e∧t.ok∧aT t 1≤12):=by
 obtain ⟨b, -,hb'⟩:=D7 n e 1 0 h (by decide) (by decide) (by decide) (n+4) (Nat.le_refl _)
 refine ⟨b, ?_, ?_⟩
 · unfold qm
   rw [eta,show yt e 1 0=some b from cu (n+4) fun k hk=> ?_,aa]
   obtain ⟨b2,h1,h2⟩:=D7 n e 1 0 h (by decide) (by decide) (by decide) k hk
   have :b2=b:=by rw [Bool.eq_iff_iff,h2,hb']
   rw [← this]; exact h1
 · rw [hb']
   constructor
   · rintro ⟨t,h1,h2,h3⟩; exact ⟨t,h1,h2,by omega⟩
   · rintro ⟨t,h1,h2,h3⟩; exact ⟨t,h1,h2,by omega⟩
end Go.Sy.Ex
namespace Go.Sy.Ex
open Go.Sy
theorem C3:Lib.itoa 1= [49]:=by rw [tB (by decide),show (1:Int).toNat=1 from rfl,jI (by decide)]; rfl
theorem HU:Lib.itoa 2= [50]:=by rw [tB (by decide),show (2:Int).toNat=2 from rfl,jI (by decide)]; rfl
theorem Fw.up: ∀ {n m:Nat} {e:af},Fw n e→n≤m→Fw m e
 | 0,_,_,h,_=>h.elim
 | n+1,0,_,_,h=>by omega
 | n+1,m+1,e,⟨h1,h2,h3,h4⟩,h=>⟨by omega,h2,h3,fun x hx=>Fw.up (h4 x hx) (by omega)⟩
theorem Is.fw: ∀ {t:T} {e:af},Is t e→t.ok→Fw (t.sz+1) e
 | .num n,e,h,hok=>⟨by rw [h.2.2.2]; simp,by rw [h.2.2.1]; decide,by rw [h.2.1]; unfold T.ok at hok; omega,by rw [h.2.2.2]; intro x hx; cases hx⟩
 | .var s,e,h,hok=>⟨by rw [h.2.2.2]; simp,by rw [h.2.2.1]; have :=(eB hok).2.1; omega,by rw [h.2.1]; decide,by rw [h.2.2.2]; intro x hx; cases hx⟩
 | .arg,e,h,hok=>⟨by rw [h.2.2.2]; simp,by rw [h.2.2.1]; decide,by rw [h.2.1]; decide,by rw [h.2.2.2]; intro x hx; cases hx⟩
 | .d_ s,e,h,hok=>⟨by rw [h.2.2.2]; simp,by rw [h.2.2.1]; have :=(eB hok).2.1; omega,by rw [h.2.1]; decide,by rw [h.2.2.2]; intro x hx; cases hx⟩
 | .un k t,e,h,hok=>by
  obtain ⟨h1,h2,h3,x,h4,h5⟩:=h
  exact ⟨by rw [h4]; simp,by rw [h3]; decide,by rw [h2]; decide,by rw [h4]; intro y hy; rw [List.mem_singleton] at hy; subst hy; exact Is.fw h5 hok.2⟩
 | .bin k a b,e,h,hok=>by
  obtain ⟨h1,h2,h3,x,y,h4,h5,h6⟩:=h
  refine ⟨by rw [h4]; simp,by rw [h3]; decide,by rw [h2]; decide, ?_⟩
  rw [h4]; intro z hz
  simp only [List.mem_cons,List.not_mem_nil,or_false] at hz
  rcases hz with rfl | rfl
  · exact Fw.up (Is.fw h5 hok.2.1) (by simp only [T.sz]; omega)
  · exact Fw.up (Is.fw h6 hok.2.2) (by simp only [T.sz]; omega)
theorem Ll {t:T} {e:af} (h:Is t e) (hok:t.ok) (hn:aT t 1≤12):qm e=some true:=by
 obtain ⟨b,h1,h2⟩:=E2 (h.fw hok)
 rw [h1,h2.2 ⟨t,h,hok,hn⟩]
end Go.Sy.Ex
namespace Go.Sy.Ex
open Go.Sy
theorem nx {n:Nat} (h:n<100000000000000):ag ((n:Int)+1)=((n+1:Nat):Int):=by rw [bD (by omega) (by omega)]; omega
def ez:Nat→af→Nat
 | 0,_=>0
 | n+1,e=>(e.Kids.map (ez n)).sum+1
theorem Is.ez: ∀ {t:T} {e:af} {n:Nat},Is t e→Fw n e→ez n e=t.sz
 | t,e,0,_,hf=>hf.elim
 | .num _,e,n+1,h,hf=>by unfold Ex.ez; rw [h.2.2.2]; rfl
 | .var _,e,n+1,h,hf=>by unfold Ex.ez; rw [h.2.2.2]; rfl
 | .arg,e,n+1,h,hf=>by unfold Ex.ez; rw [h.2.2.2]; rfl
 | .d_ _,e,n+1,h,hf=>by unfold Ex.ez; rw [h.2.2.2]; rfl
 | .un k t,e,n+1,h,hf=>by
  obtain ⟨_,_,_,x,h4,h5⟩:=h
  have :=Is.ez h5 (hf.2.2.2 x (by rw [h4]; simp))
  unfold Ex.ez; rw [h4]; simp [this,T.sz]
 | .bin k a b,e,n+1,h,hf=>by
  obtain ⟨_,_,_,x,y,h4,h5,h6⟩:=h
  have h7:=Is.ez h5 (hf.2.2.2 x (by rw [h4]; simp))
  have h8:=Is.ez h6 (hf.2.2.2 y (by rw [h4]; simp))
  unfold Ex.ez; rw [h4]; simp [h7,h8,T.sz]
theorem Gy: ∀ (n:Nat) (e:af) (most:Nat),Fw n e→most≤1000000→ ∃ L,(∀ k,n+4≤k→t_ k e (most:Int)=some L)∧1≤L.length∧L.length≤most+1∧(L.length≤most→ez n e≤L.length)
 | 0,e,_,h,_=>h.elim
 | n+1,e,most,⟨h1,h2,h3,h4⟩,hm=>by
  have loop: ∀ m i,i+m=e.Kids.length→ ∀ out:List Int,1≤out.length→out.length≤most+1→ ∃ L,(∀ k,n+4≤k→ ∀ k',m+1≤k'→rH (t_ k) k' (most:Int) e.Kind e.N e.Name e.Kids e.At out ((i:Nat):Int)=some L)∧1≤L.length∧L.length≤most+1∧(L.length≤most→out.length+((e.Kids.drop i).map (ez n)).sum≤L.length):=by
   intro m
   induction m with
   | zero=>
    intro i h out CB qS
    refine ⟨out,fun k hk k' hk'=> ?_,CB,qS,fun _=> ?_⟩
    · obtain ⟨k',rfl⟩: ∃ j,k'=j+1:=⟨k' - 1,by omega⟩
      simp only [rH]; rw [if_neg (by omega)]
    · rw [List.drop_eq_nil_of_le (by omega)]; simp
   | succ m ih=>
    intro i h out CB qS
    have hi:i<e.Kids.length:=by omega
    by_cases WU:out.length≤most
    · obtain ⟨L1,hL,WC,WD,OX⟩:=Gy n e.Kids[i] (most - out.length) (h4 _ (List.getElem_mem hi)) (by omega)
      obtain ⟨L,hr,h5,h6,h7⟩:=ih (i+1) (by omega) (out++L1) (by rw [List.length_append]; omega) (by rw [List.length_append]; omega)
      refine ⟨L,fun k hk k' hk'=> ?_,h5,h6,fun q=> ?_⟩
      · obtain ⟨k',rfl⟩: ∃ j,k'=j+1:=⟨k' - 1,by omega⟩
        simp only [rH]
        rw [if_pos (by omega),if_pos (by omega),if_pos (by omega),if_pos (by omega),Int.toNat_natCast,cO _ hi,show ag ((most:Int) - (out.length:Int))=((most - out.length:Nat):Int) from by rw [bD (by omega) (by omega)]; omega]
        rw [hL k hk,aa,if_pos (by omega),nx (by omega)]
        exact hr k hk k' (by omega)
      · have :=h7 q
        rw [List.length_append] at this
        rw [List.drop_eq_getElem_cons hi,List.map_cons,List.sum_cons]
        have :=OX (by omega)
        omega
    · refine ⟨out,fun k hk k' hk'=> ?_,CB,qS,fun q=>by omega⟩
      obtain ⟨k',rfl⟩: ∃ j,k'=j+1:=⟨k' - 1,by omega⟩
      simp only [rH]
      rw [if_pos (by omega),if_neg (by omega)]
  obtain ⟨L,hr,h5,h6,h7⟩:=loop e.Kids.length 0 (by omega) [e.Kind] (by simp) (by simp)
  refine ⟨L,fun k hk=> ?_,h5,h6,fun q=> ?_⟩
  · obtain ⟨k,rfl⟩: ∃ j,k=j+1:=⟨k - 1,by omega⟩
    exact hr k (by omega) k (by omega)
  · have :=h7 q
    rw [List.drop_zero,List.length_singleton] at this
    unfold ez
    omega
theorem Ld {n:Nat} {e:af} {most:Nat} (h:Fw n e) (hm:most≤1000000): ∃ L,zQ e (most:Int)=some L∧(L.length≤most→ez n e≤L.length):=by
 obtain ⟨L,hr,_,_,h7⟩:=Gy n e most h hm
 exact ⟨L,cu (n+4) hr,h7⟩
theorem A7 {e:af} (hN:e.N≤9223372036854775807):Tr e↔eK e=true∧ ∀ x ∈ e.Kids,Tr x:=by
 constructor
 · rintro ⟨t,ht,hok⟩
   refine ⟨ht.eK hok,fun x hx=> ?_⟩
   cases t with
   | num n=>rw [ht.2.2.2] at hx; cases hx
   | var n=>rw [ht.2.2.2] at hx; cases hx
   | arg=>rw [ht.2.2.2] at hx; cases hx
   | d_ n=>rw [ht.2.2.2] at hx; cases hx
   | un k t=>
    obtain ⟨h1,h2,h3,y,h4,h5⟩:=ht
    rw [h4,List.mem_singleton] at hx
    subst hx
    exact ⟨t,h5,hok.2⟩
   | bin k a b=>
    obtain ⟨h1,h2,h3,y,z,h4,h5,h6⟩:=ht
    rw [h4] at hx
    simp only [List.mem_cons,List.not_mem_nil,or_false] at hx
    rcases hx with rfl | rfl
    · exact ⟨a,h5,hok.2.1⟩
    · exact ⟨b,h6,hok.2.2⟩
 · rintro ⟨hs,hp⟩
   have hs':=hs
   unfold eK at hs'
   rw [decide_eq_true_eq] at hs'
   obtain ⟨hk,hl,kz,hn2,OZ⟩:=hs'
   have Cx:e.Kind=1∨e.Kind=2∨e.Kind=3∨e.Kind=4∨(e.Kind=5∨e.Kind=6)∨(7≤e.Kind∧e.Kind≤19):=by omega
   rcases Cx with h | h | h | h | h | h
   · rw [h] at hl
     exact ⟨.num e.N,⟨h,rfl,by simpa [h] using kz,List.eq_nil_of_length_eq_zero (hl.trans (by decide))⟩,by unfold T.ok; omega⟩
   · rw [h] at hl
     exact ⟨.var e.Name,⟨h,by omega,rfl,List.eq_nil_of_length_eq_zero (hl.trans (by decide))⟩,hn2 (.inl h)⟩
   · rw [h] at hl
     exact ⟨.arg,⟨h,by omega,by simpa [h] using kz,List.eq_nil_of_length_eq_zero (hl.trans (by decide))⟩,trivial⟩
   · rw [h] at hl
     exact ⟨.d_ e.Name,⟨h,by omega,rfl,List.eq_nil_of_length_eq_zero (hl.trans (by decide))⟩,hn2 (.inr h)⟩
   · rw [wF h] at hl
     obtain ⟨x,hx⟩:=List.length_eq_one_iff.1 hl
     obtain ⟨t,h1,h2⟩:=hp x (by simp [hx])
     exact ⟨.un e.Kind t,⟨rfl,by omega,Classical.byContradiction fun q=>by have :=kz.2 q; omega,x,hx,h1⟩,⟨h,h2⟩⟩
   · rw [tJ h] at hl
     obtain ⟨x,y,hx⟩: ∃ x y,e.Kids= [x,y]:=by
      match hq:e.Kids with
      | [x,y]=>exact ⟨x,y,rfl⟩
      | []=>rw [hq] at hl; cases hl
      | [_]=>rw [hq] at hl; cases hl
      | _::_::_::_=>rw [hq] at hl; simp at hl
     obtain ⟨t,h1,h2⟩:=hp x (by simp [hx])
     obtain ⟨u,h4,h5⟩:=hp y (by simp [hx])
     exact ⟨.bin e.Kind t u,⟨rfl,by omega,Classical.byContradiction fun q=>by have :=kz.2 q; omega,x,y,hx,h1,h4⟩,⟨h,h2,h5⟩⟩
theorem zx {k:Int} (h1:1≤k) (h2:k≤19):((dL k).length:Int)=if k<5 then 0 else if k≤6 then 1 else 2:=by
 by_cases h5:k<5
 · rw [Sr (.inl h5),if_pos h5]; rfl
 · by_cases h6:k≤6
   · rw [wF (by omega),if_neg h5,if_pos h6]; rfl
   · rw [tJ (by omega),if_neg h5,if_neg h6]; rfl
theorem Ea: ∀ (n:Nat) (e:af),Fw n e→ ∀ k,n+6≤k→ ∃ b,jV k e=some b∧(b=true↔Tr e)
 | 0,e,h,_,_=>h.elim
 | n+1,e,⟨h1,h2,h3,h4⟩,k,hk=>by
  obtain ⟨k,rfl⟩: ∃ j,k=j+1:=⟨k - 1,by omega⟩
  show ∃ b,zV (jV k) k e=some b∧_
  have loop: ∀ m i,i+m=e.Kids.length→ ∀ k',m+1≤k'→ ∃ b,mm (jV k) k' e.Kind e.N e.Name e.Kids e.At (e.Kids.length:Int) ((i:Nat):Int)=some b∧(b=true↔ ∀ x ∈ e.Kids.drop i,Tr x):=by
   intro m
   induction m with
   | zero=>
    intro i h k' hk'
    obtain ⟨k',rfl⟩: ∃ j,k'=j+1:=⟨k' - 1,by omega⟩
    refine ⟨true, ?_, ?_⟩
    · simp only [mm]; rw [if_neg (by omega)]
    · rw [List.drop_eq_nil_of_le (by omega)]; simp
   | succ m ih=>
    intro i h k' hk'
    obtain ⟨k',rfl⟩: ∃ j,k'=j+1:=⟨k' - 1,by omega⟩
    have hi:i<e.Kids.length:=by omega
    obtain ⟨b,hb,hb'⟩:=Ea n e.Kids[i] (h4 _ (List.getElem_mem hi)) k (by omega)
    simp only [mm]
    rw [if_pos (by omega),if_pos (by omega),if_pos (by omega),Int.toNat_natCast,cO _ hi,hb,aa,List.drop_eq_getElem_cons hi]
    cases b with
    | false=>exact ⟨false,rfl,⟨fun q=>(by cases q),fun q=>(Bool.false_ne_true (hb'.2 (q _ List.mem_cons_self))).elim⟩⟩
    | true=>
     obtain ⟨b',h1,h2⟩:=ih (i+1) (by omega) k' (by omega)
     exact ⟨b',by rw [Bool.not_true,cond_false,nx (by omega)]; exact h1,by rw [h2,List.forall_mem_cons]; exact ⟨fun q=>⟨hb'.1 rfl,q⟩,fun q=>q.2⟩⟩
  have c0: ∀ (named:Bool) (kids:Int),(named=true↔e.Kind=2∨e.Kind=4)→(1≤e.Kind→e.Kind≤19→((dL e.Kind).length:Int)=kids)→ ∀ k',4≤k'→ ∃ b,kI (jV k) k' e.Kind e.N e.Name e.Kids e.At named kids=some b∧(b=true↔Tr e):=by
   intro named kids hnm PW k' hk'
   obtain ⟨k',rfl⟩: ∃ j,k'=j+1:=⟨k' - 1,by omega⟩
   have no:eK e=false→ ∀ {x:Option Bool},x=some false→ ∃ b,x=some b∧(b=true↔Tr e):=fun hs x hx=>⟨false,hx,⟨fun q=>(by cases q),fun q=>by
    have :=((A7 h3.2).1 q).1; rw [hs] at this; cases this⟩⟩
   simp only [kI]
   by_cases c1:e.Kind<1
   · rw [if_pos c1]; exact no (by unfold eK; rw [decide_eq_false_iff_not]; intro q; omega) rfl
   rw [if_neg c1]
   by_cases c2:19<e.Kind
   · rw [if_pos c2]; exact no (by unfold eK; rw [decide_eq_false_iff_not]; intro q; omega) rfl
   rw [if_neg c2]
   have PU:=PW (by omega) (by omega)
   by_cases c3:(e.Kids.length:Int)≠kids
   · rw [if_pos c3]; exact no (by unfold eK; rw [decide_eq_false_iff_not]; intro q; omega) rfl
   rw [if_neg c3]
   have Nk:(e.Kids.length:Int)=kids:=Classical.not_not.1 c3
   subst Nk
   by_cases c4:named=decide (e.Name≠ [])
   case neg=>
    rw [if_pos c4]
    refine no (by
     unfold eK; rw [decide_eq_false_iff_not]; intro q
     apply c4
     rw [Bool.eq_iff_iff,hnm,decide_eq_true_eq]
     exact q.2.2.1) rfl
   rw [if_neg (fun q=>q c4)]
   have FI:(e.Kind=2∨e.Kind=4)↔e.Name≠ []:=by rw [← hnm,c4,decide_eq_true_eq]
   have tail:(named=true→bT e.Name=true)→ ∃ b,(if e.N<0 then some false else if 0<e.N then if e.Kind≠1 then some false else mm (jV k) k' e.Kind e.N e.Name e.Kids e.At (e.Kids.length:Int) 0 else mm (jV k) k' e.Kind e.N e.Name e.Kids e.At (e.Kids.length:Int) 0)=some b∧(b=true↔Tr e):=fun hnp=>by
    have hk2:e.Kids.length≤2:=by
     have Cy:=PU
     rw [zx (by omega) (by omega)] at Cy
     split at Cy <;> (try split at Cy) <;> omega
    obtain ⟨b,hb,hb'⟩:=loop e.Kids.length 0 (by omega) k' (by omega)
    by_cases d1:e.N<0
    · rw [if_pos d1]; exact no (by unfold eK; rw [decide_eq_false_iff_not]; intro q; omega) rfl
    rw [if_neg d1]
    by_cases d2:0<e.N
    · rw [if_pos d2]
      by_cases d3:e.Kind≠1
      · rw [if_pos d3]; exact no (by unfold eK; rw [decide_eq_false_iff_not]; intro q; omega) rfl
      · rw [if_neg d3]
        refine ⟨b,hb, ?_⟩
        rw [hb',A7 h3.2,List.drop_zero]
        exact ⟨fun q=>⟨by unfold eK; rw [decide_eq_true_eq]; exact ⟨by omega,by omega,FI,fun z=>hnp (hnm.2 z),by omega⟩,q⟩,fun q=>q.2⟩
    · rw [if_neg d2]
      refine ⟨b,hb, ?_⟩
      rw [hb',A7 h3.2,List.drop_zero]
      exact ⟨fun q=>⟨by unfold eK; rw [decide_eq_true_eq]; exact ⟨by omega,by omega,FI,fun z=>hnp (hnm.2 z),by omega⟩,q⟩,fun q=>q.2⟩
   cases hb:named with
   | false=>rw [cond_false]; exact tail (fun q=>by rw [hb] at q; cases q)
   | true=>
    rw [cond_true,D9 _ (by omega),aa]
    cases hP:bT e.Name with
    | false=>
     exact no (by unfold eK; rw [decide_eq_false_iff_not]; intro q; have :=q.2.2.2.1 (hnm.1 hb); rw [hP] at this; cases this) rfl
    | true=>rw [Bool.not_true,cond_false]; exact tail (fun _=>hP)
  unfold zV
  have pick: ∀ named:Bool,(named=true↔e.Kind=2∨e.Kind=4)→ ∃ b,(if e.Kind<5 then kI (jV k) k e.Kind e.N e.Name e.Kids e.At named 0 else if e.Kind≤6 then kI (jV k) k e.Kind e.N e.Name e.Kids e.At named 1 else kI (jV k) k e.Kind e.N e.Name e.Kids e.At named 2)=some b∧(b=true↔Tr e):=fun named hnm=>by
   by_cases h5:e.Kind<5
   · rw [if_pos h5]; exact c0 named 0 hnm (fun a b=>by rw [zx a b,if_pos h5]) k (by omega)
   · rw [if_neg h5]
     by_cases h6:e.Kind≤6
     · rw [if_pos h6]; exact c0 named 1 hnm (fun a b=>by rw [zx a b,if_neg h5,if_pos h6]) k (by omega)
     · rw [if_neg h6]; exact c0 named 2 hnm (fun a b=>by rw [zx a b,if_neg h5,if_neg h6]) k (by omega)
  by_cases hk2:e.Kind=2
  · rw [if_pos hk2]; exact pick true (by simp [hk2])
  · rw [if_neg hk2]; exact pick (decide (e.Kind=4)) (by simp [hk2])
theorem jX (k:Int):mY k=some (lvl k):=by
 unfold mY lvl
 by_cases h19:k=19
 · rw [if_pos h19,if_pos h19]
 rw [if_neg h19,if_neg h19]
 by_cases yF:k=18
 · rw [if_pos yF,if_pos yF]
 rw [if_neg yF,if_neg yF]
 repeat' split
 all_goals first
  | rfl
  | (exfalso; omega)
end Go.Sy.Ex
namespace Go.Sy.Ex
open Go.Sy
theorem Ds {t:T} (h:t.ok) {a:Int} (ha:a≤7):aT t a=aT t 1+(if lvl t.kind<a then 1 else 0):=by
 rw [zu h ha,zu h (a:=1) (by decide)]
 have :=Di t.kind
 rw [if_neg (c:=lvl t.kind<1) (by omega)]
 omega
theorem tD: ∀ (t:T) (a:Int),aT t a≤2*t.sz
 | .num n,a=>by simp only [aT,T.sz]; unfold jQ; split <;> omega
 | .var n,a=>by simp only [aT,T.sz]; unfold jQ; split <;> omega
 | .arg,a=>by simp only [aT,T.sz]; unfold jQ; split <;> omega
 | .d_ n,a=>by simp only [aT,T.sz]; unfold jQ; split <;> omega
 | .un k t,a=>by have :=tD t 6; simp only [aT,T.sz]; unfold jQ; split <;> omega
 | .bin k x y,a=>by have :=tD x (b9 k); have :=tD y (cB k); simp only [aT,T.sz]; unfold jQ; split <;> omega
theorem Dn: ∀ (t:T) (e:af),Is t e→t.ok→t.sz≤1000000→ ∀ k,4*t.sz+6≤k→iS k e=some ((aT t 1:Nat):Int):=by
 have leaf: ∀ (t:T) (e:af),e.Kids= []→aT t 1=0→ ∀ k,4≤k→iS k e=some ((aT t 1:Nat):Int):=fun t e h h0 k hk=>by
  obtain ⟨k,rfl⟩: ∃ j,k=j+2:=⟨k - 2,by omega⟩
  show pH (iS (k+1)) (k+1) e=_
  unfold pH
  simp only [iT]
  rw [if_neg (by rw [h]; simp),h0]; rfl
 intro t
 induction t with
 | num n=>intro e h hok hs k hk; exact leaf _ e h.2.2.2 rfl k (by omega)
 | var n=>intro e h hok hs k hk; exact leaf _ e h.2.2.2 rfl k (by omega)
 | arg=>intro e h hok hs k hk; exact leaf _ e h.2.2.2 rfl k (by omega)
 | d_ n=>intro e h hok hs k hk; exact leaf _ e h.2.2.2 rfl k (by omega)
 | un q t ih=>
  intro e h hok hs k hk
  obtain ⟨h1,h2,h3,x,h4,h5⟩:=h
  simp only [T.sz] at hs hk
  obtain ⟨k,rfl⟩: ∃ j,k=j+4:=⟨k - 4,by omega⟩
  have hlv:lvl q=6:=by rcases hok.1 with rfl | rfl <;> decide
  have hx:=ih x h5 hok.2 (by omega) (k+3) (by omega)
  have hb:=tD t 1
  show pH (iS (k+3)) (k+3) e=_
  unfold pH
  simp only [iT,n6]
  rw [h4,h1]
  rw [if_pos (by simp),jX,aa,hlv,if_neg (by decide),if_pos (by decide),if_pos (by simp)]
  rw [show [x].getD (0:Int).toNat af.z=x from rfl,hx,aa,if_pos (by decide),if_pos (by simp),jX,aa]
  have Hx:aT (.un q t) 1=aT t 6+1:=by simp only [aT]; rw [iM (by omega)]
  have cG:=Ds hok.2 (a:=6) (by decide)
  have nL:x.Kind=t.kind:=h5.kind
  rw [nL]
  have w1:ag (((aT t 1:Nat):Int)+1)=((aT t 1+1:Nat):Int):=nx (by omega)
  have w2:ag (((aT t 1+1:Nat):Int)+1)=((aT t 1+2:Nat):Int):=nx (by omega)
  have w0:ag ((0:Int)+1)=1:=by rw [bD (by decide) (by decide)]; rfl
  by_cases hlt:lvl t.kind<6
  · rw [if_pos hlt] at cG ⊢
    rw [if_pos rfl,w1,w2,w0,if_neg (by simp),Hx,cG]
    congr 1; (try omega)
  · rw [if_neg hlt] at cG ⊢
    rw [if_pos rfl,w1,w0,if_neg (by simp),Hx,cG]
    congr 1; (try omega)
 | bin q a b qZ q_=>
  intro e h hok hs k hk
  obtain ⟨rfl,h2,h3,x,y,h4,h5,h6⟩:=h
  simp only [T.sz] at hs hk
  obtain ⟨k,rfl⟩: ∃ j,k=j+6:=⟨k - 6,by omega⟩
  have hr:=(mG hok.1.1 hok.1.2).2
  have hx:=qZ x h5 hok.2.1 (by omega) (k+5) (by omega)
  have hy:=q_ y h6 hok.2.2 (by omega) (k+5) (by omega)
  have hba:=tD a 1
  have s8:=tD b 1
  have hn:aT (.bin e.Kind a b) 1=max (aT a (b9 e.Kind)) (aT b (cB e.Kind)):=by simp only [aT]; rw [iM (by omega)]
  have hlf:b9 e.Kind≤7:=by unfold b9; split <;> omega
  have oU:cB e.Kind≤7:=by unfold cB; split <;> omega
  have yK:=Ds hok.2.1 hlf
  have yL:=Ds hok.2.2 oU
  have nL:x.Kind=a.kind:=h5.kind
  have PY:y.Kind=b.kind:=h6.kind
  have wa:ag (((aT a 1:Nat):Int)+1)=((aT a 1+1:Nat):Int):=nx (by omega)
  have wb:ag (((aT b 1:Nat):Int)+1)=((aT b 1+1:Nat):Int):=nx (by omega)
  have w0:ag ((0:Int)+1)=1:=by rw [bD (by decide) (by decide)]; rfl
  have w1:ag ((1:Int)+1)=2:=by rw [bD (by decide) (by decide)]; rfl
  have step0: ∀ most asks,asks=b9 e.Kind→n6 (iS (k+5)) (k+4) e.Kind e.N e.Name e.Kids e.At most 0 (lvl e.Kind) asks=iT (iS (k+5)) (k+3) e.Kind e.N e.Name e.Kids e.At (max most ((aT a (b9 e.Kind):Nat):Int)) 1:=fun most asks ha=>by
   conv=>lhs; rw [n6.eq_2]
   rw [h4,if_pos (by decide),if_pos (by simp),show [x,y].getD (0:Int).toNat af.z=x from rfl,hx,aa,if_pos (by decide),if_pos (by simp),jX,aa,nL,ha]
   by_cases hlt:lvl a.kind<b9 e.Kind
   · rw [if_pos hlt] at yK ⊢
     rw [if_neg (by omega),wa,w0,yK]
   · rw [if_neg hlt] at yK ⊢
     rw [if_neg (by omega),w0,yK]; rfl
  have step1: ∀ most asks,asks=cB e.Kind→n6 (iS (k+5)) (k+2) e.Kind e.N e.Name e.Kids e.At most 1 (lvl e.Kind) asks=iT (iS (k+5)) (k+1) e.Kind e.N e.Name e.Kids e.At (max most ((aT b (cB e.Kind):Nat):Int)) 2:=fun most asks ha=>by
   conv=>lhs; rw [n6.eq_2]
   rw [h4,if_pos (by decide),if_pos (by simp),show [x,y].getD (1:Int).toNat af.z=y from rfl,hy,aa,if_pos (by decide),if_pos (by simp),jX,aa,PY,ha]
   by_cases hlt:lvl b.kind<cB e.Kind
   · rw [if_pos hlt] at yL ⊢
     rw [if_neg (by omega),wb,w1,yL]
   · rw [if_neg hlt] at yL ⊢
     rw [if_neg (by omega),w1,yL]; rfl
  show pH (iS (k+5)) (k+5) e=_
  unfold pH
  rw [iT.eq_2,if_pos (by rw [h4]; simp),jX,aa,if_pos (by omega)]
  have fin:iT (iS (k+5)) (k+1) e.Kind e.N e.Name e.Kids e.At (max (max (0:Int) ((aT a (b9 e.Kind):Nat):Int)) ((aT b (cB e.Kind):Nat):Int)) 2=some ((aT (.bin e.Kind a b) 1:Nat):Int):=by
   rw [iT.eq_2,if_neg (by rw [h4]; simp),hn]
   congr 1; omega
  have mid:iT (iS (k+5)) (k+3) e.Kind e.N e.Name e.Kids e.At (max (0:Int) ((aT a (b9 e.Kind):Nat):Int)) 1=some ((aT (.bin e.Kind a b) 1:Nat):Int):=by
   rw [iT.eq_2,if_pos (by rw [h4]; simp),jX,aa,if_pos (by omega)]
   by_cases fO:lvl e.Kind=3
   · rw [if_pos fO]
     rw [step1 _ 4 (by unfold cB; rw [if_pos fO])]; exact fin
   · rw [if_neg fO]
     rw [step1 _ _ (by unfold cB; rw [if_neg fO,bD (by omega) (by omega)])]; exact fin
  by_cases fO:lvl e.Kind=3
  · rw [if_pos fO]
    rw [step0 _ 4 (by unfold b9; rw [if_pos fO])]; exact mid
  · rw [if_neg fO]
    rw [step0 _ _ (by unfold b9; rw [if_neg fO,bD (by omega) (by omega)]; omega)]; exact mid
theorem SW {n:Nat} {e:af} (h:Fw n e) (hz:ez n e≤1000000): ∃ b,ud e=some b∧(b=true↔ ∃ t,Is t e∧t.ok∧aT t 1≤12):=by
 obtain ⟨b, -,hb'⟩:=Ea n e h (n+6) (Nat.le_refl _)
 have hs:zU e=some b:=cu (n+6) fun k hk=>by
  obtain ⟨b2,h1,h2⟩:=Ea n e h k hk
  have :b2=b:=by rw [Bool.eq_iff_iff,h2,hb']
  rw [← this]; exact h1
 unfold ud
 rw [eta,hs,aa]
 cases b with
 | false=>
  exact ⟨false,rfl,⟨fun q=>(by cases q),fun ⟨t,h1,h2,_⟩=>hb'.2 ⟨t,h1,h2⟩⟩⟩
 | true=>
  obtain ⟨t,h1,h2⟩:=hb'.1 rfl
  have hsz:=h1.ez h
  rw [cond_true,show ue e=some ((aT t 1:Nat):Int) from cu (4*t.sz+6) fun k hk=>Dn t e h1 h2 (by omega) k hk,aa]
  refine ⟨_,rfl, ?_⟩
  rw [decide_eq_true_eq]
  constructor
  · intro q; exact ⟨t,h1,h2,by omega⟩
  · rintro ⟨t',h1',lS,q⟩
    have e1:ue e=some ((aT t 1:Nat):Int):=cu (4*t.sz+6) fun k hk=>Dn t e h1 h2 (by omega) k hk
    have yX:=h1'.ez h
    have e2:ue e=some ((aT t' 1:Nat):Int):=cu (4*t'.sz+6) fun k hk=>Dn t' e h1' lS (by omega) k hk
    rw [e1] at e2
    injection e2 with e2
    omega
theorem IV {t:T} (h:t.ok) {a:Int} (ha:a≤7):pr t a=if lvl t.kind<a then 40::pr t 1++ [41] else pr t 1:=by
 cases t with
 | num n=>
  have hk:lvl (T.num n).kind=7:=by show lvl 1=7; decide
  rw [if_neg (c:=lvl _<a) (by omega)]; simp only [pr]; rw [ec (by omega),ec (by omega)]
 | var n=>
  have hk:lvl (T.var n).kind=7:=by show lvl 2=7; decide
  rw [if_neg (c:=lvl _<a) (by omega)]; simp only [pr]; rw [ec (by omega),ec (by omega)]
 | arg=>
  have hk:lvl T.arg.kind=7:=by show lvl 3=7; decide
  rw [if_neg (c:=lvl _<a) (by omega)]; simp only [pr]; rw [ec (by omega),ec (by omega)]
 | d_ n=>
  have hk:lvl (T.d_ n).kind=7:=by show lvl 4=7; decide
  rw [if_neg (c:=lvl _<a) (by omega)]; simp only [pr]; rw [ec (by omega),ec (by omega)]
 | un k t=>
  have hk:lvl (T.un k t).kind=6:=by show lvl k=6; rcases h.1 with rfl | rfl <;> decide
  simp only [pr]
  by_cases h6:6<a
  · rw [if_pos (c:=lvl _<a) (by omega),nV h6,ec (by omega)]
  · rw [if_neg (c:=lvl _<a) (by omega),ec h6,ec (by omega)]
 | bin k x y=>
  have hr:=(mG h.1.1 h.1.2).2
  have hk:lvl (T.bin k x y).kind=lvl k:=rfl
  simp only [pr]
  by_cases h6:lvl k<a
  · rw [if_pos (c:=lvl (T.bin k x y).kind<a) (by omega),nV h6,ec (by omega)]
  · rw [if_neg (c:=lvl (T.bin k x y).kind<a) (by omega),ec h6,ec (by omega)]
theorem DH {t:T} (h:t.ok) {a:Int} (ha:a≤7):(pr t 1).length≤(pr t a).length:=by
 rw [IV h ha]; split
 · simp; omega
 · exact Nat.le_refl _
theorem D8 (self:af→Option (List UInt8)) {t:T} {e:af} (h:Is t e) (hok:t.ok) {a:Int} (ha:a≤7) (hs:self e=some (pr t 1)) (hl:(pr t a).length≤9223372036854775807):jy self e a=some (pr t a):=by
 unfold jy
 rw [jX,aa,eta,hs,aa,h.kind]
 rw [IV hok ha] at hl ⊢
 by_cases hlt:lvl t.kind<a
 · rw [if_pos hlt] at hl ⊢
   simp only [List.length_append,List.length_cons,List.length_nil] at hl
   rw [if_pos hlt]
   rw [if_pos (by simp; omega),if_pos (by simp; omega)]; rfl
 · rw [if_neg hlt] at hl ⊢
   rw [if_neg hlt,aa]
theorem Uk {k:Int} (h:7≤k∧k≤19):mo k=some (dD k):=by
 have hk:k=7∨k=8∨k=9∨k=10∨k=11∨k=12∨k=13∨k=14∨k=15∨k=16∨k=17∨k=18∨k=19:=by omega
 rcases hk with rfl | rfl | rfl | rfl | rfl | rfl | rfl | rfl | rfl | rfl | rfl | rfl | rfl <;> decide
theorem SV: ∀ (t:T) (e:af),Is t e→t.ok→(pr t 1).length≤9223372036854775807→ ∀ k,t.sz+1≤k→jx k e=some (pr t 1):=by
 intro t
 induction t with
 | num n=>
  intro e h hok hl k hk
  obtain ⟨k,rfl⟩: ∃ j,k=j+1:=⟨k - 1,by omega⟩
  show jw (jx k) k e=_
  unfold jw
  rw [jX,aa,if_pos h.1,h.2.1,ET n (by have :=hok.1; omega) hok.2,aa]
  simp only [pr]; rw [ec (by decide)]
 | var s=>
  intro e h hok hl k hk
  obtain ⟨k,rfl⟩: ∃ j,k=j+1:=⟨k - 1,by omega⟩
  show jw (jx k) k e=_
  unfold jw
  rw [jX,aa,if_neg (by rw [h.1]; decide),if_pos h.1,h.2.2.1]
  simp only [pr]; rw [ec (by decide)]
 | arg=>
  intro e h hok hl k hk
  obtain ⟨k,rfl⟩: ∃ j,k=j+1:=⟨k - 1,by omega⟩
  show jw (jx k) k e=_
  unfold jw
  rw [jX,aa,if_neg (by rw [h.1]; decide),if_neg (by rw [h.1]; decide),if_pos h.1]
  simp only [pr]; rw [ec (by decide)]
 | d_ s=>
  intro e h hok hl k hk
  obtain ⟨k,rfl⟩: ∃ j,k=j+1:=⟨k - 1,by omega⟩
  show jw (jx k) k e=_
  unfold jw
  have :=(eB hok).2.1
  rw [jX,aa,if_neg (by rw [h.1]; decide),if_neg (by rw [h.1]; decide),if_neg (by rw [h.1]; decide),if_pos h.1,h.2.2.1,if_pos (by simp; omega),if_pos (by simp; omega)]
  simp only [pr]; rw [ec (by decide)]
 | un q t ih=>
  intro e h hok hl k hk
  obtain ⟨h1,h2,h3,x,h4,h5⟩:=h
  simp only [T.sz] at hk
  obtain ⟨k,rfl⟩: ∃ j,k=j+1:=⟨k - 1,by omega⟩
  have hp:pr (.un q t) 1=(if q=5 then 45 else 33)::pr t 6:=by simp only [pr]; rw [ec (by decide)]
  rw [hp] at hl ⊢
  simp only [List.length_cons] at hl
  have W0:=DH hok.2 (a:=6) (by decide)
  have hx:=D8 (jx k) h5 hok.2 (a:=6) (by decide) (ih x h5 hok.2 (by omega) k (by omega)) (by omega)
  show jw (jx k) k e=_
  unfold jw
  rw [jX,aa,h1]
  rcases hok.1 with rfl | rfl
  · rw [if_neg (by decide),if_neg (by decide),if_neg (by decide),if_neg (by decide),if_pos rfl,if_pos rfl,show mo 5=some dA from by decide,aa,if_pos (by decide),if_pos (by rw [h4]; simp),h4,show [x].getD (0:Int).toNat af.z=x from rfl,hx,aa,if_pos (by simp; omega)]
    rfl
  · rw [if_neg (by decide),if_neg (by decide),if_neg (by decide),if_neg (by decide),if_neg (by decide),if_pos rfl,show mo 6=some gN from by decide,aa,if_pos (by decide),if_pos (by rw [h4]; simp),h4,show [x].getD (0:Int).toNat af.z=x from rfl,hx,aa,if_pos (by simp; omega)]
    rfl
 | bin q a b qZ q_=>
  intro e h hok hl k hk
  obtain ⟨h1,h2,h3,x,y,h4,h5,h6⟩:=h
  simp only [T.sz] at hk
  obtain ⟨k,rfl⟩: ∃ j,k=j+1:=⟨k - 1,by omega⟩
  have hr:=(mG hok.1.1 hok.1.2).2
  have hp:pr (.bin q a b) 1=pr a (b9 q)++(aJ++dD q++aJ)++pr b (cB q):=by simp only [pr]; rw [ec (by omega)]
  rw [hp] at hl ⊢
  simp only [List.length_append,List.length_cons,List.length_nil] at hl
  have hlf:b9 q≤7:=by unfold b9; split <;> omega
  have oU:cB q≤7:=by unfold cB; split <;> omega
  have WY:=DH hok.2.1 hlf
  have WZ:=DH hok.2.2 oU
  have hx:=D8 (jx k) h5 hok.2.1 hlf (qZ x h5 hok.2.1 (by omega) k (by omega)) (by omega)
  have hy:=D8 (jx k) h6 hok.2.2 oU (q_ y h6 hok.2.2 (by omega) k (by omega)) (by omega)
  show jw (jx k) k e=_
  unfold jw
  have hwr:ag (lvl q+1)=lvl q+1:=bD (by omega) (by omega)
  have W5:aJ.length=1:=rfl
  have hq:7≤q∧q≤19:=hok.1
  have e1: [x,y].getD (0:Int).toNat af.z=x:=rfl
  have e2: [x,y].getD (1:Int).toNat af.z=y:=rfl
  rw [jX,aa,h1,if_neg (by omega),if_neg (by omega),if_neg (by omega),if_neg (by omega),if_neg (by omega),if_neg (by omega),Uk hok.1]
  simp only [aa,h4,e1,e2,hwr]
  by_cases fO:lvl q=3
  · have el:b9 q=4:=by unfold b9; rw [if_pos fO]
    have er:cB q=lvl q+1:=by unfold cB; rw [if_pos fO]; omega
    rw [el,er] at hl ⊢
    rw [el] at hx
    rw [er] at hy
    rw [if_pos fO,if_pos (by decide),if_pos (by simp),hx,aa,if_pos (by (try simp only [List.length_append]); omega),if_pos (by (try simp only [List.length_append]); omega),if_pos (by (try simp only [List.length_append]); omega),if_pos (by decide),if_pos (by simp),hy,aa,if_pos (by (try simp only [List.length_append]); omega)]
    simp
  · have el:b9 q=lvl q:=by unfold b9; rw [if_neg fO]
    have er:cB q=lvl q+1:=by unfold cB; rw [if_neg fO]
    rw [el,er] at hl ⊢
    rw [el] at hx
    rw [er] at hy
    rw [if_neg fO,if_pos (by decide),if_pos (by simp),hx,aa,if_pos (by (try simp only [List.length_append]); omega),if_pos (by (try simp only [List.length_append]); omega),if_pos (by (try simp only [List.length_append]); omega),if_pos (by decide),if_pos (by simp),hy,aa,if_pos (by (try simp only [List.length_append]); omega)]
    simp
theorem I4 {t:T} {e:af} (h:Is t e) (hok:t.ok) (hl:(pr t 1).length≤9223372036854775807):uc e=some (pr t 1):=cu (t.sz+1) fun k hk=>SV t e h hok hl k hk
theorem zA: ∀ (t:T) (a:Int),t.ok→(pr t a).length≤40*t.sz
 | .num n,a,h=>by
  have :=HV h.1 h.2
  have :=(tI (7<a) (Lib.itoa n)).2
  simp only [pr,T.sz]; omega
 | .var s,a,h=>by
  have :=(eB h).2.1
  have :=(tI (7<a) s).2
  simp only [pr,T.sz]; omega
 | .arg,a,h=>by
  have :=(tI (7<a) [36]).2
  simp only [pr,T.sz]; simp at this; omega
 | .d_ s,a,h=>by
  have :=(eB h).2.1
  have :=(tI (7<a) (fY++s++bw)).2
  simp at this
  simp only [pr,T.sz]; simp; omega
 | .un k t,a,h=>by
  have :=zA t 6 h.2
  have :=(tI (6<a) ((if k=5 then 45 else 33)::pr t 6)).2
  simp only [List.length_cons] at this
  simp only [pr,T.sz]; omega
 | .bin k x y,a,h=>by
  have :=zA x (b9 k) h.2.1
  have :=zA y (cB k) h.2.2
  have :=xB k
  have :=(tI (lvl k<a) (pr x (b9 k)++(aJ++dD k++aJ)++pr y (cB k))).2
  simp only [List.length_append,List.length_cons,List.length_nil] at this
  simp only [pr,T.sz]; omega
end Go.Sy.Ex
namespace Go.Sy.Ex
open Go.Sy
def iZ:Nat→af→af→Bool
 | 0,_,_=>false
 | n+1,a,b=>decide (a.Kind=b.Kind∧a.N=b.N∧a.Name=b.Name∧a.Kids.length=b.Kids.length)&&(a.Kids.zip b.Kids).all fun p=>iZ n p.1 p.2
theorem Wx {α:Type} {l r:List α} {i:Nat} (hi:i<l.length) (hr:l.length=r.length):(l.zip r).drop i=(l[i],r[i]'(by omega))::(l.zip r).drop (i+1):=by
 rw [List.drop_eq_getElem_cons (by rw [List.length_zip]; omega),List.getElem_zip]
theorem BO (n:Nat) (f:af×af→Option Bool) (l r:List af) (hl:l.length≤10000000000000) (hf: ∀ x ∈ l, ∀ y,f (x,y)=some (iZ n x y)):
 rY l r f=some (decide (l.length=r.length)&&(l.zip r).all fun p=>iZ n p.1 p.2):=cu (l.length+1) fun k hk=>by
 show AP k l r f=_
 unfold AP
 by_cases hlr:l.length=r.length
 · rw [if_neg (by omega),decide_eq_true hlr,Bool.true_and]
   have loop: ∀ m i,i+m=l.length→ ∀ k,m+1≤k→uy k r f l (l.length:Int) ((i:Nat):Int)=some (((l.zip r).drop i).all fun p=>iZ n p.1 p.2):=by
    intro m
    induction m with
    | zero=>
     intro i h k hk
     obtain ⟨k,rfl⟩: ∃ j,k=j+1:=⟨k - 1,by omega⟩
     simp only [uy]
     rw [if_neg (by omega),List.drop_eq_nil_of_le (by rw [List.length_zip]; omega)]; rfl
    | succ m ih=>
     intro i h k hk
     obtain ⟨k,rfl⟩: ∃ j,k=j+1:=⟨k - 1,by omega⟩
     have hi:i<l.length:=by omega
     simp only [uy]
     rw [if_pos (by omega),if_pos (by omega),if_pos (by omega),if_pos (by omega),if_pos (by omega),Int.toNat_natCast,cO _ hi,cO _ (show i<r.length by omega),eta,eta,hf _ (List.getElem_mem hi),aa,Wx hi hlr,List.all_cons]
     cases iZ n l[i] (r[i]'(by omega)) with
     | false=>rfl
     | true=>rw [Bool.not_true,cond_false,nx (by omega),ih (i+1) (by omega) k (by omega),Bool.true_and]
   exact loop l.length 0 (by omega) k hk
 · rw [if_pos (by omega),decide_eq_false hlr,Bool.false_and]
theorem JV: ∀ (n:Nat) (a b:af),Fw n a→ ∀ k,n≤k→sS k a b=some (iZ n a b)
 | 0,a,b,h,_,_=>h.elim
 | n+1,a,b,⟨h1,h2,h3,h4⟩,k,hk=>by
  obtain ⟨k,rfl⟩: ∃ j,k=j+1:=⟨k - 1,by omega⟩
  show ym (sS k) k a b=_
  unfold ym iZ
  by_cases c1:a.Kind=b.Kind
  · rw [if_pos c1]
    by_cases c2:a.N=b.N
    · rw [if_pos c2]
      by_cases c3:a.Name=b.Name
      · rw [if_pos c3,BO n _ _ _ (by omega) (fun x hx y=>JV n x y (h4 x hx) k (by omega)),aa]
        congr 2
        rw [decide_eq_decide]
        exact ⟨fun q=>⟨c1,c2,c3,q⟩,fun q=>q.2.2.2⟩
      · rw [if_neg c3,decide_eq_false (fun q=>c3 q.2.2.1),Bool.false_and]
    · rw [if_neg c2,decide_eq_false (fun q=>c2 q.2.1),Bool.false_and]
  · rw [if_neg c1,decide_eq_false (fun q=>c1 q.1),Bool.false_and]
theorem Lp {n:Nat} {a:af} (h:Fw n a) (b:af):vl a b=some (iZ n a b):=cu n fun k hk=>JV n a b h k hk
theorem AQ: ∀ {t:T} {n:Nat} {a b:af},Is t a→Is t b→Fw n a→iZ n a b=true
 | t,0,a,b,_,_,h=>h.elim
 | .num _,n+1,a,b,ha,hb,_=>by
  unfold iZ; rw [ha.1,ha.2.1,ha.2.2.1,ha.2.2.2,hb.1,hb.2.1,hb.2.2.1,hb.2.2.2]; simp
 | .var _,n+1,a,b,ha,hb,_=>by
  unfold iZ; rw [ha.1,ha.2.1,ha.2.2.1,ha.2.2.2,hb.1,hb.2.1,hb.2.2.1,hb.2.2.2]; simp
 | .arg,n+1,a,b,ha,hb,_=>by
  unfold iZ; rw [ha.1,ha.2.1,ha.2.2.1,ha.2.2.2,hb.1,hb.2.1,hb.2.2.1,hb.2.2.2]; simp
 | .d_ _,n+1,a,b,ha,hb,_=>by
  unfold iZ; rw [ha.1,ha.2.1,ha.2.2.1,ha.2.2.2,hb.1,hb.2.1,hb.2.2.1,hb.2.2.2]; simp
 | .un k t,n+1,a,b,ha,hb,hf=>by
  obtain ⟨a1,a2,a3,x,a4,a5⟩:=ha
  obtain ⟨b1,b2,b3,y,b4,b5⟩:=hb
  have :=AQ a5 b5 (hf.2.2.2 x (by rw [a4]; simp))
  unfold iZ; rw [a1,a2,a3,a4,b1,b2,b3,b4]; simp [this]
 | .bin k s t,n+1,a,b,ha,hb,hf=>by
  obtain ⟨a1,a2,a3,x,x',a4,a5,a6⟩:=ha
  obtain ⟨b1,b2,b3,y,y',b4,b5,b6⟩:=hb
  have h1:=AQ a5 b5 (hf.2.2.2 x (by rw [a4]; simp))
  have h2:=AQ a6 b6 (hf.2.2.2 x' (by rw [a4]; simp))
  unfold iZ; rw [a1,a2,a3,a4,b1,b2,b3,b4]; simp [h1,h2]
end Go.Sy.Ex
namespace Go.Sy.Ex
open Go.Sy
def T.dp:T→Nat
 | .un _ t=>t.dp+1
 | .bin _ a b=>max a.dp b.dp+1
 | _=>0
end Go.Sy.Ex
namespace Go.Sy.Ex
open Go.Sy
end Go.Sy.Ex
namespace Go.Sy.Ex
open Go.Sy
def rs (l:List ax) (i o:Nat):aU:=⟨l,(i:Int),(o:Int),⟨0,0⟩⟩
def fA (t:ax):bf:=if t.Kind=4 then ⟨12,t.At⟩ else ⟨11,t.At⟩
theorem nE (t:ax):(fA t).Code≠0:=by unfold fA; split <;> (dsimp only; decide)
section
variable {l:List ax} {i o:Nat}
theorem pM (hi:i<l.length) (s:List UInt8):pJ (rs l i o) s=some (br (aj l i) s,rs l i o):=by
 have h:zP l ((i:Nat):Int) s=some (br (aj l i) s):=by
  unfold zP br
  have e:l.getD ((i:Nat):Int).toNat ax.z=aj l i:=by rw [Int.toNat_natCast]; rfl
  rw [e]
  have a1:((i:Nat):Int)<(l.length:Int):=by omega
  have a2:0≤((i:Nat):Int):=by omega
  simp only [a1,a2,if_true]
  by_cases h3:(aj l i).Kind=3
  · rw [if_pos h3]; congr 1; rw [decide_eq_decide]; simp [h3]
  · rw [if_neg h3]
    by_cases h1:(aj l i).Kind=1
    · rw [if_pos h1]; congr 1; rw [decide_eq_decide]; simp [h1]
    · rw [if_neg h1]; congr 1; symm; rw [decide_eq_false_iff_not]; rintro ⟨h | h,_⟩ <;> contradiction
 show (zP l ((i:Nat):Int) s).bind _=_
 rw [h,aa]
theorem SX (hi:i<l.length):zO l ((i:Nat):Int)=some (fA (aj l i)):=by
 unfold zO fA
 have e:l.getD ((i:Nat):Int).toNat ax.z=aj l i:=by rw [Int.toNat_natCast]; rfl
 rw [e]
 have a1:((i:Nat):Int)<(l.length:Int):=by omega
 have a2:0≤((i:Nat):Int):=by omega
 simp only [a1,a2,if_true]
 split <;> rfl
theorem Eh (hi:i<l.length):uf (rs l i o)=some (af.mk 0 0 [] [] 0,aU.mk l (i:Int) (o:Int) (fA (aj l i))):=by
 unfold uf
 rw [if_pos (by rfl)]
 show (zO l ((i:Nat):Int)).bind _=_
 rw [SX hi,aa]; rfl
theorem EO (hi:i<l.length):kG (st l i o)=some (aE.mk (bC.mk l (i:Int) (fA (aj l i))) (o:Int)):=by
 unfold kG
 rw [ic hi,aa]
 dsimp only
 unfold fA
 by_cases h4:(aj l i).Kind=4
 · rw [if_pos h4,if_pos h4]
   unfold me
   rw [wD,aa]
   rfl
 · rw [if_neg h4,if_neg h4]
   unfold me
   rw [wD,aa]
   rfl
theorem EJ (hi:i<l.length) (hl:l.length≤100000) {s:List UInt8} (h:br (aj l i) s=false):iQ (st l i o) s=some (aE.mk (bC.mk l (i:Int) (fA (aj l i))) (o:Int)):=by
 unfold iQ
 rw [xy hi hl,aa,h]
 dsimp only [Bool.not_false,cond_true]
 rw [if_neg (by decide),EO hi,aa]
 rfl
theorem Ab (hi:i<l.length) (hl:l.length≤100000) {s:List UInt8} (h:br (aj l i) s=true):jz (rs l i o) s=some (rs l (i+1) o):=by
 unfold jz
 rw [if_neg (by intro q; exact q rfl),pM hi,aa,h]
 show some (aU.mk l (ag ((i:Int)+1)) (o:Int) ⟨0,0⟩)=_
 rw [ig hi hl]; rfl
theorem Eg (hi:i<l.length) {s:List UInt8} (h:br (aj l i) s=false):jz (rs l i o) s=some (aU.mk l (i:Int) (o:Int) (fA (aj l i))):=by
 unfold jz
 rw [if_neg (by intro q; exact q rfl),pM hi,aa,h]
 dsimp only [Bool.not_false,cond_true]
 rw [Eh hi,aa]
 rfl
theorem D_ (hi:i<l.length):rG l ((i:Nat):Int)=some (decide ((aj l i).Kind=1)&& !fI (aj l i).Text):=by
 unfold rG
 have e:l.getD ((i:Nat):Int).toNat ax.z=aj l i:=by rw [Int.toNat_natCast]; rfl
 rw [e]
 have a1:((i:Nat):Int)<(l.length:Int):=by omega
 have a2:0≤((i:Nat):Int):=by omega
 simp only [a1,a2,if_true]
 by_cases h1:(aj l i).Kind=1
 · rw [if_pos h1,JJ,aa,decide_eq_true h1,Bool.true_and]
 · rw [if_neg h1,decide_eq_false h1,Bool.false_and]
theorem xb (hi:i<l.length) (hl:l.length≤100000) (ho:o<12):jU (rs l i o)=some (true,rs l (i+1) (o+1)):=by
 unfold jU
 rw [if_neg (by show ¬ ((o:Nat):Int)=12; omega)]
 show some (true,aU.mk l (ag ((i:Int)+1)) (ag ((o:Int)+1)) ⟨0,0⟩)=_
 rw [ig hi hl,show ag (((o:Nat):Int)+1)=((o+1:Nat):Int) from by rw [bD (by omega) (by omega)]; omega]
 rfl
theorem Jx (hi:i<l.length):jU (rs l i 12)=some (false,aU.mk l (i:Int) 12 ⟨14,(aj l i).At⟩):=by
 unfold jU
 rw [if_pos (by rfl),if_pos (by show (0:Int)≤(i:Int); omega),if_pos (by show ((i:Nat):Int)<(l.length:Int); omega)]
 show some (false,aU.mk l (i:Int) 12 ⟨14,(l.getD ((i:Nat):Int).toNat ax.z).At⟩)=_
 rw [Int.toNat_natCast]; rfl
theorem FZ (a:Int):jm (st l i 12) a=some (false,aE.mk (bC.mk l (i:Int) ⟨14,a⟩) 12):=by
 unfold jm
 rw [if_pos (by rfl)]
 unfold me
 rw [wD,aa]
 rfl
end
section
variable {s:aE} (h:s.Row.bN.Code≠0)
include h
theorem IE:mX s=some (false,s):=by unfold mX; rw [decide_eq_false h]
theorem wB:gL s=some (ax.mk 4 0 0 [] 0,s):=by
 unfold gL; rw [IE h,aa]; rfl
theorem QN (x:List UInt8):jT s x=some (false,s):=by
 unfold jT; rw [wB h,aa]; rfl
theorem Vp (x:List UInt8):mj s x=some (false,s):=by
 unfold mj; rw [QN h,aa]; rfl
theorem Ou (c a:Int):me s c a=some s:=by
 unfold me; rw [IE h,aa]; rfl
theorem K1:kG s=some s:=by
 unfold kG; rw [wB h,aa]
 dsimp only
 rw [if_pos rfl,Ou h,aa]
theorem EI (x:List UInt8):iQ s x=some s:=by
 unfold iQ; rw [Vp h,aa]
 dsimp only [Bool.not_false,cond_true]
 rw [K1 h,aa]
 rfl
theorem QO:nZ s=some (false,s):=by
 unfold nZ; rw [wB h,aa]; rfl
theorem RS:mh s=some ([],s):=by
 unfold mh; rw [QO h,aa]
 dsimp only [Bool.not_false,cond_true]
 rw [K1 h,aa]
 rfl
end
theorem UF {s:aU} (h:s.bad.Code≠0) (x:List UInt8):jz s x=some s:=by unfold jz; rw [if_pos h]
theorem Gf (s:aE):aE.mk (bC.mk s.Row.L s.Row.At (bf.mk s.Row.bN.Code s.Row.bN.At)) s.aM=s:=by cases s; rename_i r o; cases r; rename_i l a f; cases f; rfl
theorem JB (s:aU):aU.mk s.l s.an s.aM (bf.mk s.bad.Code s.bad.At)=s:=by cases s; rename_i l a o f; cases f; rfl
def Fe:Nat→af→Prop
 | 0,_=>False
 | n+1,e=>e.Kids.length≤2∧ ∀ x ∈ e.Kids,Fe n x
def Fd (e:af):Prop:= ∃ n,Fe n e
theorem Fe.up: ∀ {n m:Nat} {e:af},Fe n e→n≤m→Fe m e
 | 0,_,_,h,_=>h.elim
 | n+1,0,_,_,h=>by omega
 | n+1,m+1,e,⟨h1,h4⟩,h=>⟨h1,fun x hx=>Fe.up (h4 x hx) (by omega)⟩
theorem Fd.leaf {e:af} (h:e.Kids= []):Fd e:=⟨1,by rw [h]; decide,by rw [h]; intro x hx; cases hx⟩
theorem Fd.one {e x:af} (h:e.Kids= [x]) (hx:Fd x):Fd e:=by
 obtain ⟨n,hn⟩:=hx
 exact ⟨n+1,by rw [h]; simp,by rw [h]; intro y hy; rw [List.mem_singleton] at hy; subst hy; exact hn⟩
theorem Fd.two {e x y:af} (h:e.Kids= [x,y]) (hx:Fd x) (hy:Fd y):Fd e:=by
 obtain ⟨n,hn⟩:=hx
 obtain ⟨m,hm⟩:=hy
 refine ⟨max n m+1,by rw [h]; simp, ?_⟩
 rw [h]; intro z hz
 simp only [List.mem_cons,List.not_mem_nil,or_false] at hz
 rcases hz with rfl | rfl
 · exact hn.up (by omega)
 · exact hm.up (by omega)
def Out (l:List ax) (i o:Nat) (f:Nat→Nat→Option (af×aE)) (g:Nat→Nat→Option (af×aU)):Prop:=
 (∃ e i' Z,i≤i'∧i'<l.length∧Fd e∧(∀ k,Z≤k→ ∀ k2,Z≤k2→f k k2=some (e,st l i' o))∧ ∀ k,Z≤k→ ∀ k2,Z≤k2→g k k2=some (e,rs l i' o))∨
 (∃ e s e' s' Z,s.Row.bN.Code≠0∧s'.bad=s.Row.bN∧(∀ k,Z≤k→ ∀ k2,Z≤k2→f k k2=some (e,s))∧ ∀ k,Z≤k→ ∀ k2,Z≤k2→g k k2=some (e',s'))
def R (l:List ax) (m:Int) (i o:Nat):Prop:=Out l (i+1) o (fun k _=>dR k (st l i o) m) (fun k _=>gr k (rs l i o) m)
def SG (l:List ax) (i o:Nat):Prop:=Out l (i+1) o (fun k k2=>gZ (dR k) k2 (st l i o)) (fun k k2=>mZ (gr k) k2 (rs l i o))
structure Ok (l:List ax):Prop where
 len:l.length≤100000
 word: ∀ i,(aj l i).Kind=1→(aj l i).Text≠bK
 more: ∀ i,i<l.length→(aj l i).Kind≠4→i+1<l.length
theorem iD {l:List ax} {i0 o:Nat} {f:Nat→Nat→Option (af×aE)} {g:Nat→Nat→Option (af×aU)} {e:af} {s:aE} {e':af} {s':aU} (Z:Nat) (h1:s.Row.bN.Code≠0) (h2:s'.bad=s.Row.bN) (hf: ∀ k,Z≤k→ ∀ k2,Z≤k2→f k k2=some (e,s)) (hg: ∀ k,Z≤k→ ∀ k2,Z≤k2→g k k2=some (e',s')):Out l i0 o f g:= .inr ⟨e,s,e',s',Z,h1,h2,hf,hg⟩
section
variable {l:List ax} (H:Ok l)
include H
theorem PR {i o:Nat} (hi:i<l.length) (ho:o≤12) (IH: ∀ j o',i<j→j<l.length→o'≤12→R l 1 j o'):
 Out l (i+1) o (fun k _=>gD (dR k) (st l i o)) (fun k _=>kH (gr k) (rs l i o)):=by
 have hl:=H.len
 have more:=fun h4=>H.more i hi h4
 have a1:((i:Nat):Int)<(l.length:Int):=by omega
 have a2:0≤((i:Nat):Int):=by omega
 have et:l.getD ((i:Nat):Int).toNat ax.z=aj l i:=by rw [Int.toNat_natCast]; rfl
 have W8: ∀ i' o',aU.mk l ((i':Nat):Int) ((o':Nat):Int) ⟨0,0⟩=rs l i' o':=fun _ _=>rfl
 have f0: ∀ self,gD self (st l i o)=(if (aj l i).Kind=2 then
  some (af.mk 1 (aj l i).N [] [] (aj l i).At,st l (i+1) o) else
  bif br (aj l i) jB then some (af.mk 3 0 [] [] (aj l i).At,st l (i+1) o) else
  bif decide ((aj l i).Kind=1)&& !fI (aj l i).Text then some (af.mk 2 0 (aj l i).Text [] (aj l i).At,st l (i+1) o) else
  bif br (aj l i) gu then
  (iQ (st l (i+1) o) bK).bind fun r6=>
  (mh r6).bind fun r7=>
  (iQ r7.2 bw).bind fun r8=>
  some (af.mk 4 0 r7.1 [] (aj l i).At,r8) else
  bif !br (aj l i) bK then
  (kG (st l i o)).bind fun cW=>
  some (af.mk 0 0 [] [] 0,cW) else
  (jm (st l i o) (aj l i).At).bind fun di=>
  bif !di.1 then
  some (af.mk 0 0 [] [] 0,di.2) else
  (self di.2 1).bind fun cm=>
  (iQ cm.2 bw).bind fun dV=>
  some (af.mk cm.1.Kind cm.1.N cm.1.Name cm.1.Kids cm.1.At,aE.mk dV.Row (ag (dV.aM - 1)))):=fun self=>by
  unfold gD
  rw [ic hi,aa]
  dsimp only
  by_cases k2:(aj l i).Kind=2
  · rw [if_pos k2,if_pos k2]
    show some (_,(⟨⟨l,ag (((i:Nat):Int)+1),⟨0,0⟩⟩,(o:Int)⟩:aE))=_
    rw [ig hi hl]; rfl
  rw [if_neg k2,if_neg k2,xy hi hl,aa]
  dsimp only
  cases br (aj l i) jB with
  | true=>rfl
  | false=>
   rw [cond_false,cond_false,if_neg (by decide),tA hi,aa]
   dsimp only
   cases hn:(decide ((aj l i).Kind=1)&& !fI (aj l i).Text) with
   | true=>
    rw [Bool.and_eq_true,decide_eq_true_eq,Bool.not_eq_true'] at hn
    rw [cond_true,cond_true,zq hi hl hn.1 hn.2,aa]
   | false=>
    rw [cond_false,cond_false,xy hi hl,aa]
    dsimp only
    cases br (aj l i) gu with
    | true=>rfl
    | false=>
     rw [cond_false,cond_false,if_neg (by decide),v8 hi,aa]
 have g0: ∀ self,kH self (rs l i o)=(if (aj l i).Kind=2 then
  some (af.mk 1 (aj l i).N [] [] (aj l i).At,rs l (i+1) o) else
  bif br (aj l i) jB then some (af.mk 3 0 [] [] (aj l i).At,rs l (i+1) o) else
  bif br (aj l i) gu then
  (jz (rs l (i+1) o) bK).bind fun r3=>
  if r3.bad.Code≠0 then
  some (af.mk 0 0 [] [] 0,r3) else
  (rG r3.l r3.an).bind fun r4=>
  bif !r4 then
  (uf r3).bind fun r5=>
  some (af.mk r5.1.Kind r5.1.N r5.1.Name r5.1.Kids r5.1.At,r5.2) else
  if 0≤r3.an then
  if r3.an<(r3.l.length:Int) then
  (jz (aU.mk r3.l (ag (r3.an+1)) r3.aM r3.bad) bw).bind fun r6=>
  some (af.mk 4 0 ((r3.l.getD r3.an.toNat ax.z).Text) [] (aj l i).At,r6) else none else none else
  bif br (aj l i) bK then
  (jU (rs l i o)).bind fun r8=>
  bif !r8.1 then
  some (af.mk 0 0 [] [] 0,r8.2) else
  (self r8.2 1).bind fun r9=>
  (jz r9.2 bw).bind fun cW=>
  some (af.mk r9.1.Kind r9.1.N r9.1.Name r9.1.Kids r9.1.At,aU.mk cW.l cW.an (ag (cW.aM - 1)) cW.bad) else
  bif decide ((aj l i).Kind=1)&& !fI (aj l i).Text then
  some (af.mk 2 0 (aj l i).Text [] (aj l i).At,rs l (i+1) o) else
  some (af.mk 0 0 [] [] 0,aU.mk l (i:Int) (o:Int) (fA (aj l i)))):=fun self=>by
  unfold kH
  have zv:aU.mk l (ag ((i:Int)+1)) (o:Int) ⟨0,0⟩=rs l (i+1) o:=by rw [ig hi hl]; rfl
  have q1:(rs l i o).an=(i:Int):=rfl
  have q2:(rs l i o).l=l:=rfl
  have q3:(rs l i o).aM=(o:Int):=rfl
  have q4:(rs l i o).bad=⟨0,0⟩:=rfl
  rw [q1,q2,q3,q4,et,zv,if_pos a2,if_pos a1,pM hi,aa]
  by_cases k2:(aj l i).Kind=2
  · rw [if_pos k2,if_pos k2]
  rw [if_neg k2,if_neg k2]
  dsimp only
  rw [q1,q2,q3,q4,zv]
  cases br (aj l i) jB with
  | true=>rfl
  | false=>
   rw [cond_false,cond_false,pM hi,aa]
   dsimp only
   rw [q1,q2,q3,q4,zv]
   cases br (aj l i) gu with
   | true=>rfl
   | false=>
    rw [cond_false,cond_false,pM hi,aa]
    dsimp only
    cases br (aj l i) bK with
    | true=>rfl
    | false=>
     rw [cond_false,cond_false,q1,q2,q3,q4,zv,D_ hi,aa,Eh hi,aa]
 by_cases k2:(aj l i).Kind=2
 · refine .inl ⟨af.mk 1 (aj l i).N [] [] (aj l i).At,i+1,0,Nat.le_refl _,more (by omega),Fd.leaf rfl,fun k _ _ _=> ?_,fun k _ _ _=> ?_⟩
   · (try dsimp only); rw [f0,if_pos k2]
   · (try dsimp only); rw [g0,if_pos k2]
 cases hd:br (aj l i) jB with
 | true=>
  have hk:=(of_decide_eq_true hd).1
  refine .inl ⟨af.mk 3 0 [] [] (aj l i).At,i+1,0,Nat.le_refl _,more (by omega),Fd.leaf rfl,fun k _ _ _=> ?_,fun k _ _ _=> ?_⟩
  · (try dsimp only); rw [f0,if_neg k2,hd,cond_true]
  · (try dsimp only); rw [g0,if_neg k2,hd,cond_true]
 | false=>
  cases hn:(decide ((aj l i).Kind=1)&& !fI (aj l i).Text) with
  | true=>
   have hn':=hn
   rw [Bool.and_eq_true,decide_eq_true_eq,Bool.not_eq_true'] at hn'
   have n1:br (aj l i) gu=false:=by
    unfold br; rw [decide_eq_false_iff_not]; rintro ⟨_,q⟩; rw [q] at hn'; exact absurd hn'.2 (by decide)
   have n2:br (aj l i) bK=false:=by
    unfold br; rw [decide_eq_false_iff_not]; rintro ⟨_,q⟩; exact H.word i hn'.1 q
   refine .inl ⟨af.mk 2 0 (aj l i).Text [] (aj l i).At,i+1,0,Nat.le_refl _,more (by omega),Fd.leaf rfl,fun k _ _ _=> ?_,fun k _ _ _=> ?_⟩
   · (try dsimp only); rw [f0,if_neg k2,hd,cond_false,hn,cond_true]
   · (try dsimp only); rw [g0,if_neg k2,hd,cond_false,n1,cond_false,n2,cond_false,hn,cond_true]
  | false=>
   cases hin:br (aj l i) gu with
   | true=>
    have hk:=(of_decide_eq_true hin).1
    have hm:=more (by omega)
    cases jK:br (aj l (i+1)) bK with
    | false=>
     refine iD 0 (e:=af.mk 4 0 [] [] (aj l i).At) (s:=aE.mk (bC.mk l ((i+1:Nat):Int) (fA (aj l (i+1)))) (o:Int)) (e':=af.mk 0 0 [] [] 0) (s':=aU.mk l ((i+1:Nat):Int) (o:Int) (fA (aj l (i+1)))) (nE _) rfl (fun k _ _ _=> ?_) (fun k _ _ _=> ?_)
     · (try dsimp only); rw [f0,if_neg k2,hd,cond_false,hn,cond_false,hin,cond_true,EJ hm hl jK,aa,RS (nE _),aa]
       dsimp only
       rw [EI (nE _),aa]
     · (try dsimp only); rw [g0,if_neg k2,hd,cond_false,hin,cond_true,Eg hm jK,aa,if_pos (nE _)]
    | true=>
     have hk':=(of_decide_eq_true jK).1
     have hm2:=H.more (i+1) hm (by omega)
     have b1:(rs l (i+1) o).bad.Code=0:=rfl
     have b2:(rs l (i+1) o).l=l:=rfl
     have b3:(rs l (i+1) o).an=((i+1:Nat):Int):=rfl
     cases hnm:(decide ((aj l (i+1+1)).Kind=1)&& !fI (aj l (i+1+1)).Text) with
     | false=>
      refine iD 0 (e:=af.mk 4 0 [] [] (aj l i).At) (s:=aE.mk (bC.mk l ((i+1+1:Nat):Int) (fA (aj l (i+1+1)))) (o:Int)) (e':=af.mk 0 0 [] [] 0) (s':=aU.mk l ((i+1+1:Nat):Int) (o:Int) (fA (aj l (i+1+1)))) (nE _) rfl (fun k _ _ _=> ?_) (fun k _ _ _=> ?_)
      · (try dsimp only); rw [f0,if_neg k2,hd,cond_false,hn,cond_false,hin,cond_true,si hm hl jK,aa]
        have hname:mh (st l (i+1+1) o)=some ([],aE.mk (bC.mk l ((i+1+1:Nat):Int) (fA (aj l (i+1+1)))) (o:Int)):=by
         unfold mh
         rw [tA hm2,aa,hnm]
         dsimp only [Bool.not_false,cond_true]
         rw [EO hm2,aa]
         rfl
        rw [hname,aa]
        dsimp only
        rw [EI (nE _),aa]
      · (try dsimp only); rw [g0,if_neg k2,hd,cond_false,hin,cond_true,Ab hm hl jK,aa,if_neg (by intro q; exact q rfl)]
        show (rG l ((i+1+1:Nat):Int)).bind _=_
        rw [D_ hm2,hnm,aa]
        rw [Bool.not_false,cond_true]
        rw [Eh hm2,aa]
     | true=>
      have CA:=hnm
      rw [Bool.and_eq_true,decide_eq_true_eq,Bool.not_eq_true'] at CA
      have gh:=H.more (i+1+1) hm2 (by omega)
      have qu: ∀ self,gD self (st l i o)=(iQ (st l (i+1+1+1) o) bw).bind fun r8=>some (af.mk 4 0 (aj l (i+1+1)).Text [] (aj l i).At,r8):=fun self=>by
       rw [f0,if_neg k2,hd,cond_false,hn,cond_false,hin,cond_true,si hm hl jK,aa,zq hm2 hl CA.1 CA.2,aa]
      have qw: ∀ self,kH self (rs l i o)=(jz (rs l (i+1+1+1) o) bw).bind fun r6=>some (af.mk 4 0 (aj l (i+1+1)).Text [] (aj l i).At,r6):=fun self=>by
       rw [g0,if_neg k2,hd,cond_false,hin,cond_true,Ab hm hl jK,aa,if_neg (by intro q; exact q rfl)]
       show (rG l ((i+1+1:Nat):Int)).bind _=_
       rw [D_ hm2,hnm,aa]
       rw [Bool.not_true,cond_false]
       rw [if_pos (by show (0:Int)≤((i+1+1:Nat):Int); omega),if_pos (by show ((i+1+1:Nat):Int)<(l.length:Int); omega)]
       show (jz (aU.mk l (ag (((i+1+1:Nat):Int)+1)) (o:Int) ⟨0,0⟩) bw).bind _=_
       rw [ig hm2 hl]
       rfl
      cases lX:br (aj l (i+1+1+1)) bw with
      | false=>
       refine iD 0 (e:=af.mk 4 0 (aj l (i+1+1)).Text [] (aj l i).At) (s:=aE.mk (bC.mk l ((i+1+1+1:Nat):Int) (fA (aj l (i+1+1+1)))) (o:Int)) (e':=af.mk 4 0 (aj l (i+1+1)).Text [] (aj l i).At) (s':=aU.mk l ((i+1+1+1:Nat):Int) (o:Int) (fA (aj l (i+1+1+1)))) (nE _) rfl (fun k _ _ _=> ?_) (fun k _ _ _=> ?_)
       · (try dsimp only); rw [qu,EJ gh hl lX,aa]
       · (try dsimp only); rw [qw,Eg gh lX,aa]
      | true=>
       have PS:=(of_decide_eq_true lX).1
       refine .inl ⟨af.mk 4 0 (aj l (i+1+1)).Text [] (aj l i).At,i+1+1+1+1,0,by omega,H.more _ gh (by omega),Fd.leaf rfl,fun k _ _ _=> ?_,fun k _ _ _=> ?_⟩
       · (try dsimp only); rw [qu,si gh hl lX,aa]
       · (try dsimp only); rw [qw,Ab gh hl lX,aa]
   | false=>
    cases jK:br (aj l i) bK with
    | false=>
     refine iD 0 (e:=af.mk 0 0 [] [] 0) (s:=aE.mk (bC.mk l (i:Int) (fA (aj l i))) (o:Int)) (e':=af.mk 0 0 [] [] 0) (s':=aU.mk l (i:Int) (o:Int) (fA (aj l i))) (nE _) rfl (fun k _ _ _=> ?_) (fun k _ _ _=> ?_)
     · (try dsimp only); rw [f0,if_neg k2,hd,cond_false,hn,cond_false,hin,cond_false,jK,Bool.not_false,cond_true,EO hi,aa]
     · (try dsimp only); rw [g0,if_neg k2,hd,cond_false,hin,cond_false,jK,cond_false,hn,cond_false]
    | true=>
     have hk:=(of_decide_eq_true jK).1
     have hm:=more (by omega)
     have qu: ∀ self,gD self (st l i o)=_:=fun self=>by
      rw [f0,if_neg k2,hd,cond_false,hn,cond_false,hin,cond_false,jK,Bool.not_true,cond_false]
     have qw: ∀ self,kH self (rs l i o)=_:=fun self=>by
      rw [g0,if_neg k2,hd,cond_false,hin,cond_false,jK,cond_true]
     by_cases h12:o=12
     · subst h12
       refine iD 0 (e:=af.mk 0 0 [] [] 0) (s:=aE.mk (bC.mk l (i:Int) ⟨14,(aj l i).At⟩) 12) (e':=af.mk 0 0 [] [] 0) (s':=aU.mk l (i:Int) 12 ⟨14,(aj l i).At⟩) (by show (14:Int)≠0; decide) rfl (fun k _ _ _=> ?_) (fun k _ _ _=> ?_)
       · (try dsimp only); rw [qu,FZ,aa]; rfl
       · (try dsimp only); rw [qw,Jx hi,aa]; rfl
     · have hw:ag (((o+1:Nat):Int) - 1)=(o:Int):=by rw [bD (by omega) (by omega)]; omega
       rcases IH (i+1) (o+1) (by omega) hm (by omega) with ⟨e,i',Z,h1,h2,h3,hf,hg⟩ | ⟨e,s,e',s',Z,h1,h2,hf,hg⟩
       · cases lX:br (aj l i') bw with
         | false=>
          refine iD Z (e:=e) (s:=aE.mk (bC.mk l ((i':Nat):Int) (fA (aj l i'))) (ag (((o+1:Nat):Int) - 1))) (e':=e) (s':=aU.mk l ((i':Nat):Int) (ag (((o+1:Nat):Int) - 1)) (fA (aj l i'))) (nE _) rfl (fun k hk _ hk2=> ?_) (fun k hk _ hk2=> ?_)
          · have hf':=hf k hk _ hk2
            dsimp only at hf' ⊢; rw [qu,oL hi hl (by omega),aa]
            dsimp only [Bool.not_true,cond_false]
            rw [hf',aa,EJ h2 hl lX,aa,eta]
            rfl
          · have hg':=hg k hk _ hk2
            dsimp only at hg' ⊢; rw [qw,xb hi hl (by omega),aa]
            dsimp only [Bool.not_true,cond_false]
            rw [hg',aa,Eg h2 lX,aa,eta]
            rfl
         | true=>
          have PS:=(of_decide_eq_true lX).1
          refine .inl ⟨e,i'+1,Z,by omega,H.more _ h2 (by omega),h3,fun k hk _ hk2=> ?_,fun k hk _ hk2=> ?_⟩
          · have hf':=hf k hk _ hk2
            dsimp only at hf' ⊢; rw [qu,oL hi hl (by omega),aa]
            dsimp only [Bool.not_true,cond_false]
            rw [hf',aa,si h2 hl lX,aa,eta]
            show some (e,(⟨⟨l,((i'+1:Nat):Int),⟨0,0⟩⟩,ag (((o+1:Nat):Int) - 1)⟩:aE))=_
            rw [hw]; rfl
          · have hg':=hg k hk _ hk2
            dsimp only at hg' ⊢; rw [qw,xb hi hl (by omega),aa]
            dsimp only [Bool.not_true,cond_false]
            rw [hg',aa,Ab h2 hl lX,aa,eta]
            show some (e,(⟨l,((i'+1:Nat):Int),ag (((o+1:Nat):Int) - 1),⟨0,0⟩⟩:aU))=_
            rw [hw]; rfl
       · refine iD Z (e:=e) (s:=aE.mk s.Row (ag (s.aM - 1))) (e':=e') (s':=aU.mk s'.l s'.an (ag (s'.aM - 1)) s'.bad) h1 h2 (fun k hk _ hk2=> ?_) (fun k hk _ hk2=> ?_)
         · have hf':=hf k hk _ hk2
           dsimp only at hf' ⊢; rw [qu,oL hi hl (by omega),aa]
           dsimp only [Bool.not_true,cond_false]
           rw [hf',aa,EI h1,aa,eta]
           rfl
         · have hg':=hg k hk _ hk2
           dsimp only at hg' ⊢; rw [qw,xb hi hl (by omega),aa]
           dsimp only [Bool.not_true,cond_false]
           rw [hg',aa,UF (by rw [h2]; exact h1),aa,eta]
           rfl
theorem Lo {i o:Nat} (hi:i<l.length) (ho:o≤12) (IH: ∀ j o',i<j→j<l.length→o'≤12→R l 1 j o') (IS: ∀ j o',i<j→j<l.length→o'≤12→SG l j o'):SG l i o:=by
 have hl:=H.len
 have a1:((i:Nat):Int)<(l.length:Int):=by omega
 have a2:0≤((i:Nat):Int):=by omega
 have et:l.getD ((i:Nat):Int).toNat ax.z=aj l i:=by rw [Int.toNat_natCast]; rfl
 have q1:(rs l i o).an=(i:Int):=rfl
 have q2:(rs l i o).l=l:=rfl
 have fb: ∀ self k2,gZ self (k2+1) (st l i o)=(bif br (aj l i) dA then
  (jm (st l i o) (aj l i).At).bind fun r3=>
  bif !r3.1 then
  some (af.mk 0 0 [] [] 0,r3.2) else
  (gZ self k2 r3.2).bind fun r4=>
  some (af.mk 5 0 [] [af.mk r4.1.Kind r4.1.N r4.1.Name r4.1.Kids r4.1.At] (aj l i).At,aE.mk r4.2.Row (ag (r4.2.aM - 1))) else
  bif br (aj l i) gN then
  (jm (st l i o) (aj l i).At).bind fun r3=>
  bif !r3.1 then
  some (af.mk 0 0 [] [] 0,r3.2) else
  (gZ self k2 r3.2).bind fun r4=>
  some (af.mk 6 0 [] [af.mk r4.1.Kind r4.1.N r4.1.Name r4.1.Kids r4.1.At] (aj l i).At,aE.mk r4.2.Row (ag (r4.2.aM - 1))) else
  gD self (st l i o)):=fun self k2=>by
  show oN (gZ self k2) self k2 (st l i o)=_
  unfold oN
  rw [ic hi,aa]
  dsimp only
  rw [v8 hi,aa]
  dsimp only
  cases br (aj l i) dA with
  | true=>rfl
  | false=>
   rw [cond_false,cond_false,v8 hi,aa]
   dsimp only
   cases br (aj l i) gN with
   | true=>rfl
   | false=>
    rw [cond_false,cond_false]
    cases gD self (st l i o) with
    | none=>rfl
    | some r=>rw [aa,eta]
 have gb: ∀ self k2,mZ self (k2+1) (rs l i o)=(bif br (aj l i) dA then
  (jU (rs l i o)).bind fun r3=>
  bif !r3.1 then
  some (af.mk 0 0 [] [] 0,r3.2) else
  (mZ self k2 r3.2).bind fun r4=>
  some (af.mk 5 0 [] [af.mk r4.1.Kind r4.1.N r4.1.Name r4.1.Kids r4.1.At] (aj l i).At,aU.mk r4.2.l r4.2.an (ag (r4.2.aM - 1)) r4.2.bad) else
  bif br (aj l i) gN then
  (jU (rs l i o)).bind fun r3=>
  bif !r3.1 then
  some (af.mk 0 0 [] [] 0,r3.2) else
  (mZ self k2 r3.2).bind fun r4=>
  some (af.mk 6 0 [] [af.mk r4.1.Kind r4.1.N r4.1.Name r4.1.Kids r4.1.At] (aj l i).At,aU.mk r4.2.l r4.2.an (ag (r4.2.aM - 1)) r4.2.bad) else
  kH self (rs l i o)):=fun self k2=>by
  show D5 (mZ self k2) self k2 (rs l i o)=_
  unfold D5
  rw [pM hi,aa]
  dsimp only
  cases hm:br (aj l i) dA with
  | true=>
   have hb:br (aj l i) gN=false:=by
    have :=(of_decide_eq_true hm).2
    unfold br; rw [decide_eq_false_iff_not]; rintro ⟨_,q⟩; rw [this] at q; cases q
   rw [cond_true,cond_true,pM hi,aa]
   dsimp only
   rw [hb,cond_false,if_neg (by decide),q1,q2,et,if_pos a2,if_pos a1]
  | false=>
   rw [cond_false,cond_false,pM hi,aa]
   dsimp only
   cases br (aj l i) gN with
   | true=>
    rw [cond_true,cond_true,if_neg (by decide),q1,q2,et,if_pos a2,if_pos a1]
   | false=>
    rw [cond_false,cond_false,if_pos rfl]
    cases kH self (rs l i o) with
    | none=>rfl
    | some r=>rw [aa,eta]
 have J1: ∀ K:Int,((aj l i).Kind=3∨(aj l i).Kind=1)→
  (∀ self k2,gZ self (k2+1) (st l i o)=(jm (st l i o) (aj l i).At).bind fun r3=>
   bif !r3.1 then
   some (af.mk 0 0 [] [] 0,r3.2) else
   (gZ self k2 r3.2).bind fun r4=>
   some (af.mk K 0 [] [af.mk r4.1.Kind r4.1.N r4.1.Name r4.1.Kids r4.1.At] (aj l i).At,aE.mk r4.2.Row (ag (r4.2.aM - 1))))→
  (∀ self k2,mZ self (k2+1) (rs l i o)=(jU (rs l i o)).bind fun r3=>
   bif !r3.1 then
   some (af.mk 0 0 [] [] 0,r3.2) else
   (mZ self k2 r3.2).bind fun r4=>
   some (af.mk K 0 [] [af.mk r4.1.Kind r4.1.N r4.1.Name r4.1.Kids r4.1.At] (aj l i).At,aU.mk r4.2.l r4.2.an (ag (r4.2.aM - 1)) r4.2.bad))→SG l i o:=fun K hk fb gb=>by
  have hm:=H.more i hi (by omega)
  by_cases h12:o=12
  · subst h12
    refine iD 1 (e:=af.mk 0 0 [] [] 0) (s:=aE.mk (bC.mk l (i:Int) ⟨14,(aj l i).At⟩) 12) (e':=af.mk 0 0 [] [] 0) (s':=aU.mk l (i:Int) 12 ⟨14,(aj l i).At⟩) (by show (14:Int)≠0; decide) rfl (fun k hk k2 hk2=> ?_) (fun k hk k2 hk2=> ?_)
    · obtain ⟨k2,rfl⟩: ∃ j,k2=j+1:=⟨k2 - 1,by omega⟩
      rw [fb,FZ,aa]; rfl
    · obtain ⟨k2,rfl⟩: ∃ j,k2=j+1:=⟨k2 - 1,by omega⟩
      rw [gb,Jx hi,aa]; rfl
  · have hw:ag (((o+1:Nat):Int) - 1)=(o:Int):=by rw [bD (by omega) (by omega)]; omega
    rcases IS (i+1) (o+1) (by omega) hm (by omega) with ⟨e,i',Z,h1,h2,h3,hf,hg⟩ | ⟨e,s,e',s',Z,h1,h2,hf,hg⟩
    · refine .inl ⟨af.mk K 0 [] [e] (aj l i).At,i',Z+1,by omega,h2,Fd.one rfl h3,fun k hk k2 hk2=> ?_,fun k hk k2 hk2=> ?_⟩
      · obtain ⟨k2,rfl⟩: ∃ j,k2=j+1:=⟨k2 - 1,by omega⟩
        have hf':=hf k (by omega) k2 (by omega)
        dsimp only at hf' ⊢
        rw [fb,oL hi hl (by omega),aa]
        dsimp only [Bool.not_true,cond_false]
        rw [hf',aa,eta]
        show some (_,(⟨⟨l,((i':Nat):Int),⟨0,0⟩⟩,ag (((o+1:Nat):Int) - 1)⟩:aE))=_
        rw [hw]; rfl
      · obtain ⟨k2,rfl⟩: ∃ j,k2=j+1:=⟨k2 - 1,by omega⟩
        have hg':=hg k (by omega) k2 (by omega)
        dsimp only at hg' ⊢
        rw [gb,xb hi hl (by omega),aa]
        dsimp only [Bool.not_true,cond_false]
        rw [hg',aa,eta]
        show some (_,(⟨l,((i':Nat):Int),ag (((o+1:Nat):Int) - 1),⟨0,0⟩⟩:aU))=_
        rw [hw]; rfl
    · refine iD (Z+1) (e:=af.mk K 0 [] [e] (aj l i).At) (s:=aE.mk s.Row (ag (s.aM - 1))) (e':=af.mk K 0 [] [e'] (aj l i).At) (s':=aU.mk s'.l s'.an (ag (s'.aM - 1)) s'.bad) h1 h2 (fun k hk k2 hk2=> ?_) (fun k hk k2 hk2=> ?_)
      · obtain ⟨k2,rfl⟩: ∃ j,k2=j+1:=⟨k2 - 1,by omega⟩
        have hf':=hf k (by omega) k2 (by omega)
        dsimp only at hf' ⊢
        rw [fb,oL hi hl (by omega),aa]
        dsimp only [Bool.not_true,cond_false]
        rw [hf',aa,eta]
        rfl
      · obtain ⟨k2,rfl⟩: ∃ j,k2=j+1:=⟨k2 - 1,by omega⟩
        have hg':=hg k (by omega) k2 (by omega)
        dsimp only at hg' ⊢
        rw [gb,xb hi hl (by omega),aa]
        dsimp only [Bool.not_true,cond_false]
        rw [hg',aa,eta]
        rfl
 cases hm:br (aj l i) dA with
 | true=>exact J1 5 (of_decide_eq_true hm).1 (fun self k2=>by rw [fb,hm,cond_true]) (fun self k2=>by rw [gb,hm,cond_true])
 | false=>
  cases hb:br (aj l i) gN with
  | true=>exact J1 6 (of_decide_eq_true hb).1 (fun self k2=>by rw [fb,hm,cond_false,hb,cond_true]) (fun self k2=>by rw [gb,hm,cond_false,hb,cond_true])
  | false=>
   have fc: ∀ self k2,gZ self (k2+1) (st l i o)=gD self (st l i o):=fun self k2=>by rw [fb,hm,cond_false,hb,cond_false]
   have gc: ∀ self k2,mZ self (k2+1) (rs l i o)=kH self (rs l i o):=fun self k2=>by rw [gb,hm,cond_false,hb,cond_false]
   rcases PR H hi ho IH with ⟨e,i',Z,h1,h2,h3,hf,hg⟩ | ⟨e,s,e',s',Z,h1,h2,hf,hg⟩
   · refine .inl ⟨e,i',Z+1,h1,h2,h3,fun k hk k2 hk2=> ?_,fun k hk k2 hk2=> ?_⟩
     · obtain ⟨k2,rfl⟩: ∃ j,k2=j+1:=⟨k2 - 1,by omega⟩
       dsimp only; rw [fc]; exact hf k (by omega) k (by omega)
     · obtain ⟨k2,rfl⟩: ∃ j,k2=j+1:=⟨k2 - 1,by omega⟩
       dsimp only; rw [gc]; exact hg k (by omega) k (by omega)
   · refine iD (e:=e) (s:=s) (e':=e') (s':=s') (Z+1) h1 h2 (fun k hk k2 hk2=> ?_) (fun k hk k2 hk2=> ?_)
     · obtain ⟨k2,rfl⟩: ∃ j,k2=j+1:=⟨k2 - 1,by omega⟩
       rw [fc]; exact hf k (by omega) k (by omega)
     · obtain ⟨k2,rfl⟩: ∃ j,k2=j+1:=⟨k2 - 1,by omega⟩
       rw [gc]; exact hg k (by omega) k (by omega)
omit H in
theorem R6 {i o:Nat} (h:SG l i o):R l 6 i o:=by
 have p6: ∀ k,gr (k+1) (rs l i o) 6=(zT (gr k) (rs l i o)).bind fun r1=>some (af.mk r1.1.Kind r1.1.N r1.1.Name r1.1.Kids r1.1.At,r1.2):=fun k=>by
  show rJ (gr k) k _ 6=_
  unfold rJ
  rw [if_pos rfl]
 rcases h with ⟨e,i',Z,h1,h2,h3,hf,hg⟩ | ⟨e,s,e',s',Z,h1,h2,hf,hg⟩
 · refine .inl ⟨e,i',Z+1,h1,h2,h3,fun k hk k2 hk2=> ?_,fun k hk k2 hk2=> ?_⟩
   · obtain ⟨k,rfl⟩: ∃ j,k=j+1:=⟨k - 1,by omega⟩
     dsimp only
     rw [DB,show qo (dR k) (st l i o)=some (e,st l i' o) from cu Z fun j hj=>hf k (by omega) j hj,aa,eta]
   · obtain ⟨k,rfl⟩: ∃ j,k=j+1:=⟨k - 1,by omega⟩
     dsimp only
     rw [p6,show zT (gr k) (rs l i o)=some (e,rs l i' o) from cu Z fun j hj=>hg k (by omega) j hj,aa,eta]
 · refine iD (e:=e) (s:=s) (e':=e') (s':=s') (Z+1) h1 h2 (fun k hk k2 hk2=> ?_) (fun k hk k2 hk2=> ?_)
   · obtain ⟨k,rfl⟩: ∃ j,k=j+1:=⟨k - 1,by omega⟩
     rw [DB,show qo (dR k) (st l i o)=some (e,s) from cu Z fun j hj=>hf k (by omega) j hj,aa,eta]
   · obtain ⟨k,rfl⟩: ∃ j,k=j+1:=⟨k - 1,by omega⟩
     rw [p6,show zT (gr k) (rs l i o)=some (e',s') from cu Z fun j hj=>hg k (by omega) j hj,aa,eta]
end
theorem HW {m:Int} (hm:1≤m) (eP:m≤5) (s:List UInt8):D2 m s=some (if (cC s).2=m then (cC s).1 else 0):=by
 have cG: ∀ own kd:Int,(iR m own kd).bind (fun r=>some r)=some (if own=m then kd else 0):=fun own kd=>by
  unfold iR
  by_cases h:m=own
  · rw [if_pos h,aa,if_pos h.symm]
  · rw [if_neg h,aa,if_neg (fun q=>h q.symm)]
 unfold D2
 simp only [cG]
 by_cases qB:s=kR
 · subst qB
   rw [show cC kR=(19,1) from by decide]
   simp
 rw [if_neg qB]
 by_cases qz:s=kP
 · subst qz
   rw [show cC kP=(18,2) from by decide]
   simp
 rw [if_neg qz]
 by_cases qF:s=kY
 · subst qF
   rw [show cC kY=(12,3) from by decide]
   simp
 rw [if_neg qF]
 by_cases qG:s=kZ
 · subst qG
   rw [show cC kZ=(13,3) from by decide]
   simp
 rw [if_neg qG]
 by_cases qD:s=kW
 · subst qD
   rw [show cC kW=(14,3) from by decide]
   simp
 rw [if_neg qD]
 by_cases qE:s=kX
 · subst qE
   rw [show cC kX=(15,3) from by decide]
   simp
 rw [if_neg qE]
 by_cases qC:s=kV
 · subst qC
   rw [show cC kV=(16,3) from by decide]
   simp
 rw [if_neg qC]
 by_cases qA:s=kQ
 · subst qA
   rw [show cC kQ=(17,3) from by decide]
   simp
 rw [if_neg qA]
 by_cases qJ:s=k9
 · subst qJ
   rw [show cC k9=(10,4) from by decide]
   simp
 rw [if_neg qJ]
 by_cases qH:s=dA
 · subst qH
   rw [show cC dA=(11,4) from by decide]
   simp
 rw [if_neg qH]
 by_cases qL:s=lf
 · subst qL
   rw [show cC lf=(7,5) from by decide]
   simp
 rw [if_neg qL]
 by_cases qK:s=ld
 · subst qK
   rw [show cC ld=(8,5) from by decide]
   simp
 rw [if_neg qK]
 by_cases qI:s=k8
 · subst qI
   rw [show cC k8=(9,5) from by decide]
   simp
 rw [if_neg qI]
 rw [show cC s=(0,0) from by
  unfold cC gy
  simp only [List.find?_cons,List.find?_nil,show (kR == s)=false from beq_false_of_ne (Ne.symm qB),show (kP == s)=false from beq_false_of_ne (Ne.symm qz),show (kY == s)=false from beq_false_of_ne (Ne.symm qF),show (kZ == s)=false from beq_false_of_ne (Ne.symm qG),show (kW == s)=false from beq_false_of_ne (Ne.symm qD),show (kX == s)=false from beq_false_of_ne (Ne.symm qE),show (kV == s)=false from beq_false_of_ne (Ne.symm qC),show (kQ == s)=false from beq_false_of_ne (Ne.symm qA),show (k9 == s)=false from beq_false_of_ne (Ne.symm qJ),show (dA == s)=false from beq_false_of_ne (Ne.symm qH),show (lf == s)=false from beq_false_of_ne (Ne.symm qL),show (ld == s)=false from beq_false_of_ne (Ne.symm qK),show (k8 == s)=false from beq_false_of_ne (Ne.symm qI)]]
 rw [if_neg (by show ¬ (0:Int)=m; omega)]
theorem UM {s:List UInt8} (h:(cC s).2≠0):(cC s).1≠0:=by
 unfold cC at h ⊢
 cases hf:gy.find? (fun p=>p.1 == s) with
 | none=>rw [hf] at h; exact absurd rfl h
 | some p=>
  have hm:=List.mem_of_find?_eq_some hf
  simp only [gy,List.mem_cons,List.not_mem_nil,or_false] at hm
  dsimp only
  rcases hm with rfl | rfl | rfl | rfl | rfl | rfl | rfl | rfl | rfl | rfl | rfl | rfl | rfl <;> decide
noncomputable def pN (k k':Nat) (l:List ax) (i o:Nat) (m:Int) (e:af):Option (af×aU):=
 pI (gr k) k' l ((i:Nat):Int) ((o:Nat):Int) 0 0 m 0 0 [] [] 0 e.Kind e.N e.Name e.Kids e.At
theorem JI (k:Nat) {l:List ax} {i o:Nat} {m:Int} (hm:1≤m) (eP:m≤5) {e:af} {i':Nat} (h:gr k (rs l i o) (m+1)=some (e,rs l i' o)):
 gr (k+1) (rs l i o) m=pN k k l i' o m e:=by
 show rJ (gr k) k (rs l i o) m=_
 unfold rJ
 rw [if_neg (by omega),bD (by omega) (by omega),h,aa]
 rfl
theorem Ul (k:Nat) {l:List ax} {i o:Nat} {m:Int} (hm:1≤m) (eP:m≤5) {e:af} {s:aU} (hs:s.bad.Code≠0) (hk:1≤k) (h:gr k (rs l i o) (m+1)=some (e,s)):
 gr (k+1) (rs l i o) m=some (e,s):=by
 show rJ (gr k) k (rs l i o) m=_
 unfold rJ
 rw [if_neg (by omega),bD (by omega) (by omega),h,aa]
 obtain ⟨k',rfl⟩: ∃ j,k=j+1:=⟨k - 1,by omega⟩
 rw [pI.eq_2,if_neg hs,JB,eta]
theorem So {k:Nat} {l:List ax} {i o:Nat} {m:Int} (h1:1≤m) (h5:m≤5) {e:af} {s:aE} (hs:s.Row.bN.Code≠0) (hk:1≤k) (h:dR k (st l i o) (m+1)=some (e,s)):dR (k+1) (st l i o) m=some (e,s):=by
 show oM (dR k) k (st l i o) m=_
 unfold oM
 rw [if_neg (by omega),bD (by omega) (by omega),h,aa]
 obtain ⟨k',rfl⟩: ∃ j,k=j+1:=⟨k - 1,by omega⟩
 simp only [mJ]
 rw [Gf,wB hs,aa,sign_eq,aa]
 dsimp only
 rw [if_pos (by decide),eta]
theorem RF (k k':Nat) {l:List ax} (hl:l.length≤100000) (i o:Nat) {m:Int} (hm:1≤m) (eP:m≤5) (hi:i<l.length) (h3:(aj l i).Kind=3) (hg:(cC (aj l i).Text).2=m) (e:af) {y:af} {s:aE} (hs:s.Row.bN.Code≠0)
 (hy:dR k (st l (i+1) o) (m+1)=some (y,s)):
 loop k (k'+2) l i o m e=some (af.mk (cC (aj l i).Text).1 0 [] [e,y] (aj l i).At,s):=by
 unfold loop
 rw [mJ.eq_2]
 rw [show (aE.mk (bC.mk l ((i:Nat):Int) (bf.mk 0 0)) ((o:Nat):Int))=st l i o from rfl,ic hi,aa,sign_eq,aa,eta]
 dsimp only
 rw [if_neg (by simp [h3]),if_neg (by simp [hg])]
 rw [show (aE.mk (bC.mk (st l i o).Row.L (ag ((st l i o).Row.At+1)) (st l i o).Row.bN) (st l i o).aM)=st l (i+1) o from by
  show (⟨⟨l,ag (((i:Nat):Int)+1),⟨0,0⟩⟩,(o:Int)⟩:aE)=_
  rw [ig hi hl]; rfl]
 rw [bD (by omega) (by omega),hy,aa]
 simp only [eta]
 by_cases gh:m=3
 · rw [if_pos gh]
 · rw [if_neg gh,mJ.eq_2,Gf,wB hs,aa,sign_eq,aa]
   dsimp only
   rw [if_pos (by decide)]
theorem Ug (k k':Nat) {l:List ax} (i o:Nat) {m:Int} (hm:1≤m) (eP:m≤5) (hi:i<l.length) (hs:iY (aj l i)≠m) (e:af):pN k (k'+2) l i o m e=some (e,rs l i o):=by
 unfold pN
 have et:l.getD ((i:Nat):Int).toNat ax.z=aj l i:=by rw [Int.toNat_natCast]; rfl
 rw [pI.eq_2,if_pos rfl,if_pos (by omega),if_pos (by omega),if_pos (by omega),et,eta]
 unfold iY at hs
 by_cases h3:(aj l i).Kind=3
 · rw [if_pos h3] at hs
   rw [if_pos h3,D4.eq_2,if_pos (by omega),if_pos (by omega),et,HW hm eP,aa,if_neg hs,if_pos rfl,eta]
   rfl
 · rw [if_neg h3]; rfl
theorem JC (k k':Nat) {l:List ax} (hl:l.length≤100000) (i o:Nat) {m:Int} (hm:1≤m) (eP:m≤5) (hi:i<l.length) (h3:(aj l i).Kind=3) (hg:(cC (aj l i).Text).2=m) (e:af) {y:af} {s:aU}
 (hy:gr k (rs l (i+1) o) (m+1)=some (y,s)):
 pN k (k'+2) l i o m e=if m=3 then some (af.mk (cC (aj l i).Text).1 0 [] [e,y] (aj l i).At,s) else
  pI (gr k) k' s.l s.an s.aM s.bad.Code s.bad.At m 0 0 [] [] 0 (cC (aj l i).Text).1 0 [] [e,y] (aj l i).At:=by
 unfold pN
 have et:l.getD ((i:Nat):Int).toNat ax.z=aj l i:=by rw [Int.toNat_natCast]; rfl
 rw [pI.eq_2,if_pos rfl,if_pos (by omega),if_pos (by omega),if_pos (by omega),et,if_pos h3,D4.eq_2,if_pos (by omega),if_pos (by omega),et,HW hm eP,aa,if_pos hg]
 rw [if_neg (UM (by omega)),if_pos (by omega),if_pos (by omega),ig hi hl,bD (by omega) (by omega)]
 rw [show aU.mk l ((i+1:Nat):Int) ((o:Nat):Int) (bf.mk 0 0)=rs l (i+1) o from rfl,hy,aa]
 simp only [eta]
theorem LP {l:List ax} (H:Ok l) {i o:Nat} {m:Int} (hm:1≤m) (eP:m≤5) (ho:o≤12) (IH: ∀ j,i<j→j<l.length→R l (m+1) j o):
 ∀ (r i':Nat) (e:af),l.length≤i'+r→i≤i'→i'<l.length→Fd e→Out l i' o (fun k k2=>loop k k2 l i' o m e) (fun k k2=>pN k k2 l i' o m e)
 | 0,i',e,hr,_,hi,_=>by omega
 | r+1,i',e,hr,h0,hi,qQ=>by
  by_cases hs:iY (aj l i')=m
  case neg=>
   refine .inl ⟨e,i',2,Nat.le_refl _,hi,qQ,fun k hk k2 hk2=> ?_,fun k hk k2 hk2=> ?_⟩
   · exact It k k2 l i' o hm hi hs e (by omega)
   · obtain ⟨k2,rfl⟩: ∃ j,k2=j+2:=⟨k2 - 2,by omega⟩
     exact Ug k k2 i' o hm eP hi hs e
  have h3:(aj l i').Kind=3:=by
   unfold iY at hs
   by_cases h3:(aj l i').Kind=3
   · exact h3
   · rw [if_neg h3] at hs; omega
  have hg:(cC (aj l i').Text).2=m:=by unfold iY at hs; rwa [if_pos h3] at hs
  have yW:=H.more i' hi (by omega)
  rcases IH (i'+1) (by omega) yW with ⟨y,tu,Z,h1,h2,Hp,hf,hg'⟩ | ⟨y,s,y',s',Z,h1,h2,hf,hg'⟩
  · have hstep: ∀ k k2,Z≤k→loop k (k2+1) l i' o m e=if m=3 then some (af.mk (cC (aj l i').Text).1 0 [] [e,y] (aj l i').At,st l tu o) else loop k k2 l tu o m (af.mk (cC (aj l i').Text).1 0 [] [e,y] (aj l i').At):=fun k k2 hk=>by
     have hy:=hf k hk k hk
     dsimp only at hy
     have ht:strip (aj l i')=(3,(aj l i').Text,(aj l i').N):=by unfold strip; rw [h3]
     unfold loop
     rw [mJ.eq_2]
     rw [show (aE.mk (bC.mk l ((i':Nat):Int) (bf.mk 0 0)) ((o:Nat):Int))=st l i' o from rfl,ic hi,aa,sign_eq,aa,eta]
     dsimp only
     rw [if_neg (by simp [h3]),if_neg (by simp [hg])]
     rw [show (aE.mk (bC.mk (st l i' o).Row.L (ag ((st l i' o).Row.At+1)) (st l i' o).Row.bN) (st l i' o).aM)=st l (i'+1) o from by
      show (⟨⟨l,ag (((i':Nat):Int)+1),⟨0,0⟩⟩,(o:Int)⟩:aE)=_
      rw [ig hi H.len]; rfl]
     rw [bD (by omega) (by omega),hy,aa]
     simp only [eta]
     rfl
    have Eb: ∀ k k2,Z≤k→pN k (k2+2) l i' o m e=if m=3 then some (af.mk (cC (aj l i').Text).1 0 [] [e,y] (aj l i').At,rs l tu o) else pN k k2 l tu o m (af.mk (cC (aj l i').Text).1 0 [] [e,y] (aj l i').At):=fun k k2 hk=>
     JC k k2 H.len i' o hm eP hi h3 hg e (hg' k hk k hk)
    by_cases gh:m=3
    · refine .inl ⟨af.mk (cC (aj l i').Text).1 0 [] [e,y] (aj l i').At,tu,Z+2,by omega,h2,Fd.two rfl qQ Hp,fun k hk k2 hk2=> ?_,fun k hk k2 hk2=> ?_⟩
      · obtain ⟨k2,rfl⟩: ∃ j,k2=j+1:=⟨k2 - 1,by omega⟩
        dsimp only; rw [hstep k k2 (by omega),if_pos gh]
      · obtain ⟨k2,rfl⟩: ∃ j,k2=j+2:=⟨k2 - 2,by omega⟩
        dsimp only; rw [Eb k k2 (by omega),if_pos gh]
    · rcases LP H hm eP ho IH r tu (af.mk (cC (aj l i').Text).1 0 [] [e,y] (aj l i').At) (by omega) (by omega) h2 (Fd.two rfl qQ Hp) with ⟨e2,j,Z2,j1,j2,j3,jf,jg⟩ | ⟨e2,s,BI,s',Z2,j1,j2,jf,jg⟩
      · refine .inl ⟨e2,j,Z+Z2+2,by omega,j2,j3,fun k hk k2 hk2=> ?_,fun k hk k2 hk2=> ?_⟩
        · obtain ⟨k2,rfl⟩: ∃ j,k2=j+1:=⟨k2 - 1,by omega⟩
          dsimp only; rw [hstep k k2 (by omega),if_neg gh]; exact jf k (by omega) k2 (by omega)
        · obtain ⟨k2,rfl⟩: ∃ j,k2=j+2:=⟨k2 - 2,by omega⟩
          dsimp only; rw [Eb k k2 (by omega),if_neg gh]; exact jg k (by omega) k2 (by omega)
      · refine iD (e:=e2) (s:=s) (e':=BI) (s':=s') (Z+Z2+2) j1 j2 (fun k hk k2 hk2=> ?_) (fun k hk k2 hk2=> ?_)
        · obtain ⟨k2,rfl⟩: ∃ j,k2=j+1:=⟨k2 - 1,by omega⟩
          rw [hstep k k2 (by omega),if_neg gh]; exact jf k (by omega) k2 (by omega)
        · obtain ⟨k2,rfl⟩: ∃ j,k2=j+2:=⟨k2 - 2,by omega⟩
          rw [Eb k k2 (by omega),if_neg gh]; exact jg k (by omega) k2 (by omega)
  · refine iD (e:=af.mk (cC (aj l i').Text).1 0 [] [e,y] (aj l i').At) (s:=s) (e':=af.mk (cC (aj l i').Text).1 0 [] [e,y'] (aj l i').At) (s':=s') (Z+3) h1 h2 (fun k hk k2 hk2=> ?_) (fun k hk k2 hk2=> ?_)
    · obtain ⟨k2,rfl⟩: ∃ j,k2=j+2:=⟨k2 - 2,by omega⟩
      exact RF k k2 H.len i' o hm eP hi h3 hg e h1 (hf k (by omega) k (by omega))
    · obtain ⟨k2,rfl⟩: ∃ j,k2=j+3:=⟨k2 - 3,by omega⟩
      rw [JC k (k2+1) H.len i' o hm eP hi h3 hg e (hg' k (by omega) k (by omega))]
      by_cases gh:m=3
      · rw [if_pos gh]
      · rw [if_neg gh,pI.eq_2,if_neg (by rw [h2]; exact h1),JB]
theorem Lj {l:List ax} (H:Ok l) {i o:Nat} {m:Int} (hm:1≤m) (eP:m≤5) (hi:i<l.length) (ho:o≤12) (IH: ∀ j,i<j→j<l.length→R l (m+1) j o) (h:R l (m+1) i o):R l m i o:=by
 rcases h with ⟨e,i',Z,h1,h2,qQ,hf,hg⟩ | ⟨e,s,e',s',Z,h1,h2,hf,hg⟩
 · rcases LP H hm eP ho IH l.length i' e (by omega) (by omega) h2 qQ with ⟨e2,j,Z2,j1,j2,j3,jf,jg⟩ | ⟨e2,s,BI,s',Z2,j1,j2,jf,jg⟩
   · refine .inl ⟨e2,j,Z+Z2+1,by omega,j2,j3,fun k hk k2 hk2=> ?_,fun k hk k2 hk2=> ?_⟩
     · obtain ⟨k,rfl⟩: ∃ j,k=j+1:=⟨k - 1,by omega⟩
       dsimp only; rw [zw k l i o hm eP (hf k (by omega) k (by omega))]; exact jf k (by omega) k (by omega)
     · obtain ⟨k,rfl⟩: ∃ j,k=j+1:=⟨k - 1,by omega⟩
       dsimp only; rw [JI k hm eP (hg k (by omega) k (by omega))]; exact jg k (by omega) k (by omega)
   · refine iD (e:=e2) (s:=s) (e':=BI) (s':=s') (Z+Z2+1) j1 j2 (fun k hk k2 hk2=> ?_) (fun k hk k2 hk2=> ?_)
     · obtain ⟨k,rfl⟩: ∃ j,k=j+1:=⟨k - 1,by omega⟩
       rw [zw k l i o hm eP (hf k (by omega) k (by omega))]; exact jf k (by omega) k (by omega)
     · obtain ⟨k,rfl⟩: ∃ j,k=j+1:=⟨k - 1,by omega⟩
       rw [JI k hm eP (hg k (by omega) k (by omega))]; exact jg k (by omega) k (by omega)
 · refine iD (e:=e) (s:=s) (e':=e') (s':=s') (Z+2) h1 h2 (fun k hk k2 hk2=> ?_) (fun k hk k2 hk2=> ?_)
   · obtain ⟨k,rfl⟩: ∃ j,k=j+1:=⟨k - 1,by omega⟩
     exact So hm eP h1 (by omega) (hf k (by omega) k (by omega))
   · obtain ⟨k,rfl⟩: ∃ j,k=j+1:=⟨k - 1,by omega⟩
     exact Ul k hm eP (by rw [h2]; exact h1) (by omega) (hg k (by omega) k (by omega))
theorem both {l:List ax} (H:Ok l): ∀ (n i o:Nat),l.length≤i+n→i<l.length→o≤12→SG l i o∧ ∀ (j:Nat) (m:Int),m=6 - (j:Int)→1≤m→R l m i o
 | 0,i,o,hn,hi,_=>by omega
 | n+1,i,o,hn,hi,ho=>by
  have IH: ∀ j o',i<j→j<l.length→o'≤12→SG l j o'∧ ∀ (q:Nat) (m:Int),m=6 - (q:Int)→1≤m→R l m j o':=fun j o' h1 h2 h3=>both H n j o' (by omega) h2 h3
  have hS:=Lo H hi ho (fun j o' h1 h2 h3=>(IH j o' h1 h2 h3).2 5 1 rfl (by decide)) (fun j o' h1 h2 h3=>(IH j o' h1 h2 h3).1)
  refine ⟨hS,fun j=> ?_⟩
  induction j with
  | zero=>
   intro m hm h1
   have :m=6:=by omega
   subst this
   exact R6 hS
  | succ j ih=>
   intro m hm h1
   exact Lj H h1 (by omega) hi ho (fun q h2 h3=>(IH q o h2 h3 ho).2 j (m+1) (by omega) (by omega)) (ih (m+1) (by omega) (by omega))
end Go.Sy.Ex
namespace Go.Sy.Ex
open Go.Sy
end Go.Sy.Ex
namespace Go.Sy.Ex
open Go.Sy
def at' (l:List ax) (i o:Nat):aL:=⟨⟨l,(i:Int),⟨0,0⟩⟩,(o:Int)⟩
section
variable {l:List ax} {i o:Nat}
theorem nC:jv (at' l i o)=some (true,at' l i o):=rfl
theorem j8 (hi:i<l.length):iP (at' l i o)=some (aj l i,at' l i o):=by
 unfold iP
 rw [nC,aa]
 have h1: ¬ ((i:Nat):Int)<0:=by omega
 have h2: ¬ (l.length:Int)≤((i:Nat):Int):=by omega
 have h3:0≤((i:Nat):Int):=by omega
 have h4:((i:Nat):Int)<(l.length:Int):=by omega
 simp only [Bool.not_true,cond_false,at',Int.toNat_natCast,h1,h2,h3,h4,if_true,if_false]; rfl
theorem Fh (hi:i<l.length) (s:List UInt8):jS (at' l i o) s=some (br (aj l i) s,at' l i o):=by
 unfold jS br
 rw [j8 hi,aa]
 dsimp only
 by_cases h3:(aj l i).Kind=3
 · rw [if_pos h3]; congr 2; rw [decide_eq_decide]; simp [h3]
 · rw [if_neg h3]
   by_cases h1:(aj l i).Kind=1
   · rw [if_pos h1]; congr 2; rw [decide_eq_decide]; simp [h1]
   · rw [if_neg h1]
     congr 2
     symm
     rw [decide_eq_false_iff_not]
     rintro ⟨h | h,_⟩ <;> contradiction
theorem sL (hi:i<l.length) (hl:l.length≤100000) (s:List UInt8):gM (at' l i o) s=some (br (aj l i) s,if br (aj l i) s=true then at' l (i+1) o else at' l i o):=by
 unfold gM
 rw [Fh hi,aa]
 dsimp only
 cases h:br (aj l i) s with
 | true=>
  rw [cond_true,if_pos rfl]
  show some (true,(⟨⟨l,ag (((i:Nat):Int)+1),⟨0,0⟩⟩,(o:Int)⟩:aL))=_
  rw [ig hi hl]; rfl
 | false=>rw [cond_false,if_neg (by simp)]
theorem j9 (hi:i<l.length) (hl:l.length≤100000) {s:List UInt8} (h:br (aj l i) s=true):fG (at' l i o) s=some (at' l (i+1) o):=by
 unfold fG
 rw [sL hi hl,aa,h]; rfl
theorem Fi (hi:i<l.length):pG (at' l i o)=some (decide ((aj l i).Kind=1)&& !fI (aj l i).Text,at' l i o):=by
 unfold pG
 rw [j8 hi,aa]
 dsimp only
 by_cases h1:(aj l i).Kind=1
 · rw [if_pos h1,Dh,aa,decide_eq_true h1]; rfl
 · rw [if_neg h1,decide_eq_false h1]; rfl
theorem Mv (hi:i<l.length) (hl:l.length≤100000) (h1:(aj l i).Kind=1) (h2:fI (aj l i).Text=false):mg (at' l i o)=some ((aj l i).Text,at' l (i+1) o):=by
 unfold mg
 rw [Fi hi,aa]
 dsimp only
 rw [decide_eq_true h1,h2]
 show (if 0≤ag (ag (((i:Nat):Int)+1) - 1) then if ag (ag (((i:Nat):Int)+1) - 1)<(l.length:Int) then some ((l.getD (ag (ag (((i:Nat):Int)+1) - 1)).toNat ax.z).Text,(⟨⟨l,ag (((i:Nat):Int)+1),⟨0,0⟩⟩,(o:Int)⟩:aL)) else none else none)=_
 rw [ig hi hl,show ag (((i+1:Nat):Int) - 1)=((i:Nat):Int) from by rw [bD (by omega) (by omega)]; omega,if_pos (by omega),if_pos (by omega),Int.toNat_natCast]
 rfl
end
theorem eW {l:List ax} {i o:Nat} (hi:i<l.length) (hl:l.length≤100000) {k:Int} {s:List UInt8} {n:Int} (h:strip (aj l i)=(k,s,n)) (s':List UInt8) (b:Bool) (hb:b=decide ((k=3∨k=1)∧s=s')):gM (at' l i o) s'=some (b,if b=true then at' l (i+1) o else at' l i o):=by
 rw [sL hi hl]
 unfold strip at h
 simp only [Prod.mk.injEq] at h
 unfold br
 rw [h.1,h.2.1,hb]
theorem qg {l:List ax} {i o:Nat} (hi:i<l.length) {k:Int} {s:List UInt8} {n:Int} (h:strip (aj l i)=(k,s,n)) (s':List UInt8) (b:Bool) (hb:b=decide ((k=3∨k=1)∧s=s')):jS (at' l i o) s'=some (b,at' l i o):=by
 rw [Fh hi]
 unfold strip at h
 simp only [Prod.mk.injEq] at h
 unfold br
 rw [h.1,h.2.1,hb]
theorem Sm {t:T} {K:List Tk} {n:Nat} (h:P t K n 1) (hn:n≤12) {l:List ax} {i:Nat} (hl:l.length≤100000) (hs:Seq l i K) (hlen:i+K.length<l.length) (hend:iY (aj l (i+K.length))<1):
 ∃ e,Is t e∧sR l (i:Int)=some (e,((i+K.length:Nat):Int),⟨0,0⟩):=by
 obtain ⟨e,Z,he,hr⟩:=h l i 0 hl hs hlen (by omega) hend
 refine ⟨e,he, ?_⟩
 unfold sR
 rw [show yq (aE.mk (bC.mk l (i:Int) (bf.mk 0 0)) 0) 1=some (e,st l (i+K.length) 0) from cu Z hr,aa,wD,aa]
 rw [Bool.not_true,cond_false,eta]
 rfl
theorem Bi {t:T} (hok:t.ok) (hn:aT t 1≤12) {l:List ax} {i o:Nat} (hl:l.length≤100000) (hs:Seq l i (toks t 1)) (hlen:i+(toks t 1).length<l.length) (hend:iY (aj l (i+(toks t 1).length))<1):
 ∃ e,Is t e∧oB (at' l i o)=some ([e],at' l (i+(toks t 1).length) o):=by
 obtain ⟨e,he,hp⟩:=Sm (Mp hok) hn hl hs hlen hend
 refine ⟨e,he, ?_⟩
 unfold oB
 rw [nC,aa,Bool.not_true,cond_false]
 show (sR l (i:Int)).bind _=_
 rw [hp,aa]
 dsimp only
 unfold mc
 rw [nC,aa,cond_true,aa,eta]
 rfl
theorem Bj {t:T} (hok:t.ok) (hn:aT t 1≤12) {l:List ax} {i o:Nat} (hl:l.length≤100000) (hs:Seq l i ((3,bK,0)::toks t 1++ [(3,bw,0)])):
 ∃ e,Is t e∧nB (at' l i o)=some ([e],at' l (i+(toks t 1).length+2) o):=by
 obtain ⟨⟨h1,h2,h3⟩,hr⟩:=Seq.append.1 hs
 simp only [List.length_cons] at hr
 obtain ⟨h4,h5, -⟩:=hr
 have hlen:i+1+(toks t 1).length=i+((toks t 1).length+1):=by omega
 obtain ⟨e,he,hp⟩:=Bi (o:=o) hok hn hl h3 (by omega) (by rw [hlen,uz h5]; decide)
 refine ⟨e,he, ?_⟩
 unfold nB
 rw [j9 h1 hl (iJ h2 (Or.inl rfl)),aa,hp,aa]
 dsimp only
 rw [hlen,j9 h4 hl (iJ h5 (Or.inl rfl)),aa]
 rfl
structure H where
 kind:Int
 name:List UInt8
 ev:List UInt8
 x:Option T
 n:Int
inductive B where
 | nil | cons (h:H) (th el rest:B)
def ox:Option T→List af→Prop
 | none,l=>l= []
 | some t,l=> ∃ e,l= [e]∧Is t e
def dZ:B→List ah→Prop
 | .nil,l=>l= []
 | .cons h th el rest,l=> ∃ a l',l=a::l'∧a.Kind=h.kind∧a.Name=h.name∧a.Event=h.ev∧ox h.x a.X∧a.N=h.n∧dZ th a.aK∧dZ el a.aD∧dZ rest l'
def sn (x:Option T):Prop:=match x with
 | none=>True
 | some t=>t.ok∧aT t 1≤12
def H.ok (h:H) (th el:B):Prop:=sn h.x∧
 ((h.kind=1∧bT h.name=true∧h.ev= []∧h.x≠none∧h.n=0∧th= .nil∧el= .nil)∨
  (h.kind=2∧h.name= []∧bT h.ev=true∧h.n=0∧th= .nil∧el= .nil)∨
  (h.kind=3∧bT h.name=true∧bT h.ev=true∧h.n=0∧th= .nil∧el= .nil)∨
  (h.kind=4∧bT h.name=true∧h.ev= []∧h.x≠none∧h.n=0∧th= .nil∧el= .nil)∨
  (h.kind=5∧bT h.name=true∧h.ev= []∧h.x=none∧h.n=0∧th= .nil∧el= .nil)∨
  (h.kind=6∧h.name= []∧h.ev= []∧h.x≠none∧h.n=0)∨
  (h.kind=7∧h.name= []∧h.ev= []∧h.x=none∧0≤h.n∧h.n≤9223372036854775807∧el= .nil))
def B.ok:B→Prop
 | .nil=>True
 | .cons h th el rest=>h.ok th el∧th.ok∧el.ok∧rest.ok
def B.isNil:B→Bool
 | .nil=>true
 | _=>false
def B.dp:B→Nat
 | .nil=>1
 | .cons h th el rest=>max rest.dp (max (if h.kind=6∨h.kind=7 then th.dp+1 else 1) (bif el.isNil then 1 else el.dp+1))
def fh:Option T→List Tk
 | none=> []
 | some t=>(3,bK,0)::toks t 1++ [(3,bw,0)]
def xz:Option T→List Tk
 | none=> []
 | some t=>toks t 1
def cw (h:H) (th el:List Tk) (Dr:Bool):List Tk:=
 (if h.kind=1 then (1,h.name,0)::(3,rU,0)::xz h.x++ [(3,bh,0)]
  else if h.kind=2 then (1,ir,0)::(1,h.ev,0)::fh h.x++ [(3,bh,0)]
  else if h.kind=3 then (1,iw,0)::(1,h.name,0)::(1,h.ev,0)::fh h.x++ [(3,bh,0)]
  else if h.kind=4 then (1,jZ,0)::(1,h.name,0)::fh h.x++ [(3,bh,0)]
  else if h.kind=5 then [(1,kS,0),(1,h.name,0),(3,bh,0)]
  else if h.kind=6 then (1,j0,0)::fh h.x++((3,gv,0)::th++ [(3,cY,0)])++(bif Dr then [] else (1,kU,0)::((3,gv,0)::el++ [(3,cY,0)]))
  else (1,iW,0)::(2,Lib.itoa h.n,h.n)::((3,gv,0)::th++ [(3,cY,0)]))
def bP:B→List Tk
 | .nil=> []
 | .cons h th el rest=>cw h (bP th) (bP el) el.isNil++bP rest
def dY (b:B):List Tk:=(3,gv,0)::bP b++ [(3,cY,0)]
end Go.Sy.Ex
namespace Go.Sy.Ex
open Go.Sy
theorem B.BH: ∀ b:B,1≤b.dp
 | .nil=>Nat.le_refl _
 | .cons h th el rest=>by have :=B.BH rest; simp only [B.dp]; omega
def PB (b:B):Prop:= ∀ (l:List ax) (i o:Nat),l.length≤100000→Seq l i (dY b)→i+(dY b).length<l.length→o+b.dp≤4→
 ∃ cs Z,dZ b cs∧ ∀ k,Z≤k→gV k (at' l i o)=some (cs,at' l (i+(dY b).length) o)
def PI (b:B):Prop:= ∀ (l:List ax) (i o:Nat) (acc:List ah),l.length≤100000→Seq l i (bP b++ [(3,cY,0)])→i+(bP b).length+1<l.length→o+1+b.dp≤5→acc.length≤i→
 ∃ cs Z,dZ b cs∧ ∀ k,Z≤k→ ∀ k',Z≤k'→lG (gV k) k' l (i:Int) 0 0 ((o+1:Nat):Int) acc=some (acc++cs,at' l (i+(bP b).length+1) o)
theorem AZ {b:B} (h:PI b):PB b:=fun l i o hl hs hi ho=>by
 have hd:=b.BH
 unfold dY at hs hi ⊢
 simp only [List.length_append,List.length_cons,List.length_nil] at hi ⊢
 have hs':Seq l i ((3,gv,0)::(bP b++ [(3,cY,0)])):=by simpa using hs
 obtain ⟨h1,h2,h3⟩:=hs'
 obtain ⟨cs,Z,ha,hr⟩:=h l (i+1) o [] hl h3 (by omega) (by omega) (Nat.zero_le _)
 refine ⟨cs,Z+2,ha,fun k hk=> ?_⟩
 obtain ⟨k,rfl⟩: ∃ j,k=j+2:=⟨k - 2,by omega⟩
 show sE (gV (k+1)) (k+1) (at' l i o)=_
 unfold sE
 rw [qg h1 h2 gv true (by decide),aa]
 dsimp only [cond_true]
 rw [if_neg (by show ¬ ((o:Nat):Int)=4; omega),sF.eq_2]
 rw [show aL.mk (bC.mk (at' l i o).Row.L (at' l i o).Row.At (bf.mk (at' l i o).Row.bN.Code (at' l i o).Row.bN.At)) (at' l i o).aM=at' l i o from rfl,j9 h1 hl (iJ h2 (Or.inl rfl)),aa]
 show lG (gV (k+1)) k l ((i+1:Nat):Int) 0 0 (ag (((o:Nat):Int)+1)) []=_
 rw [show ag (((o:Nat):Int)+1)=((o+1:Nat):Int) from by rw [bD (by omega) (by omega)]; omega,hr (k+1) (by omega) k (by omega),List.nil_append]
 congr 3
 omega
theorem Oz {b:B} (hok:b.ok) {l:List ax} {i:Nat} (hs:Seq l i (bP b++ [(3,cY,0)])):br (aj l i) kU=false:=by
 cases b with
 | nil=>exact kB hs.2.1 (.inr (by decide))
 | cons h th el rest=>
  obtain ⟨⟨_,hk⟩,_⟩:=hok
  simp only [bP] at hs
  rcases hk with ⟨k,a,_⟩ | ⟨k,_⟩ | ⟨k,_⟩ | ⟨k,_⟩ | ⟨k,_⟩ | ⟨k,_⟩ | ⟨k,_⟩
  · unfold cw at hs; rw [k] at hs; simp only [if_true] at hs
    exact kB hs.2.1 (.inr fun q=>by rw [q] at a; revert a; decide)
  · unfold cw at hs; rw [k] at hs; exact kB hs.2.1 (.inr (by decide))
  · unfold cw at hs; rw [k] at hs; exact kB hs.2.1 (.inr (by decide))
  · unfold cw at hs; rw [k] at hs; exact kB hs.2.1 (.inr (by decide))
  · unfold cw at hs; rw [k] at hs; exact kB hs.2.1 (.inr (by decide))
  · unfold cw at hs; rw [k] at hs; exact kB hs.2.1 (.inr (by decide))
  · unfold cw at hs; rw [k] at hs; exact kB hs.2.1 (.inr (by decide))
def uR (h:H) (th el:B) (a:ah):Prop:=a.Kind=h.kind∧a.Name=h.name∧a.Event=h.ev∧ox h.x a.X∧a.N=h.n∧dZ th a.aK∧dZ el a.aD
theorem Fk {x:Option T} (hx:sn x) {l:List ax} {i o:Nat} (hl:l.length≤100000) (hs:Seq l i (fh x++ [(3,bh,0)])):
 ∃ X,ox x X∧qd (at' l i o)=some (X,at' l (i+(fh x).length) o):=by
 cases x with
 | none=>
  obtain ⟨h1,h2, -⟩:=hs
  refine ⟨[],rfl, ?_⟩
  unfold qd
  rw [qg h1 h2 bK false (by decide),aa]
  rfl
 | some t=>
  obtain ⟨hs1,hs2⟩:=Seq.append.1 hs
  obtain ⟨e,he,hp⟩:=Bj (o:=o) hx.1 hx.2 hl hs1
  obtain ⟨h1,h2, -⟩:=hs1
  refine ⟨[e],⟨e,rfl,he⟩, ?_⟩
  unfold qd
  rw [qg h1 h2 bK true (by decide),aa]
  dsimp only [Bool.not_true,cond_false]
  rw [Bool.not_true,cond_false,hp,aa]
  show some ([e],at' l (i+(toks t 1).length+2) o)=some ([e],at' l (i+((3,bK,0)::toks t 1++ [(3,bw,0)]).length) o)
  congr 3
  simp
  omega
theorem qh {l:List ax} {i o:Nat} (hi:i<l.length) (hl:l.length≤100000) {s:List UInt8} (h:strip (aj l i)=(1,s,0)) (hn:bT s=true):mg (at' l i o)=some (s,at' l (i+1) o):=by
 obtain ⟨k1,k2,_⟩:=fR h
 rw [Mv hi hl k1 (by rw [k2]; exact (eB hn).2.2.1),k2]
theorem oE {l:List ax} {i o:Nat} (hi:i<l.length) {k:Int} {s:List UInt8} {n:Int} (h:strip (aj l i)=(k,s,n)) (b:Bool) (hb:b=(decide (k=1)&& !fI s)):pG (at' l i o)=some (b,at' l i o):=by
 obtain ⟨k1,k2,_⟩:=fR h
 rw [Fi hi,k1,k2,hb]
theorem L0 {h:H} {th el:B} (hok:h.ok th el) (cl:PB th) (hel:PB el) {l:List ax} {i o:Nat} (hl:l.length≤100000) (hs:Seq l i (cw h (bP th) (bP el) el.isNil)) (hi:i+(cw h (bP th) (bP el) el.isNil).length<l.length)
 (hno:br (aj l (i+(cw h (bP th) (bP el) el.isNil).length)) kU=false) (hd1:h.kind=6∨h.kind=7→o+th.dp≤4) (vG:el.isNil=false→o+el.dp≤4):
 ∃ a Z,uR h th el a∧ ∀ k,Z≤k→ji (gV k) (at' l i o)=some (a,at' l (i+(cw h (bP th) (bP el) el.isNil).length) o):=by
 obtain ⟨hx,hk⟩:=hok
 have WJ:i<l.length:=by omega
 rcases hk with ⟨k,a,b,c,d,e,f⟩ | ⟨k,a,b,c,d,e⟩ | ⟨k,a,b,c,d,e⟩ | ⟨k,a,b,c,d,e,f⟩ | ⟨k,a,b,c,d,e,f⟩ | ⟨k,a,b,c,d⟩ | ⟨k,a,b,c,d,e,f⟩
 · -- x = e;
   have ht:cw h (bP th) (bP el) el.isNil=(1,h.name,0)::(3,rU,0)::(xz h.x++ [(3,bh,0)]):=by unfold cw; rw [k]; rfl
   rw [ht] at hs hi ⊢
   simp only [List.length_cons,List.length_append,List.length_nil] at hi ⊢
   obtain ⟨h1,h2,h3,h4,hr⟩:=hs
   cases bk:h.x with
   | none=>exact absurd bk c
   | some t=>
    rw [bk] at hx hr hi
    obtain ⟨hs1,h5,h6, -⟩:=Seq.append.1 hr
    have hs1:Seq l (i+1+1) (toks t 1):=hs1
    have h5:i+1+1+(toks t 1).length<l.length:=h5
    have h6:strip (aj l (i+1+1+(toks t 1).length))=(3,bh,0):=h6
    obtain ⟨e',he,hp⟩:=Bi (o:=o) hx.1 hx.2 hl hs1 h5 (by rw [uz h6]; decide)
    refine ⟨ah.mk 1 h.name [] [e'] 0 [] [] (aj l i).At,0,⟨k.symm,rfl,b.symm,by rw [bk]; exact ⟨e',rfl,he⟩,d.symm,by subst e; exact rfl,by subst f; exact rfl⟩,fun q hq=> ?_⟩
    unfold ji
    rw [j8 h1,aa]
    dsimp only
    rw [oE h1 h2 true (by rw [(eB a).2.2.1]; rfl),aa]
    dsimp only [cond_true]
    rw [qh h1 hl h2 a,aa]
    dsimp only
    rw [j9 h3 hl (iJ h4 (Or.inl rfl)),aa,hp,aa]
    dsimp only
    rw [j9 h5 hl (iJ h6 (Or.inl rfl)),aa]
    rw [show i+1+1+(toks t 1).length+1=i+((xz (some t)).length+(0+1)+1+1) from by simp [xz]; omega]
 · -- raise
   have ht:cw h (bP th) (bP el) el.isNil=(1,ir,0)::(1,h.ev,0)::(fh h.x++ [(3,bh,0)]):=by unfold cw; rw [k]; rfl
   rw [ht] at hs hi ⊢
   simp only [List.length_cons,List.length_append,List.length_nil] at hi ⊢
   obtain ⟨h1,h2,h3,h4,hr⟩:=hs
   obtain ⟨X,hX,hp⟩:=Fk (o:=o) hx hl hr
   obtain ⟨-,h5,h6, -⟩:=Seq.append.1 hr
   refine ⟨ah.mk 2 [] h.ev X 0 [] [] (aj l i).At,0,⟨k.symm,a.symm,rfl,hX,c.symm,by subst d; exact rfl,by subst e; exact rfl⟩,fun q hq=> ?_⟩
   unfold ji
   rw [j8 h1,aa]
   dsimp only
   rw [oE h1 h2 false (by decide),aa]
   rw [cond_false]
   dsimp only
   rw [eW h1 hl h2 ir true (by decide),aa,if_pos rfl,cond_true]
   dsimp only
   rw [qh h3 hl h4 b,aa]
   dsimp only
   rw [hp,aa]
   dsimp only
   rw [j9 h5 hl (iJ h6 (Or.inl rfl)),aa]
   rw [show i+1+1+(fh h.x).length+1=i+((fh h.x).length+(0+1)+1+1) from by omega]
 · -- send
   have ht:cw h (bP th) (bP el) el.isNil=(1,iw,0)::(1,h.name,0)::(1,h.ev,0)::(fh h.x++ [(3,bh,0)]):=by unfold cw; rw [k]; rfl
   rw [ht] at hs hi ⊢
   simp only [List.length_cons,List.length_append,List.length_nil] at hi ⊢
   obtain ⟨h1,h2,h3,h4,fO,OT,hr⟩:=hs
   obtain ⟨X,hX,hp⟩:=Fk (o:=o) hx hl hr
   obtain ⟨-,h5,h6, -⟩:=Seq.append.1 hr
   refine ⟨ah.mk 3 h.name h.ev X 0 [] [] (aj l i).At,0,⟨k.symm,rfl,rfl,hX,c.symm,by subst d; exact rfl,by subst e; exact rfl⟩,fun q hq=> ?_⟩
   unfold ji
   rw [j8 h1,aa]
   dsimp only
   rw [oE h1 h2 false (by decide),aa]
   rw [cond_false]
   dsimp only
   rw [eW h1 hl h2 ir false (by decide),aa,if_neg (by decide),cond_false]
   dsimp only
   rw [eW h1 hl h2 iw true (by decide),aa,if_pos rfl,cond_true]
   dsimp only
   rw [qh h3 hl h4 a,aa]
   dsimp only
   rw [qh fO hl OT b,aa]
   dsimp only
   rw [hp,aa]
   dsimp only
   rw [j9 h5 hl (iJ h6 (Or.inl rfl)),aa]
   rw [show i+1+1+1+(fh h.x).length+1=i+((fh h.x).length+(0+1)+1+1+1) from by omega]
 · -- arm
   have ht:cw h (bP th) (bP el) el.isNil=(1,jZ,0)::(1,h.name,0)::(fh h.x++ [(3,bh,0)]):=by unfold cw; rw [k]; rfl
   rw [ht] at hs hi ⊢
   simp only [List.length_cons,List.length_append,List.length_nil] at hi ⊢
   obtain ⟨h1,h2,h3,h4,hr⟩:=hs
   cases bk:h.x with
   | none=>exact absurd bk c
   | some t=>
    rw [bk] at hx hr hi
    obtain ⟨hs1,h5,h6, -⟩:=Seq.append.1 hr
    obtain ⟨e',he,hp⟩:=Bj (o:=o) hx.1 hx.2 hl hs1
    have yT:(fh (some t)).length=(toks t 1).length+2:=by simp [fh]
    rw [yT] at h5 h6 hi ⊢
    have e6:i+1+1+(toks t 1).length+2=i+1+1+((toks t 1).length+2):=by omega
    refine ⟨ah.mk 4 h.name [] [e'] 0 [] [] (aj l i).At,0,⟨k.symm,rfl,b.symm,by rw [bk]; exact ⟨e',rfl,he⟩,d.symm,by subst e; exact rfl,by subst f; exact rfl⟩,fun q hq=> ?_⟩
    unfold ji
    rw [j8 h1,aa]
    dsimp only
    rw [oE h1 h2 false (by decide),aa]
    rw [cond_false]
    dsimp only
    rw [eW h1 hl h2 ir false (by decide),aa,if_neg (by decide),cond_false]
    dsimp only
    rw [eW h1 hl h2 iw false (by decide),aa,if_neg (by decide),cond_false]
    dsimp only
    rw [eW h1 hl h2 jZ true (by decide),aa,if_pos rfl,cond_true]
    dsimp only
    rw [qh h3 hl h4 a,aa]
    dsimp only
    rw [hp,aa,e6]
    dsimp only
    rw [j9 h5 hl (iJ h6 (Or.inl rfl)),aa]
    rw [show i+1+1+((toks t 1).length+2)+1=i+((toks t 1).length+2+(0+1)+1+1) from by omega]
 · -- cancel
   have ht:cw h (bP th) (bP el) el.isNil= [(1,kS,0),(1,h.name,0),(3,bh,0)]:=by unfold cw; rw [k]; rfl
   rw [ht] at hs hi ⊢
   simp only [List.length_cons,List.length_nil] at hi ⊢
   obtain ⟨h1,h2,h3,h4,h5,h6, -⟩:=hs
   refine ⟨ah.mk 5 h.name [] [] 0 [] [] (aj l i).At,0,⟨k.symm,rfl,b.symm,by rw [c]; exact rfl,d.symm,by subst e; exact rfl,by subst f; exact rfl⟩,fun q hq=> ?_⟩
   unfold ji
   rw [j8 h1,aa]
   dsimp only
   rw [oE h1 h2 false (by decide),aa]
   rw [cond_false]
   dsimp only
   rw [eW h1 hl h2 ir false (by decide),aa,if_neg (by decide),cond_false]
   dsimp only
   rw [eW h1 hl h2 iw false (by decide),aa,if_neg (by decide),cond_false]
   dsimp only
   rw [eW h1 hl h2 jZ false (by decide),aa,if_neg (by decide),cond_false]
   dsimp only
   rw [eW h1 hl h2 kS true (by decide),aa,if_pos rfl,cond_true]
   dsimp only
   rw [qh h3 hl h4 a,aa]
   dsimp only
   rw [j9 h5 hl (iJ h6 (Or.inl rfl)),aa]
 · -- if
   cases bk:h.x with
   | none=>exact absurd bk c
   | some t=>
    rw [bk] at hx
    have yT:(fh (some t)).length=(toks t 1).length+2:=by simp [fh]
    have ht:cw h (bP th) (bP el) el.isNil=(1,j0,0)::(fh (some t)++(dY th++(bif el.isNil then [] else (1,kU,0)::dY el))):=by unfold cw dY; rw [k,bk]; simp
    rw [ht] at hs hi hno ⊢
    simp only [List.length_cons,List.length_append] at hi hno ⊢
    rw [yT] at hi hno ⊢
    obtain ⟨h1,h2,hr⟩:=hs
    obtain ⟨hs1,hr2⟩:=Seq.append.1 hr
    rw [yT] at hr2
    obtain ⟨hs2,CF⟩:=Seq.append.1 hr2
    obtain ⟨e',he,hp⟩:=Bj (o:=o) hx.1 hx.2 hl hs1
    have e6:i+1+(toks t 1).length+2=i+1+((toks t 1).length+2):=by omega
    rw [e6] at hp
    obtain ⟨cs,Z,hcs,oR⟩:=cl l (i+1+((toks t 1).length+2)) o hl hs2 (by omega) (hd1 (.inl k))
    have head: ∀ q,ji (gV q) (at' l i o)=(oC (gV q) (at' l i o) (ah.mk 0 [] [] [] 0 [] [] (aj l i).At)).bind fun eT=>
     some (ah.mk eT.1.Kind eT.1.Name eT.1.Event eT.1.X eT.1.N eT.1.aK eT.1.aD eT.1.At,eT.2):=fun q=>by
     unfold ji
     rw [j8 h1,aa]
     dsimp only
     rw [oE h1 h2 false (by decide),aa]
     rw [cond_false]
     dsimp only
     rw [eW h1 hl h2 ir false (by decide),aa,if_neg (by decide),cond_false]
     dsimp only
     rw [eW h1 hl h2 iw false (by decide),aa,if_neg (by decide),cond_false]
     dsimp only
     rw [eW h1 hl h2 jZ false (by decide),aa,if_neg (by decide),cond_false]
     dsimp only
     rw [eW h1 hl h2 kS false (by decide),aa,if_neg (by decide),cond_false]
     dsimp only
     rw [qg h1 h2 j0 true (by decide),aa,cond_true,cond_true]
    have whole: ∀ q,Z≤q→oC (gV q) (at' l i o) (ah.mk 0 [] [] [] 0 [] [] (aj l i).At)=(gM (at' l (i+1+((toks t 1).length+2)+(dY th).length) o) kU).bind fun r7=>
     bif r7.1 then
     (gV q r7.2).bind fun r8=>
     some (ah.mk 6 [] [] [e'] 0 cs r8.1 (aj l i).At,r8.2) else
     some (ah.mk 6 [] [] [e'] 0 cs [] (aj l i).At,r7.2):=fun q hq=>by
     unfold oC
     rw [eW h1 hl h2 iW false (by decide),aa,if_neg (by decide),cond_false]
     dsimp only
     rw [j9 h1 hl (iJ h2 (Or.inr rfl)),aa,hp,aa]
     dsimp only
     rw [oR q hq,aa]
    cases iF:el.isNil with
    | true=>
     have Hi:el= .nil:=by cases el with
      | nil=>rfl
      | cons _ _ _ _=>cases iF
     rw [iF] at hno
     simp only [cond_true,List.length_nil,Nat.add_zero] at hno ⊢
     rw [iF] at hi
     simp only [cond_true,List.length_nil,Nat.add_zero] at hi
     have ee:i+1+((toks t 1).length+2)+(dY th).length=i+((toks t 1).length+2+(dY th).length+1):=by omega
     refine ⟨ah.mk 6 [] [] [e'] 0 cs [] (aj l i).At,Z,⟨k.symm,a.symm,b.symm,by rw [bk]; exact ⟨e',rfl,he⟩,d.symm,hcs,by rw [Hi]; exact rfl⟩,fun q hq=> ?_⟩
     rw [head,whole q hq,ee,sL (by omega) hl,hno,aa,if_neg (by decide),cond_false,aa]
    | false=>
     rw [iF] at CF hi
     simp only [cond_false,List.length_cons] at CF hi ⊢
     obtain ⟨h7,h8,Qi⟩:=CF
     obtain ⟨ds,Z2,hds,lV⟩:=hel l _ o hl Qi (by omega) (vG iF)
     refine ⟨ah.mk 6 [] [] [e'] 0 cs ds (aj l i).At,Z+Z2,⟨k.symm,a.symm,b.symm,by rw [bk]; exact ⟨e',rfl,he⟩,d.symm,hcs,hds⟩,fun q hq=> ?_⟩
     rw [head,whole q (by omega),eW h7 hl h8 kU true (by decide),aa,if_pos rfl,cond_true]
     dsimp only
     rw [lV q (by omega),aa,aa]
     rw [show i+1+((toks t 1).length+2)+(dY th).length+1+(dY el).length=i+((toks t 1).length+2+((dY th).length+((dY el).length+1))+1) from by omega]
 · -- loop
   have ht:cw h (bP th) (bP el) el.isNil=(1,iW,0)::(2,Lib.itoa h.n,h.n)::dY th:=by unfold cw dY; rw [k]; rfl
   rw [ht] at hs hi ⊢
   simp only [List.length_cons] at hi ⊢
   obtain ⟨h1,h2,h3,h4,hr⟩:=hs
   obtain ⟨cs,Z,hcs,oR⟩:=cl l (i+1+1) o hl hr (by omega) (hd1 (.inr k))
   refine ⟨ah.mk 7 [] [] [] h.n cs [] (aj l i).At,Z,⟨k.symm,a.symm,b.symm,by rw [c]; exact rfl,rfl,hcs,by subst f; exact rfl⟩,fun q hq=> ?_⟩
   unfold ji
   rw [j8 h1,aa]
   dsimp only
   rw [oE h1 h2 false (by decide),aa]
   rw [cond_false]
   dsimp only
   rw [eW h1 hl h2 ir false (by decide),aa,if_neg (by decide),cond_false]
   dsimp only
   rw [eW h1 hl h2 iw false (by decide),aa,if_neg (by decide),cond_false]
   dsimp only
   rw [eW h1 hl h2 jZ false (by decide),aa,if_neg (by decide),cond_false]
   dsimp only
   rw [eW h1 hl h2 kS false (by decide),aa,if_neg (by decide),cond_false]
   dsimp only
   rw [qg h1 h2 j0 false (by decide),aa,cond_false]
   dsimp only
   rw [qg h1 h2 iW true (by decide),aa,cond_true]
   dsimp only
   unfold oC
   rw [eW h1 hl h2 iW true (by decide),aa,if_pos rfl,cond_true]
   dsimp only
   have Qe:wP (at' l (i+1) o)=some (h.n,at' l (i+1+1) o):=by
    unfold wP
    rw [j8 h3,aa]
    dsimp only
    rw [if_neg (by rw [(fR h4).1]; decide),(fR h4).2.2]
    show some (h.n,(⟨⟨l,ag (((i+1:Nat):Int)+1),⟨0,0⟩⟩,(o:Int)⟩:aL))=_
    rw [ig h3 hl]; rfl
   rw [Qe,aa]
   dsimp only
   rw [oR q hq,aa,aa]
   rw [show i+1+1+(dY th).length=i+((dY th).length+1+1) from by omega]
end Go.Sy.Ex
namespace Go.Sy.Ex
open Go.Sy
theorem OA {h:H} {th el:B} {K:List Tk} (hok:h.ok th el) {l:List ax} {i:Nat} (hs:Seq l i (cw h (bP th) (bP el) el.isNil++K)):i<l.length∧br (aj l i) cY=false:=by
 obtain ⟨_,hk⟩:=hok
 rcases hk with ⟨k,a,_⟩ | ⟨k,_⟩ | ⟨k,_⟩ | ⟨k,_⟩ | ⟨k,_⟩ | ⟨k,_⟩ | ⟨k,_⟩
 · unfold cw at hs; rw [k] at hs; simp only [if_true] at hs
   exact ⟨hs.1,kB hs.2.1 (.inr fun q=>by rw [q] at a; revert a; decide)⟩
 all_goals unfold cw at hs; rw [k] at hs; exact ⟨hs.1,kB hs.2.1 (.inr (by decide))⟩
theorem Lf: ∀ b:B,b.ok→PI b:=by
 intro b
 induction b with
 | nil=>
  intro _ l i o acc hl hs hi ho hacc
  obtain ⟨h1,h2, -⟩:=hs
  refine ⟨[],1,rfl,fun k hk k' hk'=> ?_⟩
  obtain ⟨k',rfl⟩: ∃ j,k'=j+1:=⟨k' - 1,by omega⟩
  rw [lG.eq_2]
  rw [show aL.mk (bC.mk l (i:Int) (bf.mk 0 0)) ((o+1:Nat):Int)=at' l i (o+1) from rfl,nC,aa,cond_true]
  dsimp only
  rw [eW h1 hl h2 cY true (by decide),aa,if_pos rfl,Bool.not_true,cond_false,List.append_nil]
  show some (acc,(⟨⟨l,((i+1:Nat):Int),⟨0,0⟩⟩,ag (((o+1:Nat):Int) - 1)⟩:aL))=_
  rw [show ag (((o+1:Nat):Int) - 1)=(o:Int) from by rw [bD (by omega) (by omega)]; omega]
  rfl
 | cons h th el rest ih1 ih2 ih3=>
  rintro ⟨hok,jt,jP,js⟩ l i o acc hl hs hi ho hacc
  have hd:o+1+(B.cons h th el rest).dp≤5:=ho
  simp only [B.dp] at hd
  have hd1:h.kind=6∨h.kind=7→o+1+th.dp≤4:=fun q=>by rw [if_pos q] at hd; omega
  have vG:el.isNil=false→o+1+el.dp≤4:=fun q=>by rw [q,cond_false] at hd; omega
  simp only [bP] at hs hi ⊢
  rw [List.append_assoc] at hs
  obtain ⟨tc,qP⟩:=OA hok hs
  obtain ⟨hs1,hs2⟩:=Seq.append.1 hs
  simp only [List.length_append] at hi ⊢
  obtain ⟨a,Z,ha,jo⟩:=L0 (o:=o+1) hok (AZ (ih1 jt)) (AZ (ih2 jP)) hl hs1 (by omega) (Oz js hs2) hd1 vG
  have WG:1≤(cw h (bP th) (bP el) el.isNil).length:=by
   unfold cw; repeat' split
   all_goals simp
  obtain ⟨cs,Z2,hcs,hrc⟩:=ih3 js l (i+(cw h (bP th) (bP el) el.isNil).length) o (acc++ [a]) hl hs2 (by omega) (by omega) (by rw [List.length_append,List.length_singleton]; omega)
  refine ⟨a::cs,Z+Z2+1,⟨a,cs,rfl,ha.1,ha.2.1,ha.2.2.1,ha.2.2.2.1,ha.2.2.2.2.1,ha.2.2.2.2.2.1,ha.2.2.2.2.2.2,hcs⟩,fun k hk k' hk'=> ?_⟩
  obtain ⟨k',rfl⟩: ∃ j,k'=j+1:=⟨k' - 1,by omega⟩
  rw [lG.eq_2]
  rw [show aL.mk (bC.mk l (i:Int) (bf.mk 0 0)) ((o+1:Nat):Int)=at' l i (o+1) from rfl,nC,aa,cond_true]
  dsimp only
  rw [sL tc hl,aa,qP,Bool.not_false,cond_true,if_neg (by decide),jo k (by omega),aa,if_pos (by simp only [List.length_singleton]; omega)]
  have :=hrc k (by omega) k' (by omega)
  rw [show acc++a::cs=(acc++ [a])++cs from by simp,show i+((cw h (bP th) (bP el) el.isNil).length+(bP rest).length)+1=i+(cw h (bP th) (bP el) el.isNil).length+(bP rest).length+1 from by omega]
  exact this
theorem Tn {b:B} (hok:b.ok) (hd:b.dp≤4) {s:List UInt8} (h:Lx s (dY b)) (hl:s.length≤16384): ∃ l cs,oF s=(l,bf.mk 0 0)∧l.length=(dY b).length+1∧dZ b cs∧sA l 0=some (cs,((dY b).length:Int),⟨0,0⟩):=by
 obtain ⟨l,h1,h2⟩:=h.all hl
 have hlen:l.length=(dY b).length+1:=by
  have :=congrArg List.length h2
  simpa using this
 have oS:l.length≤100000:=by have :=Fj s; rw [h1] at this; dsimp only at this; omega
 have hs:Seq l 0 (dY b):=Em (R:= [(4,[],0)]) (by rw [List.drop_zero]; exact h2)
 obtain ⟨cs,Z,hcs,hr⟩:=AZ (Lf b hok) l 0 0 oS hs (by omega) (by omega)
 refine ⟨l,cs,h1,hlen,hcs, ?_⟩
 unfold sA
 rw [show uY (aL.mk (bC.mk l 0 (bf.mk 0 0)) 0)=some (cs,at' l (0+(dY b).length) 0) from cu Z hr,aa,nC,aa,Bool.not_true,cond_false,Nat.zero_add]
 rfl
theorem H_ {b:B} (hok:b.ok) (hd:b.dp≤4) {s:List UInt8} (h:Lx s (dY b)) (hl:s.length≤16384): ∃ cs,dZ b cs∧mO s=some (cs,true):=by
 obtain ⟨l,cs,h1,h2,h3,h4⟩:=Tn hok hd h hl
 refine ⟨cs,h3, ?_⟩
 unfold mO
 rw [HZ,aa,h1]
 dsimp only
 rw [if_neg (by simp),h4,aa]
 dsimp only
 have oS:l.length≤16385:=by have :=Fj s; rw [h1] at this; exact this
 rw [if_pos rfl,bD (by omega) (by omega),decide_eq_true (by omega)]
def rep (n:Nat):List UInt8:=Lib.repeatL rW n
def gK:Option T→List UInt8
 | none=> []
 | some t=>pr t 1
def wX:Option T→List UInt8
 | none=> []
 | some t=>bK++pr t 1++bw
def bp (h:H) (th el:List UInt8) (Dr:Bool):List UInt8:=
 if h.kind=1 then h.name++gO++gK h.x++bh
  else if h.kind=2 then iu++h.ev++wX h.x++bh
  else if h.kind=3 then eV++h.name++aJ++h.ev++wX h.x++bh
  else if h.kind=4 then iV++h.name++wX h.x++bh
  else if h.kind=5 then kT++h.name++bh
  else if h.kind=6 then fX++wX h.x++aJ++th++(bif Dr then [] else pO++el)
  else jC++Lib.itoa h.n++aJ++th
def blk (b:B) (s:List UInt8) (d:Nat):List UInt8:=bif b.isNil then As else rV++s++rep d++cY
def dz:B→Nat→List UInt8
 | .nil,_=> []
 | .cons h th el rest,d=>rep d++bp h (blk th (dz th (d+1)) d) (blk el (dz el (d+1)) d) el.isNil++ [10]++dz rest d
def cJ (b:B) (d:Nat):List UInt8:=blk b (dz b (d+1)) d
theorem xd: ∀ n,eL (rep n)= []∧ ∀ x ∈ rep n,x=32
 | 0=>⟨rfl,fun x hx=>by cases hx⟩
 | n+1=>by
  obtain ⟨h1,h2⟩:=xd n
  refine ⟨?_,fun x hx=> ?_⟩
  · show eL ([32,32]++rep n)= []
    unfold eL at h1 ⊢
    rw [List.cons_append,List.cons_append,List.nil_append,List.dropWhile_cons_of_pos (by decide),List.dropWhile_cons_of_pos (by decide),h1]
  · have hx:x ∈ [32,32]++rep n:=hx
    rw [List.mem_append] at hx
    rcases hx with hx | hx
    · simpa using hx
    · exact h2 x hx
theorem Lx.blank {s:List UInt8} (h:eL s= []):Lx s []:=fun n=>⟨[], .nil h,rfl⟩
theorem Lx.gW {a b:List UInt8} {Ka Kb:List Tk} (ha:Lx a Ka) (hb:Lx b Kb) (h: ∀ x,a.getLast?=some x→nm x=false∧h1 x=true):Lx (a++b) (Ka++Kb):=Lx.append ha hb (AI h)
theorem Lx.gX {a b:List UInt8} {Ka Kb:List Tk} (ha:Lx a Ka) (hb:Lx b Kb) (h: ∀ y,b.head?=some y→nm y=false∧h2 y=true):Lx (a++b) (Ka++Kb):=Lx.append ha hb (AJ h)
theorem AW {x:Option T} (h:sn x):Lx (wX x) (fh x):=by
 cases x with
 | none=>exact Lx.blank rfl
 | some t=>
  exact Lx.gX (Lx.gW (a:= [40]) (Ka:= [(3,bK,0)]) (eI 2 (by decide)) (wG t 1 h.1) (fun x hx=>by cases hx; decide)) (Kb:= [(3,bw,0)]) (eI 2 (by decide)) (fun x hx=>by cases hx; decide)
theorem EG (x:Option T) (u:List UInt8) (hu: ∀ y,u.head?=some y→nm y=false∧h2 y=true): ∀ y,(wX x++u).head?=some y→nm y=false∧h2 y=true:=by
 cases x with
 | none=>exact hu
 | some t=>intro y hy; cases hy; decide
theorem xh:Lx bh [(3,bh,0)]:=eI 2 (by decide)
theorem pP: ∀ y,bh.head?=some y→nm y=false∧h2 y=true:=fun y hy=>by cases hy; decide
theorem Sx {h:H} {th el:B} {st se:List UInt8} {kt ke:List Tk} (hok:h.ok th el) (ht:Lx st ((3,gv,0)::kt++ [(3,cY,0)])) (he:Lx se ((3,gv,0)::ke++ [(3,cY,0)])) (tn: ∀ x,st.getLast?=some x→nm x=false∧h1 x=true):Lx (bp h st se el.isNil) (cw h kt ke el.isNil):=by
 obtain ⟨hx,hk⟩:=hok
 rcases hk with ⟨k,a,b,c,d,e,f⟩ | ⟨k,a,b,c,d,e⟩ | ⟨k,a,b,c,d,e⟩ | ⟨k,a,b,c,d,e,f⟩ | ⟨k,a,b,c,d,e,f⟩ | ⟨k,a,b,c,d⟩ | ⟨k,a,b,c,d,e,f⟩
 · unfold bp cw
   rw [k,if_pos rfl,if_pos rfl]
   cases bk:h.x with
   | none=>exact absurd bk c
   | some t=>
    rw [bk] at hx
    exact Lx.gX (Ka:=(1,h.name,0)::(3,rU,0)::xz (some t)) (Lx.gW (a:=h.name++gO) (Ka:= [(1,h.name,0),(3,rU,0)]) (Lx.gX (Lx.name a) (eI 3 (by decide)) (fun x hx=>by cases hx; decide)) (wG t 1 hx.1) (fun x hx=>by rw [show h.name++gO=(h.name++ [32,61])++ [32] from by simp,List.getLast?_concat] at hx; cases hx; decide)) xh pP
 · unfold bp cw
   rw [k,if_neg (by decide),if_pos rfl,if_neg (by decide),if_pos rfl]
   rw [List.append_assoc]
   exact Lx.gX (Ka:= [(1,ir,0),(1,h.ev,0)]) (Lx.gW (Ka:= [(1,ir,0)]) (eI 3 (by decide)) (Lx.name b) (fun x hx=>by cases hx; decide)) (Lx.gX (AW hx) xh pP) (EG _ _ pP)
 · unfold bp cw
   rw [k,if_neg (by decide),if_neg (by decide),if_pos rfl,if_neg (by decide),if_neg (by decide),if_pos rfl]
   rw [List.append_assoc]
   refine Lx.gX (Ka:= [(1,iw,0),(1,h.name,0),(1,h.ev,0)]) (Lx.gW (a:=eV++h.name++aJ) (Ka:= [(1,iw,0),(1,h.name,0)]) (Lx.gX (Ka:= [(1,iw,0),(1,h.name,0)]) (Kb:= []) (Lx.gW (Ka:= [(1,iw,0)]) (eI 3 (by decide)) (Lx.name a) (fun x hx=>by cases hx; decide)) (Lx.blank (by decide)) (fun x hx=>by cases hx; decide)) (Lx.name b) (fun x hx=> ?_)) (Lx.gX (AW hx) xh pP) (EG _ _ pP)
   rw [List.getLast?_concat] at hx; cases hx; decide
 · unfold bp cw
   rw [k,if_neg (by decide),if_neg (by decide),if_neg (by decide),if_pos rfl,if_neg (by decide),if_neg (by decide),if_neg (by decide),if_pos rfl]
   rw [List.append_assoc]
   exact Lx.gX (Ka:= [(1,jZ,0),(1,h.name,0)]) (Lx.gW (Ka:= [(1,jZ,0)]) (eI 3 (by decide)) (Lx.name a) (fun x hx=>by cases hx; decide)) (Lx.gX (AW hx) xh pP) (EG _ _ pP)
 · unfold bp cw
   rw [k,if_neg (by decide),if_neg (by decide),if_neg (by decide),if_neg (by decide),if_pos rfl,if_neg (by decide),if_neg (by decide),if_neg (by decide),if_neg (by decide),if_pos rfl]
   exact Lx.gX (Ka:= [(1,kS,0),(1,h.name,0)]) (Lx.gW (Ka:= [(1,kS,0)]) (eI 3 (by decide)) (Lx.name a) (fun x hx=>by cases hx; decide)) xh pP
 · unfold bp cw
   rw [k,if_neg (by decide),if_neg (by decide),if_neg (by decide),if_neg (by decide),if_neg (by decide),if_pos rfl,if_neg (by decide),if_neg (by decide),if_neg (by decide),if_neg (by decide),if_neg (by decide),if_pos rfl]
   have h3:Lx (fX++wX h.x++aJ) ((1,j0,0)::fh h.x):=by
    have :=Lx.gX (a:=fX++wX h.x) (Ka:=(1,j0,0)::fh h.x) (Kb:= []) (Lx.gW (a:=fX) (Ka:= [(1,j0,0)]) (eI 3 (by decide)) (AW hx) (fun x hx=>by cases hx; decide)) (Lx.blank (s:=aJ) (by decide)) (fun x hx=>by cases hx; decide)
    rwa [List.append_nil] at this
   have h4:=Lx.gW h3 ht (fun x hx=>by rw [List.getLast?_concat] at hx; cases hx; decide)
   cases el.isNil with
   | true=>rw [cond_true,cond_true,List.append_nil,List.append_nil]; exact h4
   | false=>
    rw [cond_false,cond_false]
    exact Lx.gX h4 (Lx.gW (Ka:= [(1,kU,0)]) (eI 3 (by decide)) he (fun x hx=>by cases hx; decide)) (fun x hx=>by cases hx; decide)
 · unfold bp cw
   rw [k,if_neg (by decide),if_neg (by decide),if_neg (by decide),if_neg (by decide),if_neg (by decide),if_neg (by decide),if_neg (by decide),if_neg (by decide),if_neg (by decide),if_neg (by decide),if_neg (by decide),if_neg (by decide)]
   have h3:Lx (jC++Lib.itoa h.n++aJ) [(1,iW,0),(2,Lib.itoa h.n,h.n)]:=
    Lx.gX (Ka:= [(1,iW,0),(2,Lib.itoa h.n,h.n)]) (Kb:= []) (Lx.gW (Ka:= [(1,iW,0)]) (eI 3 (by decide)) (Lx.num d e) (fun x hx=>by cases hx; decide)) (Lx.blank (s:=aJ) (by decide)) (fun x hx=>by cases hx; decide)
   exact Lx.gW h3 ht (fun x hx=>by rw [List.getLast?_concat] at hx; cases hx; decide)
theorem M_ (b:B) (s:List UInt8) (d:Nat): ∀ x,(blk b s d).getLast?=some x→nm x=false∧h1 x=true:=fun x hx=>by
 unfold blk at hx
 cases hb:b.isNil with
 | true=>rw [hb,cond_true] at hx; cases hx; decide
 | false=>rw [hb,cond_false,List.getLast?_concat] at hx; cases hx; decide
theorem Jz (n:Nat): ∀ x,(rep n).getLast?=some x→nm x=false∧h1 x=true:=fun x hx=>by
 rw [(xd n).2 x (List.mem_of_getLast? hx)]; decide
theorem T8 (n:Nat) (u:List UInt8) (hu: ∀ y,u.head?=some y→nm y=false∧h2 y=true): ∀ y,(rep n++u).head?=some y→nm y=false∧h2 y=true:=fun y hy=>by
 cases hr:rep n with
 | nil=>rw [hr] at hy; exact hu y hy
 | cons a l=>
  rw [hr] at hy
  cases hy
  rw [(xd n).2 y (by rw [hr]; simp)]; decide
theorem Bt {b:B} {s:List UInt8} {d:Nat} (h:Lx s (bP b)):Lx (blk b s d) ((3,gv,0)::bP b++ [(3,cY,0)]):=by
 unfold blk
 cases hb:b.isNil with
 | true=>
  have :b= .nil:=by cases b with
   | nil=>rfl
   | cons _ _ _ _=>cases hb
  subst this
  rw [cond_true]; exact eI 4 (by decide)
 | false=>
  rw [cond_false,List.append_assoc]
  exact Lx.gX (Ka:=(3,gv,0)::bP b) (Lx.gW (Ka:= [(3,gv,0)]) (eI 3 (by decide)) h (fun x hx=>by cases hx; decide)) (Kb:= [(3,cY,0)]) (Lx.gW (Ka:= []) (Lx.blank (xd d).1) (eI 2 (by decide)) (Jz d)) (T8 d _ (fun y hy=>by cases hy; decide))
theorem zz: ∀ (b:B) (d:Nat),b.ok→Lx (dz b d) (bP b)
 | .nil,d,_=>Lx.blank rfl
 | .cons h th el rest,d,⟨hok,jt,jP,js⟩=>by
  have hA:=Sx (st:=blk th (dz th (d+1)) d) (se:=blk el (dz el (d+1)) d) (kt:=bP th) (ke:=bP el) hok (Bt (zz th (d+1) jt)) (Bt (zz el (d+1) jP)) (M_ _ _ _)
  have h1:=Lx.gW (Ka:= []) (Lx.blank (xd d).1) hA (Jz d)
  have h2:=Lx.gX (Kb:= []) h1 (Lx.blank (s:= [10]) (by decide)) (fun y hy=>by cases hy; decide)
  rw [List.nil_append,List.append_nil] at h2
  exact Lx.gW h2 (zz rest d js) (fun x hx=>by rw [List.getLast?_concat] at hx; cases hx; decide)
theorem SB (b:B) (d:Nat) (h:b.ok):Lx (cJ b d) (dY b):=Bt (zz b (d+1) h)
end Go.Sy.Ex
namespace Go.Sy.Ex
open Go.Sy
def Wr (self:List UInt8→List ah→Int→Option (List UInt8)) (l:List ah) (d:Nat) (s:List UInt8):Prop:= ∀ b:List UInt8,(b++s).length≤140737488355328→self b l (d:Int)=some (b++s)
theorem tv {el:B} {l:List ah} (h:dZ el l):(0<(l.length:Int))↔el.isNil=false:=by
 cases el with
 | nil=>rw [show l= [] from h]; simp [B.isNil]
 | cons _ _ _ _=>obtain ⟨a,l',rfl,_⟩:=h; simp [B.isNil]
theorem R7 {h:H} {th el:B} {act:ah} (hok:h.ok th el) (ha:uR h th el act) {self:List UInt8→List ah→Int→Option (List UInt8)} {d:Nat} {st se:List UInt8} (ht:Wr self act.aK d st) (he:Wr self act.aD d se) {b:List UInt8}
 (hl:(b++bp h st se el.isNil).length≤140737488355328) (k:Nat):iB self (k+1) b (d:Int) act.Kind act.Name act.Event act.X act.N act.aK act.aD act.At (gK h.x) act.X (act.X.length:Int) (act.X.length:Int)=some (b++bp h st se el.isNil):=by
 obtain ⟨hx,hk⟩:=hok
 obtain ⟨a1,a2,a3,a4,a5,a6,a7⟩:=ha
 rcases hk with ⟨kk,a,b',c,d',e,f⟩ | ⟨kk,a,b',c,d',e⟩ | ⟨kk,a,b',c,d',e⟩ | ⟨kk,a,b',c,d',e,f⟩ | ⟨kk,a,b',c,d',e,f⟩ | ⟨kk,a,b',c,d'⟩ | ⟨kk,a,b',c,d',e,f⟩
 · -- kind 1
   cases bk:h.x with
   | none=>exact absurd bk c
   | some t=>
    obtain ⟨e0,hX,kq⟩: ∃ e0,act.X= [e0]∧Is t e0:=by rw [bk] at a4; exact a4
    have hp:bp h st se el.isNil=h.name++gO++pr t 1++bh:=by unfold bp; rw [kk,bk]; rfl
    rw [hp] at hl ⊢
    rw [show gK (some t)=pr t 1 from rfl]
    simp only [List.length_append,List.length_cons,List.length_nil] at hl
    rw [a1,kk,iB.eq_2,if_neg (by omega),if_pos (by rw [hX]; simp),if_pos (by simp only [List.length_append,List.length_cons,List.length_nil]; omega),if_pos (by simp only [List.length_append,List.length_cons,List.length_nil]; omega),a2,a3,if_pos rfl,if_pos (by simp only [List.length_append,List.length_cons,List.length_nil]; omega),if_pos (by simp only [List.length_append,List.length_cons,List.length_nil]; omega),if_pos (by simp only [List.length_append,List.length_cons,List.length_nil]; omega),ff (by simp only [List.length_append,List.length_cons,List.length_nil]; omega),aa]
    all_goals first | rfl | simp
 · -- kind 2
   cases bk:h.x with
   | none=>
    have hX:act.X= []:=by rw [bk] at a4; exact a4
    have hp:bp h st se el.isNil=iu++h.ev++ []++bh:=by unfold bp; rw [kk,bk]; rfl
    rw [hp] at hl ⊢
    rw [show gK none= [] from rfl]
    simp only [List.length_append,List.length_cons,List.length_nil] at hl
    rw [a1,kk,iB.eq_2,if_neg (by omega),if_neg (by rw [hX]; simp),a2,a3,if_neg (by decide),if_pos rfl,if_pos (by simp only [List.length_append,List.length_cons,List.length_nil]; omega),if_pos (by simp only [List.length_append,List.length_cons,List.length_nil]; omega),if_pos (by simp only [List.length_append,List.length_cons,List.length_nil]; omega),ff (by simp only [List.length_append,List.length_cons,List.length_nil]; omega),aa]
    all_goals first | rfl | simp
   | some t=>
    obtain ⟨e0,hX,kq⟩: ∃ e0,act.X= [e0]∧Is t e0:=by rw [bk] at a4; exact a4
    have hp:bp h st se el.isNil=iu++h.ev++(bK++pr t 1++bw)++bh:=by unfold bp; rw [kk,bk]; rfl
    rw [hp] at hl ⊢
    rw [show gK (some t)=pr t 1 from rfl]
    simp only [List.length_append,List.length_cons,List.length_nil] at hl
    rw [a1,kk,iB.eq_2,if_neg (by omega),if_pos (by rw [hX]; simp),if_pos (by simp only [List.length_append,List.length_cons,List.length_nil]; omega),if_pos (by simp only [List.length_append,List.length_cons,List.length_nil]; omega),a2,a3,if_neg (by decide),if_pos rfl,if_pos (by simp only [List.length_append,List.length_cons,List.length_nil]; omega),if_pos (by simp only [List.length_append,List.length_cons,List.length_nil]; omega),if_pos (by simp only [List.length_append,List.length_cons,List.length_nil]; omega),ff (by simp only [List.length_append,List.length_cons,List.length_nil]; omega),aa]
    all_goals first | rfl | simp
 · -- kind 3
   cases bk:h.x with
   | none=>
    have hX:act.X= []:=by rw [bk] at a4; exact a4
    have hp:bp h st se el.isNil=eV++h.name++aJ++h.ev++ []++bh:=by unfold bp; rw [kk,bk]; rfl
    rw [hp] at hl ⊢
    rw [show gK none= [] from rfl]
    simp only [List.length_append,List.length_cons,List.length_nil] at hl
    rw [a1,kk,iB.eq_2,if_neg (by omega),if_neg (by rw [hX]; simp),a2,a3,if_neg (by decide),if_neg (by decide),if_pos rfl,if_pos (by simp only [List.length_append,List.length_cons,List.length_nil]; omega),if_pos (by simp only [List.length_append,List.length_cons,List.length_nil]; omega),if_pos (by simp only [List.length_append,List.length_cons,List.length_nil]; omega),if_pos (by simp only [List.length_append,List.length_cons,List.length_nil]; omega),if_pos (by simp only [List.length_append,List.length_cons,List.length_nil]; omega),ff (by simp only [List.length_append,List.length_cons,List.length_nil]; omega),aa]
    all_goals first | rfl | simp
   | some t=>
    obtain ⟨e0,hX,kq⟩: ∃ e0,act.X= [e0]∧Is t e0:=by rw [bk] at a4; exact a4
    have hp:bp h st se el.isNil=eV++h.name++aJ++h.ev++(bK++pr t 1++bw)++bh:=by unfold bp; rw [kk,bk]; rfl
    rw [hp] at hl ⊢
    rw [show gK (some t)=pr t 1 from rfl]
    simp only [List.length_append,List.length_cons,List.length_nil] at hl
    rw [a1,kk,iB.eq_2,if_neg (by omega),if_pos (by rw [hX]; simp),if_pos (by simp only [List.length_append,List.length_cons,List.length_nil]; omega),if_pos (by simp only [List.length_append,List.length_cons,List.length_nil]; omega),a2,a3,if_neg (by decide),if_neg (by decide),if_pos rfl,if_pos (by simp only [List.length_append,List.length_cons,List.length_nil]; omega),if_pos (by simp only [List.length_append,List.length_cons,List.length_nil]; omega),if_pos (by simp only [List.length_append,List.length_cons,List.length_nil]; omega),if_pos (by simp only [List.length_append,List.length_cons,List.length_nil]; omega),if_pos (by simp only [List.length_append,List.length_cons,List.length_nil]; omega),ff (by simp only [List.length_append,List.length_cons,List.length_nil]; omega),aa]
    all_goals first | rfl | simp
 · -- kind 4
   cases bk:h.x with
   | none=>exact absurd bk c
   | some t=>
    obtain ⟨e0,hX,kq⟩: ∃ e0,act.X= [e0]∧Is t e0:=by rw [bk] at a4; exact a4
    have hp:bp h st se el.isNil=iV++h.name++(bK++pr t 1++bw)++bh:=by unfold bp; rw [kk,bk]; rfl
    rw [hp] at hl ⊢
    rw [show gK (some t)=pr t 1 from rfl]
    simp only [List.length_append,List.length_cons,List.length_nil] at hl
    rw [a1,kk,iB.eq_2,if_neg (by omega),if_pos (by rw [hX]; simp),if_pos (by simp only [List.length_append,List.length_cons,List.length_nil]; omega),if_pos (by simp only [List.length_append,List.length_cons,List.length_nil]; omega),a2,a3,if_neg (by decide),if_neg (by decide),if_neg (by decide),if_pos rfl,if_pos (by simp only [List.length_append,List.length_cons,List.length_nil]; omega),if_pos (by simp only [List.length_append,List.length_cons,List.length_nil]; omega),if_pos (by simp only [List.length_append,List.length_cons,List.length_nil]; omega),ff (by simp only [List.length_append,List.length_cons,List.length_nil]; omega),aa]
    all_goals first | rfl | simp
 · -- kind 5
   cases bk:h.x with
   | none=>
    have hX:act.X= []:=by rw [bk] at a4; exact a4
    have hp:bp h st se el.isNil=kT++h.name++bh:=by unfold bp; rw [kk,bk]; rfl
    rw [hp] at hl ⊢
    rw [show gK none= [] from rfl]
    simp only [List.length_append,List.length_cons,List.length_nil] at hl
    rw [a1,kk,iB.eq_2,if_neg (by omega),if_neg (by rw [hX]; simp),a2,a3,if_neg (by decide),if_neg (by decide),if_neg (by decide),if_neg (by decide),if_pos rfl,if_pos (by simp only [List.length_append,List.length_cons,List.length_nil]; omega),if_pos (by simp only [List.length_append,List.length_cons,List.length_nil]; omega),ff (by simp only [List.length_append,List.length_cons,List.length_nil]; omega),aa]
    all_goals first | rfl | simp
   | some t=>rw [bk] at c; cases c
 · -- kind 6
   cases bk:h.x with
   | none=>exact absurd bk c
   | some t=>
    obtain ⟨e0,hX,kq⟩: ∃ e0,act.X= [e0]∧Is t e0:=by rw [bk] at a4; exact a4
    have hp:bp h st se el.isNil=fX++(bK++pr t 1++bw)++aJ++st++(bif el.isNil then [] else pO++se):=by unfold bp; rw [kk,bk]; rfl
    rw [hp] at hl ⊢
    rw [show gK (some t)=pr t 1 from rfl]
    simp only [List.length_append,List.length_cons,List.length_nil] at hl
    rw [a1,kk,iB.eq_2,if_neg (by omega),if_pos (by rw [hX]; simp),if_pos (by simp only [List.length_append,List.length_cons,List.length_nil]; omega),if_pos (by simp only [List.length_append,List.length_cons,List.length_nil]; omega),a2,a3,if_neg (by decide),if_neg (by decide),if_neg (by decide),if_neg (by decide),if_neg (by decide),if_pos rfl,if_pos (by simp only [List.length_append,List.length_cons,List.length_nil]; omega),if_pos (by simp only [List.length_append,List.length_cons,List.length_nil]; omega),ff (by simp only [List.length_append,List.length_cons,List.length_nil]; omega),aa]
    dsimp only
    rw [ht _ (by simp only [List.length_append,List.length_cons,List.length_nil]; omega),aa]
    cases hn:el.isNil with
    | true=>rw [if_neg (by rw [tv a7,hn]; simp)]; simp
    | false=>
     rw [hn,cond_false] at hl
     simp only [List.length_append,List.length_cons,List.length_nil] at hl
     rw [if_pos ((tv a7).2 hn),ff (by simp only [List.length_append,List.length_cons,List.length_nil]; omega),aa]
     dsimp only
     rw [he _ (by simp only [List.length_append,List.length_cons,List.length_nil]; omega),aa]
     simp
 · -- kind 7
   cases bk:h.x with
   | none=>
    have hX:act.X= []:=by rw [bk] at a4; exact a4
    have hp:bp h st se el.isNil=jC++Lib.itoa h.n++aJ++st:=by unfold bp; rw [kk,bk]; rfl
    rw [hp] at hl ⊢
    rw [show gK none= [] from rfl]
    simp only [List.length_append,List.length_cons,List.length_nil] at hl
    rw [a1,kk,iB.eq_2,if_neg (by omega),if_neg (by rw [hX]; simp),a2,a3,if_neg (by decide),if_neg (by decide),if_neg (by decide),if_neg (by decide),if_neg (by decide),if_neg (by decide),if_pos rfl,a5,show pn h.n=some (Lib.itoa h.n) from by unfold pn; rw [if_pos ⟨by omega,e⟩],aa,if_pos (by simp only [List.length_append,List.length_cons,List.length_nil]; omega),if_pos (by simp only [List.length_append,List.length_cons,List.length_nil]; omega),ff (by simp only [List.length_append,List.length_cons,List.length_nil]; omega),aa]
    dsimp only
    rw [ht _ (by simp only [List.length_append,List.length_cons,List.length_nil]; omega),aa]
    simp
   | some t=>rw [bk] at c; cases c
theorem R5 {h:H} {th el:B} {act:ah} (hok:h.ok th el) (ha:uR h th el act) {self:List UInt8→List ah→Int→Option (List UInt8)} {d:Nat} {st se:List UInt8} (ht:Wr self act.aK d st) (he:Wr self act.aD d se) {b:List UInt8}
 (hl:(b++bp h st se el.isNil).length≤140737488355328) (yV:(gK h.x).length≤140737488355328):xQ self b act (d:Int)=some (b++bp h st se el.isNil):=cu 2 fun k hk=>by
 obtain ⟨k,rfl⟩: ∃ j,k=j+2:=⟨k - 2,by omega⟩
 show iB self (k+2) b (d:Int) act.Kind act.Name act.Event act.X act.N act.aK act.aD act.At [] act.X (act.X.length:Int) 0=_
 have key:=R7 hok ha ht he hl
 have hX:=ha.2.2.2.1
 cases bk:h.x with
 | none=>
  rw [bk] at hX
  have hX:act.X= []:=hX
  have :=key (k+1)
  rw [bk,hX] at this
  rw [hX]
  exact this
 | some t=>
  rw [bk] at hX yV
  obtain ⟨e,hX,hi⟩:=hX
  have hto:t.ok:=by have :=hok.1; rw [bk] at this; exact this.1
  have :=key k
  rw [bk,hX] at this
  rw [hX,iB.eq_2,if_pos (by simp),if_pos (by decide),if_pos (by simp),show [e].getD (0:Int).toNat af.z=e from rfl,eta,SD hi hto yV,aa,show ag ((0:Int)+1)=1 from by rw [bD (by decide) (by decide)]; rfl]
  exact this
theorem SC (h:H) (st se:List UInt8) (n:Bool) (th el:B) (hok:h.ok th el):(gK h.x).length≤(bp h st se n).length:=by
 obtain ⟨hx,hk⟩:=hok
 rcases hk with ⟨k,a,b,c,d,e,f⟩ | ⟨k,a,b,c,d,e⟩ | ⟨k,a,b,c,d,e⟩ | ⟨k,a,b,c,d,e,f⟩ | ⟨k,a,b,c,d,e,f⟩ | ⟨k,a,b,c,d⟩ | ⟨k,a,b,c,d,e,f⟩
 all_goals
  unfold bp; rw [k]
  cases bk:h.x <;> first | (rw [bk] at c; cases c; done) | (simp [gK,wX] <;> omega)
theorem u0 (a:ah):ah.mk a.Kind a.Name a.Event a.X a.N a.aK a.aD a.At=a:=by cases a; rfl
theorem Jy (n:Nat) (h:n≤1000000):pz rW (n:Int)=some (rep n):=by
 unfold pz
 rw [if_pos ⟨by omega,by omega,by rw [Int.toNat_natCast]; show 2*n≤_; omega⟩,Int.toNat_natCast]; rfl
def B.sz:B→Nat
 | .nil=>1
 | .cons _ th el rest=>th.sz+el.sz+rest.sz+1
theorem sw: ∀ (b:B) (l:List ah),dZ b l→l.length+1≤b.sz
 | .nil,l,h=>by rw [show l= [] from h]; exact Nat.le_refl _
 | .cons _ _ _ rest,l,⟨a,l',h,_,_,_,_,_,_,_,hr⟩=>by
  have :=sw rest l' hr
  subst h
  simp only [B.sz,List.length_cons]; omega
theorem M9: ∀ (b:B) (l:List ah) (d:Nat),dZ b l→b.ok→d+b.sz≤900000→
 (∀ k,b.sz+3≤k→Wr (nw k) l d (cJ b d))∧
 (∀ (pre:List ah) (s:List UInt8) (k k':Nat),b.sz+2≤k→b.sz+1≤k'→pre.length≤1000000000→(pre++l).length≤1000000000→(s++dz b (d+1)++rep d++cY).length≤140737488355328→
  qb (nw k) k' s (d:Int) (pre++l) ((pre++l).length:Int) (pre.length:Int)=some (s++dz b (d+1)++rep d++cY)):=by
 intro b
 induction b with
 | nil=>
  intro l d hl _ hd
  have hl:l= []:=hl
  subst hl
  simp only [B.sz] at hd
  refine ⟨fun k hk b hb=> ?_,fun pre s k k' hk hk' qT jL hlen=> ?_⟩
  · obtain ⟨k,rfl⟩: ∃ j,k=j+1:=⟨k - 1,by omega⟩
    show sC (nw k) k b [] _=_
    unfold sC
    have hb:(b++As).length≤140737488355328:=hb
    rw [if_pos (by rfl),ff (by rw [List.length_append] at hb; exact hb),aa]
    rfl
  · obtain ⟨k',rfl⟩: ∃ j,k'=j+1:=⟨k' - 1,by omega⟩
    simp only [dz,List.append_nil,List.length_append,List.length_cons,List.length_nil] at hlen ⊢
    rw [qb.eq_2,if_neg (by omega),Jy d (by omega),aa,if_pos (by simp only [List.length_cons,List.length_nil]; omega),ff (by simp only [List.length_append,List.length_cons,List.length_nil]; omega),aa, ← List.append_assoc]
 | cons h th el rest ih1 ih2 ih3=>
  rintro l d ⟨a,l',rfl,a1,a2,a3,a4,a5,a6,a7,a8⟩ ⟨hok,jt,jP,js⟩ hd
  simp only [B.sz] at hd
  have gI: ∀ (pre:List ah) (s:List UInt8) (k k':Nat),(B.cons h th el rest).sz+2≤k→(B.cons h th el rest).sz+1≤k'→pre.length≤1000000000→(pre++a::l').length≤1000000000→(s++dz (B.cons h th el rest) (d+1)++rep d++cY).length≤140737488355328→
   qb (nw k) k' s (d:Int) (pre++a::l') ((pre++a::l').length:Int) (pre.length:Int)=some (s++dz (B.cons h th el rest) (d+1)++rep d++cY):=by
   intro pre s k k' hk hk' qT jL hlen
   simp only [B.sz] at hk hk'
   obtain ⟨k',rfl⟩: ∃ j,k'=j+1:=⟨k' - 1,by omega⟩
   simp only [dz] at hlen ⊢
   have hpos:pre.length<(pre++a::l').length:=by simp
   have eO:(pre++a::l').getD (pre.length:Int).toNat ah.z=a:=by rw [Int.toNat_natCast,List.getD_eq_getElem?_getD,List.getElem?_append_right (Nat.le_refl _),Nat.sub_self]; rfl
   have hw:ag ((d:Int)+1)=((d+1:Nat):Int):=by rw [bD (by omega) (by omega)]; omega
   have hwn:ag ((pre.length:Int)+1)=((pre++ [a]).length:Int):=by rw [bD (by omega) (by omega)]; simp
   rw [qb.eq_2,if_pos (by omega),if_pos (by omega),if_pos (by omega),eO,u0,hw,Jy (d+1) (by omega),aa]
   have hA:=SC h (blk th (dz th (d+1+1)) (d+1)) (blk el (dz el (d+1+1)) (d+1)) el.isNil th el hok
   simp only [List.length_append,List.length_cons,List.length_nil] at hlen
   rw [ff (by omega),aa]
   dsimp only
   rw [R5 (d:=d+1) hok ⟨a1,a2,a3,a4,a5,a6,a7⟩ ((ih1 a.aK (d+1) a6 jt (by omega)).1 k (by omega)) ((ih2 a.aD (d+1) a7 jP (by omega)).1 k (by omega)) (by simp only [List.length_append,List.length_cons,List.length_nil,cJ]; omega) (by omega),aa]
   rw [iE (by simp only [List.length_append,List.length_cons,List.length_nil,cJ]; omega) (by decide) (by decide),aa]
   dsimp only
   have :=(ih3 l' d a8 js (by omega)).2 (pre++ [a]) (s++rep (d+1)++bp h (cJ th (d+1)) (cJ el (d+1)) el.isNil++ [10]) k k' (by omega) (by omega) (by rw [List.length_append] at jL ⊢; simp at jL ⊢; omega) (by rw [List.append_assoc]; exact jL) (by simp only [List.length_append,List.length_cons,List.length_nil,cJ]; omega)
   rw [hwn,show (pre++a::l')=(pre++ [a])++l' from by simp]
   refine this.trans ?_
   simp [cJ]
  refine ⟨fun k hk b hb=> ?_,gI⟩
  obtain ⟨k,rfl⟩: ∃ j,k=j+1:=⟨k - 1,by omega⟩
  show sC (nw k) k b (a::l') _=_
  unfold sC
  have e1:cJ (B.cons h th el rest) d=rV++dz (B.cons h th el rest) (d+1)++rep d++cY:=rfl
  rw [e1] at hb ⊢
  simp only [List.length_append,List.length_cons,List.length_nil] at hb
  rw [if_neg (by simp; omega),ff (by simp only [List.length_cons,List.length_nil]; omega),aa]
  dsimp only
  have hlen:=sw rest l' a8
  have :=gI [] (b++rV) k k (by simp only [B.sz] at hk ⊢; omega) (by simp only [B.sz] at hk ⊢; omega) (by simp) (by simp; omega) (by simp only [List.length_append,List.length_cons,List.length_nil]; omega)
  refine this.trans ?_
  simp
theorem Fo {b:B} {l:List ah} (h:dZ b l) (hok:b.ok) (d:Nat) (hd:d+b.sz≤900000) (hl:(cJ b d).length≤140737488355328) (v:Int) (hv:max v 0=(d:Int)):qa l v=some (cJ b d):=by
 unfold qa
 rw [hv,show xP [] l (d:Int)=some (cJ b d) from cu (b.sz+3) fun k hk=>by
  have :=(M9 b l d h hok hd).1 k hk [] (by rw [List.nil_append]; exact hl)
  rw [List.nil_append] at this
  exact this,aa]
 rfl
end Go.Sy.Ex
namespace Go.Sy.Ex
open Go.Sy
theorem QG {X:List af} {x:Option T} (hX:ox x X) (hx:sn x):rX X (fun y=>jF y)=some false:=by
 have h:xl X (fun y=>jF y)=some (-1):=cu 2 fun k hk=>by
  obtain ⟨k,rfl⟩: ∃ j,k=j+2:=⟨k - 2,by omega⟩
  show mu (k+2) X (fun y=>jF y) (X.length:Int) 0=_
  cases x with
  | none=>rw [show X= [] from hX,mu.eq_2,if_neg (by simp)]
  | some t=>
   obtain ⟨e,rfl,hi⟩:=hX
   rw [mu.eq_2,if_pos (by simp),if_pos (by decide),if_pos (by simp),show [e].getD (0:Int).toNat af.z=e from rfl]
   rw [show jF e=some false from by
    unfold jF
    rw [eta,Ll hi hx.1 hx.2,aa]; rfl,aa,cond_false,show ag ((0:Int)+1)=1 from by rw [bD (by decide) (by decide)]; rfl]
   rw [mu.eq_2,if_neg (by simp)]
 unfold rX
 rw [h,aa]
 rfl
theorem Iz {s:List UInt8} (h:bT s=true):s.length<200000000000000:=by have :=(eB h).2.1; omega
theorem UO {h:H} {th el:B} {a:ah} (hok:h.ok th el) (ha:uR h th el a):sH a=some true:=cu 3 fun k hk=>by
 obtain ⟨k,rfl⟩: ∃ j,k=j+3:=⟨k - 3,by omega⟩
 show sI (k+3) a=_
 obtain ⟨hx,hk⟩:=hok
 obtain ⟨a1,a2,a3,a4,a5,a6,a7⟩:=ha
 have xs:h.x≠none→a.X.length=1:=fun q=>by
  cases bk:h.x with
  | none=>exact absurd bk q
  | some t=>rw [bk] at a4; obtain ⟨e,he,_⟩:=a4; rw [he]; rfl
 have xn:a.X.length≤1:=by
  cases bk:h.x with
  | none=>rw [bk] at a4; rw [show a.X= [] from a4]; decide
  | some t=>rw [bk] at a4; obtain ⟨e,he,_⟩:=a4; rw [he]; simp
 have x0:h.x=none→a.X.length=0:=fun q=>by rw [q] at a4; rw [show a.X= [] from a4]; rfl
 have t0:th= .nil→a.aK.length=0:=fun q=>by rw [q] at a6; rw [show a.aK= [] from a6]; rfl
 have e0:el= .nil→a.aD.length=0:=fun q=>by rw [q] at a7; rw [show a.aD= [] from a7]; rfl
 have c2: ∀ blocks:Int,(blocks≤0→a.aK.length=0)→(blocks≤1→a.aD.length=0)→qe (k+1) a.Kind a.Name a.Event a.X a.N a.aK a.aD a.At blocks=some true:=fun blocks q1 q2=>by
  rw [qe.eq_2]
  by_cases b0:0<blocks
  · rw [if_pos b0]
    by_cases b1:1<blocks
    · rw [if_pos b1]
    · rw [if_neg b1,decide_eq_true (by have :=q2 (by omega); omega)]
  · rw [if_neg b0,if_pos (by have :=q1 (by omega); omega),if_neg (by omega),decide_eq_true (by have :=q2 (by omega); omega)]
 have c1: ∀ least most blocks:Int,least≤(a.X.length:Int)→(a.X.length:Int)≤most→(a.N≠0→a.Kind=7∧0≤a.N)→(blocks≤0→a.aK.length=0)→(blocks≤1→a.aD.length=0)→lH (k+2) a.Kind a.Name a.Event a.X a.N a.aK a.aD a.At least most blocks=some true:=fun least most blocks p1 p2 p3 q1 q2=>by
  rw [lH.eq_2,if_neg (by omega),if_neg (by omega)]
  by_cases hN:a.N=0
  · rw [if_neg (by simp [hN])]; exact c2 blocks q1 q2
  · rw [if_pos hN,if_neg (by simp [(p3 hN).1]),if_neg (by have :=(p3 hN).2; omega)]; exact c2 blocks q1 q2
 have c0: ∀ (name event:Bool) (least most blocks:Int),(name=true→bT a.Name=true)→(name=false→a.Name= [])→(event=true→bT a.Event=true)→(event=false→a.Event= [])→least≤(a.X.length:Int)→(a.X.length:Int)≤most→(a.N≠0→a.Kind=7∧0≤a.N)→(blocks≤0→a.aK.length=0)→(blocks≤1→a.aD.length=0)→gf (k+3) a.Kind a.Name a.Event a.X a.N a.aK a.aD a.At least most name event blocks=some true:=fun name event least most blocks n1 n2 n3 n4 p1 p2 p3 q1 q2=>by
  have hc:=c1 least most blocks p1 p2 p3 q1 q2
  have ev:(if event≠(decide (a.Event≠ [])) then
   some false else
   bif event then
   (lY a.Event).bind fun r2=>
   bif !r2 then
   some false else
   lH (k+2) a.Kind a.Name a.Event a.X a.N a.aK a.aD a.At least most blocks else
   lH (k+2) a.Kind a.Name a.Event a.X a.N a.aK a.aD a.At least most blocks)=some true:=by
   cases event with
   | true=>
    have :=n3 rfl
    rw [if_neg (by simp [(eB this).1]),cond_true,wA _ (Iz this),aa,this,Bool.not_true,cond_false]; exact hc
   | false=>rw [if_neg (by simp [n4 rfl]),cond_false]; exact hc
  rw [gf.eq_2]
  cases name with
  | true=>
   have :=n1 rfl
   rw [if_neg (by simp [(eB this).1]),cond_true,wA _ (Iz this),aa,this,Bool.not_true,cond_false]; exact ev
  | false=>rw [if_neg (by simp [n2 rfl]),cond_false]; exact ev
 unfold sI
 rcases hk with ⟨kk,a',b',c,d',e,f⟩ | ⟨kk,a',b',c,d',e⟩ | ⟨kk,a',b',c,d',e⟩ | ⟨kk,a',b',c,d',e,f⟩ | ⟨kk,a',b',c,d',e,f⟩ | ⟨kk,a',b',c,d'⟩ | ⟨kk,a',b',c,d',e,f⟩
 · have hK:a.Kind=1:=a1.trans kk
   have :=c0 true false 1 1 0 (fun _=>by rw [a2]; exact a') (fun q=>by cases q) (fun q=>by cases q) (fun _=>a3.trans b') (by have :=xs c; omega) (by omega) (fun q=>absurd (a5.trans d') q) (fun _=>t0 e) (fun _=>e0 f)
   rw [if_pos hK,if_pos hK]; exact this
 · have hK:a.Kind=2:=a1.trans kk
   have :=c0 false true 0 1 0 (fun q=>by cases q) (fun _=>a2.trans a') (fun _=>by rw [a3]; exact b') (fun q=>by cases q) (by omega) (by omega) (fun q=>absurd (a5.trans c) q) (fun _=>t0 d') (fun _=>e0 e)
   rw [if_neg (by omega),if_neg (by omega),if_pos hK]; exact this
 · have hK:a.Kind=3:=a1.trans kk
   have :=c0 true true 0 1 0 (fun _=>by rw [a2]; exact a') (fun q=>by cases q) (fun _=>by rw [a3]; exact b') (fun q=>by cases q) (by omega) (by omega) (fun q=>absurd (a5.trans c) q) (fun _=>t0 d') (fun _=>e0 e)
   rw [if_neg (by omega),if_neg (by omega),if_neg (by omega),if_pos hK]; exact this
 · have hK:a.Kind=4:=a1.trans kk
   have :=c0 true false 1 1 0 (fun _=>by rw [a2]; exact a') (fun q=>by cases q) (fun q=>by cases q) (fun _=>a3.trans b') (by have :=xs c; omega) (by omega) (fun q=>absurd (a5.trans d') q) (fun _=>t0 e) (fun _=>e0 f)
   rw [if_neg (by omega),if_pos hK]; exact this
 · have hK:a.Kind=5:=a1.trans kk
   have :=c0 true false 0 0 0 (fun _=>by rw [a2]; exact a') (fun q=>by cases q) (fun q=>by cases q) (fun _=>a3.trans b') (by omega) (by have :=x0 c; omega) (fun q=>absurd (a5.trans d') q) (fun _=>t0 e) (fun _=>e0 f)
   rw [if_neg (by omega),if_neg (by omega),if_neg (by omega),if_neg (by omega),if_pos hK]; exact this
 · have hK:a.Kind=6:=a1.trans kk
   have :=c0 false false 1 1 2 (fun q=>by cases q) (fun _=>a2.trans a') (fun q=>by cases q) (fun _=>a3.trans b') (by have :=xs c; omega) (by omega) (fun q=>absurd (a5.trans d') q) (fun q=>by omega) (fun q=>by omega)
   rw [if_neg (by omega),if_neg (by omega),if_neg (by omega),if_neg (by omega),if_neg (by omega),if_pos hK]; exact this
 · have hK:a.Kind=7:=a1.trans kk
   have :=c0 false false 0 0 1 (fun q=>by cases q) (fun _=>a2.trans a') (fun q=>by cases q) (fun _=>a3.trans b') (by omega) (by have :=x0 c; omega) (fun _=>⟨hK,by omega⟩) (fun q=>by omega) (fun _=>e0 f)
   rw [if_neg (by omega),if_neg (by omega),if_neg (by omega),if_neg (by omega),if_neg (by omega),if_neg (by omega),if_pos hK]; exact this
theorem MB: ∀ (b:B) (o:Nat),b.sz≤1000000→b.ok→1≤o→o+b.dp≤5→ ∀ (l:List ah),dZ b l→(∀ k,b.sz+2≤k→fV k l (o:Int)=some true)∧
 ∀ (pre:List ah) (k k':Nat),b.sz+1≤k→b.sz+1≤k'→(pre++l).length≤1000000000→fy (fV k) k' (o:Int) (pre++l) ((pre++l).length:Int) (pre.length:Int)=some true:=by
 intro b
 have wrap: ∀ (b:B) (o:Nat) (l:List ah),o+b.dp≤5→(W6: ∀ (k k':Nat),b.sz+1≤k→b.sz+1≤k'→fy (fV k) k' (o:Int) l (l.length:Int) 0=some true)→ ∀ k,b.sz+2≤k→fV k l (o:Int)=some true:=fun b o l hd h k hk=>by
  have :=b.BH
  obtain ⟨k,rfl⟩: ∃ j,k=j+1:=⟨k - 1,by omega⟩
  show oD (fV k) k l _=_
  unfold oD
  rw [if_neg (by omega)]
  exact h k k (by omega) (by omega)
 induction b with
 | nil=>
  intro o _ _ ho hd l hl
  have hl:l= []:=hl
  subst hl
  have gI: ∀ (pre:List ah) (k k':Nat),B.nil.sz+1≤k→B.nil.sz+1≤k'→(pre++ []).length≤1000000000→fy (fV k) k' (o:Int) (pre++ []) ((pre++ []).length:Int) (pre.length:Int)=some true:=fun pre k k' hk hk' _=>by
   obtain ⟨k',rfl⟩: ∃ j,k'=j+1:=⟨k' - 1,by omega⟩
   rw [fy.eq_2,if_neg (by simp)]
  exact ⟨wrap .nil o [] hd fun k k' h1 h2=>gI [] k k' h1 h2 (by simp),gI⟩
 | cons h th el rest ih1 ih2 ih3=>
  rintro o hsz ⟨hok,jt,jP,js⟩ ho hd l ⟨a,l',rfl,Cj,Pc,Pd,GY,Pe,Ck,yJ,GZ⟩
  have hd':=hd
  simp only [B.dp] at hd'
  have yX:=hsz
  simp only [B.sz] at yX
  have hd1:h.kind=6∨h.kind=7→o+1+th.dp≤5:=fun q=>by rw [if_pos q] at hd'; omega
  have vG:el.isNil=false→o+1+el.dp≤5:=fun q=>by rw [q,cond_false] at hd'; omega
  have gI: ∀ (pre:List ah) (k k':Nat),(B.cons h th el rest).sz+1≤k→(B.cons h th el rest).sz+1≤k'→(pre++a::l').length≤1000000000→fy (fV k) k' (o:Int) (pre++a::l') ((pre++a::l').length:Int) (pre.length:Int)=some true:=fun pre k k' hk hk' hlen=>by
   simp only [B.sz] at hk hk'
   obtain ⟨k',rfl⟩: ∃ j,k'=j+1:=⟨k' - 1,by omega⟩
   have hpos:pre.length<(pre++a::l').length:=by simp
   have eO:(pre++a::l').getD (pre.length:Int).toNat ah.z=a:=by rw [Int.toNat_natCast,List.getD_eq_getElem?_getD,List.getElem?_append_right (Nat.le_refl _),Nat.sub_self]; rfl
   have hw:ag ((o:Int)+1)=((o+1:Nat):Int):=by rw [bD (by omega) (by omega)]; omega
   have hwn:ag ((pre.length:Int)+1)=((pre++ [a]).length:Int):=by rw [bD (by omega) (by omega)]; simp
   have hnext:fy (fV k) k' (o:Int) (pre++a::l') ((pre++a::l').length:Int) ((pre++ [a]).length:Int)=some true:=by
    rw [show (pre++a::l')=(pre++ [a])++l' from by simp]
    exact (ih3 o (by omega) js ho (by omega) l' GZ).2 (pre++ [a]) k k' (by omega) (by omega) (by rw [List.append_assoc]; exact hlen)
   have Cp:(if 0<(a.aD.length:Int) then
    (fV k a.aD ((o+1:Nat):Int)).bind fun r4=>
    bif !r4 then
    some false else
    fy (fV k) k' (o:Int) (pre++a::l') ((pre++a::l').length:Int) ((pre++ [a]).length:Int) else
    fy (fV k) k' (o:Int) (pre++a::l') ((pre++a::l').length:Int) ((pre++ [a]).length:Int))=some true:=by
    cases hn:el.isNil with
    | true=>rw [if_neg (by rw [tv yJ,hn]; simp)]; exact hnext
    | false=>rw [if_pos ((tv yJ).2 hn),(ih2 (o+1) (by omega) jP (by omega) (vG hn) a.aD yJ).1 k (by omega),aa,Bool.not_true,cond_false]; exact hnext
   rw [fy.eq_2,if_pos (by omega),if_pos (by omega),if_pos (by omega),eO,u0,UO hok ⟨Cj,Pc,Pd,GY,Pe,Ck,yJ⟩,aa,Bool.not_true,cond_false,QG GY hok.1,aa,cond_false,hw,hwn]
   by_cases c6:a.Kind=6
   · rw [if_pos c6,(ih1 (o+1) (by omega) jt (by omega) (hd1 (.inl (Cj.symm.trans c6))) a.aK Ck).1 k (by omega),aa,Bool.not_true,cond_false]; exact Cp
   · rw [if_neg c6]
     by_cases c7:a.Kind=7
     · rw [if_pos c7,(ih1 (o+1) (by omega) jt (by omega) (hd1 (.inr (Cj.symm.trans c7))) a.aK Ck).1 k (by omega),aa,Bool.not_true,cond_false]; exact Cp
     · rw [if_neg c7]; exact Cp
  refine ⟨wrap (.cons h th el rest) o (a::l') hd fun k k' h1 h2=>gI [] k k' h1 h2 ?_,gI⟩
  have :=sw rest l' GZ
  simp
  omega
theorem LK {b:B} {l:List ah} (h:dZ b l) (hok:b.ok) (hd:b.dp≤4) (hsz:b.sz≤1000000):j6 l=some true:=by
 unfold j6
 rw [show sG l 1=some true from cu (b.sz+2) fun k hk=>(MB b 1 hsz hok (Nat.le_refl _) (by omega) l h).1 k hk,aa]
end Go.Sy.Ex
namespace Go.Sy.Ex
open Go.Sy
abbrev b1:B:= .cons ⟨2,[],[101],some (.num 1),0⟩ .nil .nil (.cons ⟨7,[],[],none,2⟩ .nil .nil .nil)
theorem Bp:b1.ok:=by
 refine ⟨⟨⟨⟨by decide,by decide⟩,by decide⟩, .inr (.inl ⟨rfl,rfl,by show bT [101]=true; decide+kernel,rfl,rfl,rfl⟩)⟩,trivial,trivial,⟨trivial, .inr (.inr (.inr (.inr (.inr (.inr ⟨rfl,rfl,rfl,rfl,by decide,by decide,rfl⟩)))))⟩,trivial,trivial,trivial⟩
theorem Vr:dY b1= [(3,gv,0),(1,ir,0),(1,[101],0),(3,bK,0),(2,[49],1),(3,bw,0),(3,bh,0),(1,iW,0),(2,[50],2),(3,gv,0),(3,cY,0),(3,cY,0)]:=by
 simp only [dY,bP,cw,fh,toks,B.isNil]
 rw [C3,HU]
 rfl
theorem IU:cJ b1 0=JQ:=by
 simp only [cJ,dz,bp,blk,wX,pr,B.isNil]
 rw [C3,HU]
 rfl
def bd (t:ax):bf:=if t.Kind=4 then ⟨12,t.At⟩ else ⟨11,t.At⟩
theorem Bq (t:ax):(bd t).Code≠0:=by unfold bd; split <;> (dsimp only; decide)
theorem ML {l:List ax} {i o:Nat} (hi:i<l.length) (hl:l.length≤100000) {s:List UInt8} (h:br (aj l i) s=false):fG (at' l i o) s=some (aL.mk (bC.mk l (i:Int) (bd (aj l i))) (o:Int)):=by
 unfold fG
 rw [sL hi hl,aa,h,Bool.not_false,cond_true,if_neg (by decide)]
 have hw:kF (at' l i o)=some (aL.mk (bC.mk l (i:Int) (bd (aj l i))) (o:Int)):=by
  unfold kF
  rw [j8 hi,aa]
  dsimp only
  unfold bd
  by_cases h4:(aj l i).Kind=4
  · rw [if_pos h4,if_pos h4]
    unfold mc
    rw [nC,aa]
    rfl
  · rw [if_neg h4,if_neg h4]
    unfold mc
    rw [nC,aa]
    rfl
 dsimp only
 rw [hw,aa]
section
variable {s:aL} (h:s.Row.bN.Code≠0)
include h
theorem Fl:jv s=some (false,s):=by unfold jv; rw [decide_eq_false h]
theorem Mu (self:aL→Option (List ah×aL)) (k:Nat) (acc:List ah):lG self (k+1) s.Row.L s.Row.At s.Row.bN.Code s.Row.bN.At s.aM acc=some (acc,aL.mk s.Row (ag (s.aM - 1))):=by
 rw [lG.eq_2]
 rw [show aL.mk (bC.mk s.Row.L s.Row.At (bf.mk s.Row.bN.Code s.Row.bN.At)) s.aM=s from by cases s; rename_i r o; cases r; rename_i l a f; cases f; rfl,Fl h,aa,cond_false]
end
theorem Tm: ∃ cs,mO Ej=some (cs,false):=by
 obtain ⟨l,h1,h2⟩:=(eI 10 (u:=Ej) (K:= [(3,gv,0),(1,[120],0),(3,rU,0),(2,[49],1),(3,cY,0)]) (by decide+kernel)).all (by decide)
 have hlen:l.length=6:=by
  have :=congrArg List.length h2
  simpa using this
 have hl:l.length≤100000:=by omega
 have hs:Seq l 0 [(3,gv,0),(1,[120],0),(3,rU,0),(2,[49],1),(3,cY,0)]:=Em (R:= [(4,[],0)]) (by rw [List.drop_zero,h2])
 obtain ⟨h0,t0,i1,t1,i2,t2,i3,t3,i4,t4, -⟩:=hs
 have hx:bT [120]=true:=by decide+kernel
 have hto:(T.num 1).ok:=⟨by decide,by decide⟩
 have htk:toks (.num 1) 1= [(2,[49],1)]:=by simp only [toks]; rw [C3]; rfl
 obtain ⟨e,he,hp⟩:=Bi (t:= .num 1) (o:=1) hto (by decide) hl (i:=0+1+1+1) (by rw [htk]; exact ⟨i3,t3,trivial⟩) (by rw [htk]; exact i4) (by rw [htk]; show iY (aj l (0+1+1+1+1))<1; rw [uz t4]; decide)
 rw [htk] at hp
 have hp:oB (at' l (0+1+1+1) 1)=some ([e],at' l (0+1+1+1+1) 1):=hp
 have hact: ∀ self,ji self (at' l (0+1) 1)=some (ah.mk 1 [120] [] [e] 0 [] [] (aj l (0+1)).At,aL.mk (bC.mk l ((0+1+1+1+1:Nat):Int) (bd (aj l (0+1+1+1+1)))) ((1:Nat):Int)):=fun self=>by
  unfold ji
  rw [j8 i1,aa]
  dsimp only
  rw [oE i1 t1 true (by decide),aa,cond_true]
  dsimp only
  rw [qh i1 hl t1 hx,aa]
  dsimp only
  rw [j9 i2 hl (iJ t2 (Or.inl rfl)),aa,hp,aa]
  dsimp only
  rw [ML i4 hl (kB t4 (.inr (by decide))),aa]
 have lT: ∀ k,4≤k→gV k (at' l 0 0)=some ([ah.mk 1 [120] [] [e] 0 [] [] (aj l (0+1)).At],aL.mk (bC.mk l ((0+1+1+1+1:Nat):Int) (bd (aj l (0+1+1+1+1)))) (ag (((1:Nat):Int) - 1))):=fun k hk=>by
  obtain ⟨k,rfl⟩: ∃ j,k=j+4:=⟨k - 4,by omega⟩
  show sE (gV (k+3)) (k+3) (at' l 0 0)=_
  unfold sE
  rw [qg h0 t0 gv true (by decide),aa,cond_true]
  dsimp only
  rw [if_neg (by show ¬ ((0:Nat):Int)=4; omega),sF.eq_2]
  rw [show aL.mk (bC.mk (at' l 0 0).Row.L (at' l 0 0).Row.At (bf.mk (at' l 0 0).Row.bN.Code (at' l 0 0).Row.bN.At)) (at' l 0 0).aM=at' l 0 0 from rfl,j9 h0 hl (iJ t0 (Or.inl rfl)),aa]
  show lG (gV (k+3)) (k+2) l ((0+1:Nat):Int) 0 0 (ag (((0:Nat):Int)+1)) []=_
  rw [show ag (((0:Nat):Int)+1)=((1:Nat):Int) from by rw [bD (by omega) (by omega)]; rfl,lG.eq_2]
  rw [show aL.mk (bC.mk l ((0+1:Nat):Int) (bf.mk 0 0)) ((1:Nat):Int)=at' l (0+1) 1 from rfl,nC,aa,cond_true]
  dsimp only
  rw [sL i1 hl,aa,kB t1 (.inr (by decide)),Bool.not_false,cond_true,if_neg (by decide),hact,aa,if_pos (by simp)]
  exact Mu (s:=aL.mk (bC.mk l ((0+1+1+1+1:Nat):Int) (bd (aj l (0+1+1+1+1)))) ((1:Nat):Int)) (Bq _) _ k _
 refine ⟨[], ?_⟩
 unfold mO
 rw [HZ,aa,h1]
 dsimp only
 rw [if_neg (by simp)]
 unfold sA
 rw [show uY (aL.mk (bC.mk l 0 (bf.mk 0 0)) 0)=_ from cu 4 fun k hk=>lT k (by omega),aa,Fl (Bq _),aa,Bool.not_false,cond_true,aa]
 dsimp only
 rw [if_neg (Bq _)]
theorem y_:nQ=some true:=by
 obtain ⟨cs,hcs,hr⟩:=H_ Bp (by decide) (s:=JR) (by rw [Vr]; exact eI 20 (by decide+kernel)) (by decide)
 obtain ⟨ds,hd⟩:=Tm
 unfold nQ
 rw [hr,aa,hd,aa]
 dsimp only
 rw [cond_true,Bool.not_false,cond_true,Fo hcs Bp 0 (by decide) (by rw [IU]; decide) 0 (by rfl),aa,if_pos IU,LK hcs Bp (by decide) (by decide),aa,cond_true]
 have hz:j6 [ah.mk 0 [] [] [] 0 [] [] 0]=some false:=by
  unfold j6
  rw [show sG [ah.mk 0 [] [] [] 0 [] [] 0] 1=some false from cu 3 fun k hk=>by
   obtain ⟨k,rfl⟩: ∃ j,k=j+2:=⟨k - 2,by omega⟩
   show oD (fV (k+1)) (k+1) _ 1=_
   unfold oD
   rw [if_neg (by decide),fy.eq_2,if_pos (by decide),if_pos (by decide),if_pos (by decide)]
   rw [show sH (ah.mk _ _ _ _ _ _ _ _)=some false from cu 0 fun k _=>by rfl,aa]
   rfl,aa]
 rw [hz,aa]
 rfl
end Go.Sy.Ex
namespace Go.Sy.Ex
open Go.Sy
theorem T_ (n:Nat):rep n++rW=rep (n+1):=by
 unfold rep
 rw [Lib.repeatL_add]
 rfl
theorem FC (n:Nat) (hn:n≤1000000):w8 (n:Int)=some (rep n):=cu (n+1) fun k hk=>by
 show rL k (n:Int) [] 0=_
 have loop: ∀ m i,i+m=n→ ∀ k,m+1≤k→rL k (n:Int) (rep i) (i:Int)=some (rep n):=by
  intro m
  induction m with
  | zero=>
   intro i h k hk
   obtain ⟨k,rfl⟩: ∃ j,k=j+1:=⟨k - 1,by omega⟩
   have :i=n:=by omega
   subst this
   rw [rL.eq_2,if_neg (by omega)]
  | succ m ih=>
   intro i h k hk
   obtain ⟨k,rfl⟩: ∃ j,k=j+1:=⟨k - 1,by omega⟩
   have hl:(rep i).length=2*i:=by unfold rep; rw [Lib.repeatL_length]; simp; omega
   rw [rL.eq_2,if_pos (by omega),if_pos (by rw [hl]; simp only [List.length_cons,List.length_nil]; omega),T_,show ag ((i:Int)+1)=((i+1:Nat):Int) from by rw [bD (by omega) (by omega)]; omega]
   exact ih (i+1) (by omega) k (by omega)
 exact loop n 0 (by omega) k hk
theorem xV {x:Option T} {X:List af} (hX:ox x X) (hx:sn x) (hl:(wX x).length≤140737488355328):pK X=some (wX x):=by
 unfold pK
 cases x with
 | none=>rw [show X= [] from hX,if_pos (by rfl)]; rfl
 | some t=>
  obtain ⟨e,rfl,hi⟩:=hX
  have hl':(bK++pr t 1++bw).length≤140737488355328:=hl
  simp only [List.length_append,List.length_cons,List.length_nil] at hl'
  rw [if_neg (by simp),if_pos (by decide),if_pos (by simp),show [e].getD (0:Int).toNat af.z=e from rfl,I4 hi hx.1 (by omega),aa,if_pos (by simp only [List.length_append,List.length_cons,List.length_nil]; omega),if_pos (by simp only [List.length_append,List.length_cons,List.length_nil]; omega)]
  rfl
theorem Ui {h:H} {th el:B} {act:ah} (hok:h.ok th el) (ha:uR h th el act) {self:List ah→Int→Option (List UInt8)} {d:Int} {st se:List UInt8} (ht:self act.aK d=some st) (he:self act.aD d=some se) (hl:(bp h st se el.isNil).length≤140737488355328):w_ self act d=some (bp h st se el.isNil):=by
 obtain ⟨hx,hk⟩:=hok
 obtain ⟨a1,a2,a3,a4,a5,a6,a7⟩:=ha
 unfold w_
 rcases hk with ⟨kk,a,b',c,d',e,f⟩ | ⟨kk,a,b',c,d',e⟩ | ⟨kk,a,b',c,d',e⟩ | ⟨kk,a,b',c,d',e,f⟩ | ⟨kk,a,b',c,d',e,f⟩ | ⟨kk,a,b',c,d'⟩ | ⟨kk,a,b',c,d',e,f⟩
 · cases bk:h.x with
   | none=>exact absurd bk c
   | some t=>
    obtain ⟨e0,hX,kq⟩: ∃ e0,act.X= [e0]∧Is t e0:=by rw [bk] at a4; exact a4
    rw [bk] at hx
    have hp:bp h st se el.isNil=h.name++gO++pr t 1++bh:=by unfold bp; rw [kk,bk]; rfl
    rw [hp] at hl ⊢
    simp only [List.length_append,List.length_cons,List.length_nil] at hl
    rw [a1,kk,if_pos rfl,a2,hX,if_pos (by simp only [List.length_append,List.length_cons,List.length_nil]; omega),if_pos (by decide),if_pos (by simp),show [e0].getD (0:Int).toNat af.z=e0 from rfl,I4 kq hx.1 (by omega),aa,if_pos (by simp only [List.length_append,List.length_cons,List.length_nil]; omega),if_pos (by simp only [List.length_append,List.length_cons,List.length_nil]; omega)]
 · have hp:bp h st se el.isNil=iu++h.ev++wX h.x++bh:=by unfold bp; rw [kk]; rfl
   rw [hp] at hl ⊢
   simp only [List.length_append,List.length_cons,List.length_nil] at hl
   rw [a1,kk,if_neg (by decide),if_pos rfl,a3,if_pos (by simp only [List.length_append,List.length_cons,List.length_nil]; omega),xV a4 hx (by omega),aa,if_pos (by simp only [List.length_append,List.length_cons,List.length_nil]; omega),if_pos (by simp only [List.length_append,List.length_cons,List.length_nil]; omega)]
 · have hp:bp h st se el.isNil=eV++h.name++aJ++h.ev++wX h.x++bh:=by unfold bp; rw [kk]; rfl
   rw [hp] at hl ⊢
   simp only [List.length_append,List.length_cons,List.length_nil] at hl
   rw [a1,kk,if_neg (by decide),if_neg (by decide),if_pos rfl,a2,a3,if_pos (by simp only [List.length_append,List.length_cons,List.length_nil]; omega),if_pos (by simp only [List.length_append,List.length_cons,List.length_nil]; omega),if_pos (by simp only [List.length_append,List.length_cons,List.length_nil]; omega),xV a4 hx (by omega),aa,if_pos (by simp only [List.length_append,List.length_cons,List.length_nil]; omega),if_pos (by simp only [List.length_append,List.length_cons,List.length_nil]; omega)]
 · have hp:bp h st se el.isNil=iV++h.name++wX h.x++bh:=by unfold bp; rw [kk]; rfl
   rw [hp] at hl ⊢
   simp only [List.length_append,List.length_cons,List.length_nil] at hl
   rw [a1,kk,if_neg (by decide),if_neg (by decide),if_neg (by decide),if_pos rfl,a2,if_pos (by simp only [List.length_append,List.length_cons,List.length_nil]; omega),xV a4 hx (by omega),aa,if_pos (by simp only [List.length_append,List.length_cons,List.length_nil]; omega),if_pos (by simp only [List.length_append,List.length_cons,List.length_nil]; omega)]
 · have hp:bp h st se el.isNil=kT++h.name++bh:=by unfold bp; rw [kk]; rfl
   rw [hp] at hl ⊢
   simp only [List.length_append,List.length_cons,List.length_nil] at hl
   rw [a1,kk,if_neg (by decide),if_neg (by decide),if_neg (by decide),if_neg (by decide),if_pos rfl,a2,if_pos (by simp only [List.length_append,List.length_cons,List.length_nil]; omega),if_pos (by simp only [List.length_append,List.length_cons,List.length_nil]; omega)]
 · have hp:bp h st se el.isNil=fX++wX h.x++aJ++st++(bif el.isNil then [] else pO++se):=by unfold bp; rw [kk]; rfl
   rw [hp] at hl ⊢
   simp only [List.length_append,List.length_cons,List.length_nil] at hl
   rw [a1,kk,if_neg (by decide),if_neg (by decide),if_neg (by decide),if_neg (by decide),if_neg (by decide),if_neg (by decide),xV a4 hx (by omega),aa,if_pos (by simp only [List.length_append,List.length_cons,List.length_nil]; omega),if_pos (by simp only [List.length_append,List.length_cons,List.length_nil]; omega),ht,aa,if_pos (by simp only [List.length_append,List.length_cons,List.length_nil]; omega)]
   cases hn:el.isNil with
   | true=>rw [if_neg (by rw [tv a7,hn]; simp)]; simp
   | false=>
    rw [hn,cond_false] at hl
    simp only [List.length_append,List.length_cons,List.length_nil] at hl
    rw [if_pos ((tv a7).2 hn),if_pos (by simp only [List.length_append,List.length_cons,List.length_nil]; omega),he,aa,if_pos (by simp only [List.length_append,List.length_cons,List.length_nil]; omega)]
    simp
 · have hp:bp h st se el.isNil=jC++Lib.itoa h.n++aJ++st:=by unfold bp; rw [kk]; rfl
   rw [hp] at hl ⊢
   simp only [List.length_append,List.length_cons,List.length_nil] at hl
   rw [a1,kk,if_neg (by decide),if_neg (by decide),if_neg (by decide),if_neg (by decide),if_neg (by decide),if_pos rfl,a5,ET h.n (by omega) e,aa,if_pos (by simp only [List.length_append,List.length_cons,List.length_nil]; omega),if_pos (by simp only [List.length_append,List.length_cons,List.length_nil]; omega),ht,aa,if_pos (by simp only [List.length_append,List.length_cons,List.length_nil]; omega)]
theorem Vq {h:H} {th el:B} (hok:h.ok th el) (d:Nat) (se:List UInt8) (n:Bool):(cJ th d).length≤max (bp h (cJ th d) se n).length 2:=by
 obtain ⟨_,hk⟩:=hok
 rcases hk with ⟨k,_,_,_,_,e,_⟩ | ⟨k,_,_,_,e,_⟩ | ⟨k,_,_,_,e,_⟩ | ⟨k,_,_,_,_,e,_⟩ | ⟨k,_,_,_,_,e,_⟩ | ⟨k,_⟩ | ⟨k,_⟩
 · subst e; exact Nat.le_max_right _ _
 · subst e; exact Nat.le_max_right _ _
 · subst e; exact Nat.le_max_right _ _
 · subst e; exact Nat.le_max_right _ _
 · subst e; exact Nat.le_max_right _ _
 · refine Nat.le_trans ?_ (Nat.le_max_left _ _)
   unfold bp; rw [k,if_neg (by decide),if_neg (by decide),if_neg (by decide),if_neg (by decide),if_neg (by decide),if_pos rfl]
   simp only [List.length_append]; omega
 · refine Nat.le_trans ?_ (Nat.le_max_left _ _)
   unfold bp; rw [k,if_neg (by decide),if_neg (by decide),if_neg (by decide),if_neg (by decide),if_neg (by decide),if_neg (by decide)]
   simp only [List.length_append]; omega
theorem NR {h:H} {th el:B} (hok:h.ok th el) (d:Nat) (st:List UInt8) (d':Nat):(cJ el d).length≤max (bp h st (cJ el d) el.isNil).length 2:=by
 cases hn:el.isNil with
 | true=>
  have :el= .nil:=by cases el with
   | nil=>rfl
   | cons _ _ _ _=>cases hn
  subst this
  exact Nat.le_max_right _ _
 | false=>
  have h6:h.kind=6:=by
   obtain ⟨_,hk⟩:=hok
   rcases hk with ⟨k,_,_,_,_,_,e⟩ | ⟨k,_,_,_,_,e⟩ | ⟨k,_,_,_,_,e⟩ | ⟨k,_,_,_,_,_,e⟩ | ⟨k,_,_,_,_,_,e⟩ | ⟨k,_⟩ | ⟨k,_,_,_,_,_,e⟩
   · subst e; cases hn
   · subst e; cases hn
   · subst e; cases hn
   · subst e; cases hn
   · subst e; cases hn
   · exact k
   · subst e; cases hn
  refine Nat.le_trans ?_ (Nat.le_max_left _ _)
  unfold bp; rw [h6,if_neg (by decide),if_neg (by decide),if_neg (by decide),if_neg (by decide),if_neg (by decide),if_pos rfl,cond_false]
  simp only [List.length_append]; omega
theorem SY: ∀ (b:B) (l:List ah) (d:Nat),dZ b l→b.ok→d+b.sz≤900000→
 (∀ k,b.sz+3≤k→(cJ b d).length≤140737488355328→kJ k l (d:Int)=some (cJ b d))∧
 (∀ (pre:List ah) (s:List UInt8) (k k':Nat),b.sz+2≤k→b.sz+1≤k'→(pre++l).length≤1000000000→(s++dz b (d+1)++rep d++cY).length≤140737488355328→
  rM (kJ k) k' (pre++l) (d:Int) s (pre.length:Int)=some (s++dz b (d+1)++rep d++cY)):=by
 intro b
 induction b with
 | nil=>
  intro l d hl _ hd
  have hl:l= []:=hl
  subst hl
  simp only [B.sz] at hd
  refine ⟨fun k hk _=> ?_,fun pre s k k' hk hk' jL hlen=> ?_⟩
  · obtain ⟨k,rfl⟩: ∃ j,k=j+1:=⟨k - 1,by omega⟩
    show n7 (kJ k) k [] _=_
    unfold n7
    rw [if_pos (by rfl)]
    rfl
  · obtain ⟨k',rfl⟩: ∃ j,k'=j+1:=⟨k' - 1,by omega⟩
    simp only [dz,List.append_nil,List.length_append,List.length_cons,List.length_nil] at hlen ⊢
    rw [rM.eq_2,if_neg (by omega),FC d (by omega),aa,if_pos (by omega),if_pos (by simp only [List.length_append,List.length_cons,List.length_nil]; omega)]
 | cons h th el rest ih1 ih2 ih3=>
  rintro l d ⟨a,l',rfl,a1,a2,a3,a4,a5,a6,a7,a8⟩ ⟨hok,jt,jP,js⟩ hd
  simp only [B.sz] at hd
  have gI: ∀ (pre:List ah) (s:List UInt8) (k k':Nat),(B.cons h th el rest).sz+2≤k→(B.cons h th el rest).sz+1≤k'→(pre++a::l').length≤1000000000→(s++dz (B.cons h th el rest) (d+1)++rep d++cY).length≤140737488355328→
   rM (kJ k) k' (pre++a::l') (d:Int) s (pre.length:Int)=some (s++dz (B.cons h th el rest) (d+1)++rep d++cY):=by
   intro pre s k k' hk hk' jL hlen
   simp only [B.sz] at hk hk'
   obtain ⟨k',rfl⟩: ∃ j,k'=j+1:=⟨k' - 1,by omega⟩
   simp only [dz] at hlen ⊢
   have hpos:pre.length<(pre++a::l').length:=by simp
   have eO:(pre++a::l').getD (pre.length:Int).toNat ah.z=a:=by rw [Int.toNat_natCast,List.getD_eq_getElem?_getD,List.getElem?_append_right (Nat.le_refl _),Nat.sub_self]; rfl
   have hw:ag ((d:Int)+1)=((d+1:Nat):Int):=by rw [bD (by omega) (by omega)]; omega
   have hwn:ag ((pre.length:Int)+1)=((pre++ [a]).length:Int):=by rw [bD (by omega) (by omega)]; simp
   simp only [List.length_append,List.length_cons,List.length_nil] at hlen
   have hA:(bp h (cJ th (d+1)) (cJ el (d+1)) el.isNil).length≤140737488355328:=by simp only [cJ]; omega
   have cl:=(ih1 a.aK (d+1) a6 jt (by omega)).1 k (by omega) (Nat.le_trans (Vq hok (d+1) (cJ el (d+1)) el.isNil) (by omega))
   have hel:=(ih2 a.aD (d+1) a7 jP (by omega)).1 k (by omega) (Nat.le_trans (NR hok (d+1) (cJ th (d+1)) 0) (by omega))
   rw [rM.eq_2,if_pos (by omega),hw,FC (d+1) (by omega),aa,if_pos (by omega),if_pos (by omega),if_pos (by omega),eO]
   rw [Ui hok ⟨a1,a2,a3,a4,a5,a6,a7⟩ cl hel hA,aa,if_pos (by simp only [List.length_append,cJ]; omega),if_pos (by simp only [List.length_append,List.length_cons,List.length_nil,cJ]; omega)]
   have :=(ih3 l' d a8 js (by omega)).2 (pre++ [a]) (s++rep (d+1)++bp h (cJ th (d+1)) (cJ el (d+1)) el.isNil++ [10]) k k' (by omega) (by omega) (by rw [List.append_assoc]; exact jL) (by simp only [List.length_append,List.length_cons,List.length_nil,cJ]; omega)
   rw [hwn,show (pre++a::l')=(pre++ [a])++l' from by simp]
   refine this.trans ?_
   simp [cJ]
  refine ⟨fun k hk hb=> ?_,gI⟩
  obtain ⟨k,rfl⟩: ∃ j,k=j+1:=⟨k - 1,by omega⟩
  show n7 (kJ k) k (a::l') _=_
  unfold n7
  have e1:cJ (B.cons h th el rest) d=rV++dz (B.cons h th el rest) (d+1)++rep d++cY:=rfl
  rw [e1] at hb ⊢
  have hlen:=sw rest l' a8
  rw [if_neg (by simp; omega),show max (d:Int) 0=(d:Int) from by omega]
  exact gI [] rV k k (by simp only [B.sz] at hk ⊢; omega) (by simp only [B.sz] at hk ⊢; omega) (by simp; omega) hb
theorem Um {b:B} {l:List ah} (h:dZ b l) (hok:b.ok) (d:Nat) (hd:d+b.sz≤900000) (hl:(cJ b d).length≤140737488355328) (v:Int) (hv:max v 0=(d:Int)):zW l v=some (cJ b d):=cu (b.sz+4) fun k hk=>by
 obtain ⟨k,rfl⟩: ∃ j,k=j+1:=⟨k - 1,by omega⟩
 have h1:=(SY b l d h hok hd).1 (k+1) (by omega) hl
 have h2:kJ (k+1) l (d:Int)=n7 (kJ k) k l (d:Int):=rfl
 show n7 (kJ k) k l v=_
 rw [h2] at h1
 unfold n7 at h1 ⊢
 rw [show max (d:Int) 0=(d:Int) from by omega] at h1
 rw [hv]; exact h1
end Go.Sy.Ex
namespace Go.Sy.Ex
open Go.Sy
theorem NW {x:Option T} {X Y:List af} (hX:ox x X) (hY:ox x Y) (hx:sn x):rY X Y (fun y=>vl y.1 y.2)=some true:=by
 cases x with
 | none=>
  rw [show X= [] from hX,show Y= [] from hY,BO 0 _ _ _ (by decide) (fun x hx=>by cases hx)]
  rfl
 | some t=>
  obtain ⟨e,rfl,he⟩:=hX
  obtain ⟨f,rfl,hf⟩:=hY
  rw [BO (t.sz+1) _ _ _ (by simp) (fun z hz y=>by rw [List.mem_singleton] at hz; subst hz; exact Lp (he.fw hx.1) y)]
  simp [AQ he hf (he.fw hx.1)]
theorem MI: ∀ (b:B),b.ok→b.sz≤1000000→ ∀ (l m:List ah),dZ b l→dZ b m→(∀ k,b.sz+1≤k→jh k l m=some true)∧
 ∀ (pre pre':List ah) (k k':Nat),pre.length=pre'.length→b.sz≤k→b.sz≤k'→(pre++l).length≤1000000000→
  oc k' (pre'++m) (fun y=>lF (jh k) y.1 y.2) (pre++l) ((pre++l).length:Int) (pre.length:Int)=some true:=by
 intro b
 have wrap: ∀ (b:B) (l m:List ah),l.length=m.length→(∀ k k':Nat,b.sz≤k→b.sz≤k'→oc k' m (fun y=>lF (jh k) y.1 y.2) l (l.length:Int) 0=some true)→ ∀ k,b.sz+1≤k→jh k l m=some true:=fun b l m Ht h k hk=>by
  obtain ⟨k,rfl⟩: ∃ j,k=j+1:=⟨k - 1,by omega⟩
  show xO (jh k) k l m=_
  unfold xO
  rw [show AN l m (fun y=>lF (jh k) y.1 y.2)=some true from cu b.sz fun k' hk'=>by
   show AO k' l m (fun y=>lF (jh k) y.1 y.2)=_
   unfold AO
   rw [if_neg (by omega)]
   exact h k k' (by omega) hk',aa]
 induction b with
 | nil=>
  intro _ _ l m hl hm
  have hl:l= []:=hl
  have hm:m= []:=hm
  subst hl; subst hm
  have gI: ∀ (pre pre':List ah) (k k':Nat),pre.length=pre'.length→B.nil.sz≤k→B.nil.sz≤k'→(pre++ []).length≤1000000000→
   oc k' (pre'++ []) (fun y=>lF (jh k) y.1 y.2) (pre++ []) ((pre++ []).length:Int) (pre.length:Int)=some true:=fun pre pre' k k' hp hk hk' _=>by
   simp only [B.sz] at hk'
   obtain ⟨k',rfl⟩: ∃ j,k'=j+1:=⟨k' - 1,by omega⟩
   rw [oc.eq_2,if_neg (by simp)]
  exact ⟨wrap .nil [] [] rfl fun k k' h1 h2=>gI [] [] k k' rfl h1 h2 (by simp),gI⟩
 | cons h th el rest ih1 ih2 ih3=>
  rintro ⟨hok,jt,jP,js⟩ hsz l m ⟨a,l',rfl,a1,a2,a3,a4,a5,a6,a7,a8⟩ ⟨c,m',rfl,c1,c2,c3,c4,c5,c6,c7,c8⟩
  have yX:=hsz
  simp only [B.sz] at yX
  have WM:=sw rest l' a8
  have WN:=sw rest m' c8
  have UH: ∀ (b:B) (l m:List ah),dZ b l→dZ b m→l.length=m.length:=by
   intro b
   induction b with
   | nil=>intro l m hl hm; rw [show l= [] from hl,show m= [] from hm]
   | cons _ _ _ r _ _ ih=>
    rintro l m ⟨_,l1,rfl,_,_,_,_,_,_,_,h1⟩ ⟨_,m1,rfl,_,_,_,_,_,_,_,h2⟩
    simp only [List.length_cons]; rw [ih l1 m1 h1 h2]
  have Ht:=UH rest l' m' a8 c8
  have gI: ∀ (pre pre':List ah) (k k':Nat),pre.length=pre'.length→(B.cons h th el rest).sz≤k→(B.cons h th el rest).sz≤k'→(pre++a::l').length≤1000000000→
   oc k' (pre'++c::m') (fun y=>lF (jh k) y.1 y.2) (pre++a::l') ((pre++a::l').length:Int) (pre.length:Int)=some true:=fun pre pre' k k' hp hk hk' hlen=>by
   simp only [B.sz] at hk hk'
   obtain ⟨k',rfl⟩: ∃ j,k'=j+1:=⟨k' - 1,by omega⟩
   have hpos:pre.length<(pre++a::l').length:=by simp
   have WV:pre.length<(pre'++c::m').length:=by simp; omega
   have eO:(pre++a::l').getD (pre.length:Int).toNat ah.z=a:=by rw [Int.toNat_natCast,List.getD_eq_getElem?_getD,List.getElem?_append_right (Nat.le_refl _),Nat.sub_self]; rfl
   have PK:(pre'++c::m').getD (pre.length:Int).toNat ah.z=c:=by rw [Int.toNat_natCast,hp,List.getD_eq_getElem?_getD,List.getElem?_append_right (Nat.le_refl _),Nat.sub_self]; rfl
   have hwn:ag ((pre.length:Int)+1)=((pre++ [a]).length:Int):=by rw [bD (by omega) (by omega)]; simp
   have hS:lF (jh k) a c=some true:=by
    unfold lF
    rw [if_pos (a1.trans c1.symm),if_pos (a2.trans c2.symm),if_pos (a3.trans c3.symm),if_pos (a5.trans c5.symm),NW a4 c4 hok.1,aa,cond_true,(ih1 jt (by omega) a.aK c.aK a6 c6).1 k (by omega),aa,cond_true,(ih2 jP (by omega) a.aD c.aD a7 c7).1 k (by omega),aa]
   rw [oc.eq_2,if_pos (by omega),if_pos (by omega),if_pos (by omega),if_pos (by omega),if_pos (by omega),eO,PK,u0,u0]
   dsimp only
   rw [hS,aa,Bool.not_true,cond_false,hwn,show pre++a::l'=(pre++ [a])++l' from by simp,show pre'++c::m'=(pre'++ [c])++m' from by simp]
   exact (ih3 js (by omega) l' m' a8 c8).2 (pre++ [a]) (pre'++ [c]) k k' (by simp [hp]) (by omega) (by omega) (by rw [List.append_assoc]; exact hlen)
  refine ⟨wrap (.cons h th el rest) (a::l') (c::m') (by simp [Ht]) fun k k' h1 h2=>gI [] [] k k' rfl h1 h2 (by simp; omega),gI⟩
theorem LL {b:B} {l m:List ah} (hl:dZ b l) (hm:dZ b m) (hok:b.ok) (hsz:b.sz≤1000000):xN l m=some true:=cu (b.sz+1) fun k hk=>(MI b hok hsz l m hl hm).1 k hk
end Go.Sy.Ex
namespace Go.Sy.Ex
open Go.Sy
def B.small:B→Prop
 | .nil=>True
 | .cons h th el rest=>(gK h.x).length≤3000∧th.small∧el.small∧rest.small
theorem Sw {h:H} {th el:B} (hok:h.ok th el) (hx:(gK h.x).length≤3000) (st se:List UInt8) (n:Bool):(bp h st se n).length≤3102+st.length+se.length:=by
 have hw:(wX h.x).length≤3002:=by
  cases bk:h.x with
  | none=>exact Nat.zero_le _
  | some t=>rw [bk] at hx; have hx:(pr t 1).length≤3000:=hx; simp [wX]; omega
 obtain ⟨_,hk⟩:=hok
 rcases hk with ⟨k,a,b,_⟩ | ⟨k,a,b,_⟩ | ⟨k,a,b,_⟩ | ⟨k,a,b,_⟩ | ⟨k,a,b,_⟩ | ⟨k,a,b,_⟩ | ⟨k,a,b,c,d,e,_⟩
 · have :=(eB a).2.1; unfold bp; rw [k]; simp; omega
 · have :=(eB b).2.1; unfold bp; rw [k]; simp; omega
 · have :=(eB a).2.1; have :=(eB b).2.1; unfold bp; rw [k]; simp; omega
 · have :=(eB a).2.1; unfold bp; rw [k]; simp; omega
 · have :=(eB a).2.1; unfold bp; rw [k]; simp; omega
 · unfold bp; rw [k]; cases n <;> simp <;> omega
 · have :=HV d e; unfold bp; rw [k]; simp; omega
theorem zy: ∀ (b:B) (d:Nat),b.ok→b.small→(dz b d).length≤b.sz*(6*(d+b.sz)+3500)
 | .nil,d,_,_=>Nat.zero_le _
 | .cons h th el rest,d,⟨hok,jt,jP,js⟩,⟨hx,U_,U8,U9⟩=>by
  have h1:=zy th (d+1) jt U_
  have h2:=zy el (d+1) jP U8
  have h3:=zy rest d js U9
  have gi: ∀ n,(rep n).length=2*n:=fun n=>by unfold rep; rw [Lib.repeatL_length]; simp; omega
  have lT: ∀ (b:B) (s:List UInt8),(blk b s d).length≤s.length+2*d+3:=fun b s=>by
   unfold blk
   cases b.isNil with
   | true=>simp
   | false=>simp [gi]; omega
  have hA:=Sw hok hx (blk th (dz th (d+1)) d) (blk el (dz el (d+1)) d) el.isNil
  have fP:=lT th (dz th (d+1))
  have gG:=lT el (dz el (d+1))
  simp only [dz,B.sz,List.length_append,gi,List.length_cons,List.length_nil]
  have m1:th.sz*(6*(d+1+th.sz)+3500)≤th.sz*(6*(d+(th.sz+el.sz+rest.sz+1))+3500):=Nat.mul_le_mul_left _ (by omega)
  have m2:el.sz*(6*(d+1+el.sz)+3500)≤el.sz*(6*(d+(th.sz+el.sz+rest.sz+1))+3500):=Nat.mul_le_mul_left _ (by omega)
  have m3:rest.sz*(6*(d+rest.sz)+3500)≤rest.sz*(6*(d+(th.sz+el.sz+rest.sz+1))+3500):=Nat.mul_le_mul_left _ (by omega)
  have e:(th.sz+el.sz+rest.sz+1)*(6*(d+(th.sz+el.sz+rest.sz+1))+3500)=th.sz*(6*(d+(th.sz+el.sz+rest.sz+1))+3500)+el.sz*(6*(d+(th.sz+el.sz+rest.sz+1))+3500)+rest.sz*(6*(d+(th.sz+el.sz+rest.sz+1))+3500)+(6*(d+(th.sz+el.sz+rest.sz+1))+3500):=by
   rw [Nat.add_mul,Nat.add_mul,Nat.add_mul,Nat.one_mul]
  rw [e]
  omega
theorem Sz {b:B} {d:Nat} (hok:b.ok) (hs:b.small) (hd:d≤200) (hz:b.sz≤600000):(cJ b d).length≤140737488355328:=by
 have h1:=zy b (d+1) hok hs
 have h2:b.sz*(6*(d+1+b.sz)+3500)≤600000*4000000:=Nat.mul_le_mul hz (by omega)
 have gi:(rep d).length=2*d:=by unfold rep; rw [Lib.repeatL_length]; simp; omega
 unfold cJ blk
 cases b.isNil with
 | true=>simp
 | false=>simp [gi]; omega
end Go.Sy.Ex
namespace Go.Sy.Ex
open Go.Sy
def Wa:Nat→List ah→Prop
 | 0,_=>True
 | n+1,l=>l.length≤10000000000000∧ ∀ a ∈ l,(-9223372036854775808≤a.N∧a.N≤9223372036854775807)∧(∀ e ∈ a.X, ∃ m,Fw m e)∧Wa n a.aK∧Wa n a.aD
def Fx (e:af):Prop:= ∃ n,Fw n e∧ez n e≤60
def Fa:Nat→List ah→Prop
 | 0,_=>False
 | n+1,l=>l.length≤12∧ ∀ a ∈ l,a.X.length≤3∧a.Name.length≤40∧a.Event.length≤40∧(∀ e ∈ a.X,Fx e)∧Fa n a.aK∧Fa n a.aD
theorem BY: ∀ (d:Nat),d≤8→ ∀ (l:List ah),Wa d l→ ∃ b,(∀ k,d+100≤k→iK k l (d:Int)=some b)∧(b=true→Fa d l)
 | 0,_,l,_=>⟨false,fun k hk=>by
  obtain ⟨k,rfl⟩: ∃ j,k=j+1:=⟨k - 1,by omega⟩
  show o5 (iK k) k l _=_
  unfold o5
  rw [if_pos (by rfl)],fun h=>by cases h⟩
 | d+1,hd,l,⟨_,CR⟩=>by
  by_cases h12:12<(l.length:Int)
  · refine ⟨false,fun k hk=> ?_,fun h=>by cases h⟩
    obtain ⟨k,rfl⟩: ∃ j,k=j+1:=⟨k - 1,by omega⟩
    show o5 (iK k) k l _=_
    unfold o5
    rw [if_neg (by omega),if_pos h12]
  have hw:ag (((d+1:Nat):Int) - 1)=((d:Nat):Int):=by rw [bD (by omega) (by omega)]; omega
  have inner: ∀ (i:Nat) (hi:i<l.length) (b0:Bool) (K:Nat),(∀ k k',d+100≤k→K≤k'→jO (iK k) k' l ((d+1:Nat):Int) ((i+1:Nat):Int)=some b0)→
   ∀ m j,j+m=l[i].X.length→l[i].X.length≤3→ ∃ b,(∀ k k',d+100≤k→K+m+1≤k'→o6 (iK k) k' l ((d+1:Nat):Int) (i:Int) ((j:Nat):Int)=some b)∧(b=true→b0=true∧ ∀ e ∈ l[i].X.drop j,Fx e):=by
   intro i hi b0 K hb m
   induction m with
   | zero=>
    intro j h h3
    refine ⟨b0,fun k k' hk hk'=> ?_,fun h'=>⟨h',fun e he=>by rw [List.drop_eq_nil_of_le (by omega)] at he; cases he⟩⟩
    obtain ⟨k',rfl⟩: ∃ j,k'=j+1:=⟨k' - 1,by omega⟩
    rw [o6.eq_2,if_pos (by omega),if_pos (by omega),Int.toNat_natCast,cO _ hi,if_neg (by omega),show ag ((i:Int)+1)=((i+1:Nat):Int) from by rw [bD (by omega) (by omega)]; omega]
    exact hb k k' hk (by omega)
   | succ m ih=>
    intro j h h3
    have hj:j<l[i].X.length:=by omega
    obtain ⟨n0,hn0⟩:=(CR _ (List.getElem_mem hi)).2.1 _ (List.getElem_mem hj)
    obtain ⟨out,ho,hf⟩:=Ld (most:=60) hn0 (by decide)
    rw [show ((60:Nat):Int)=60 from rfl] at ho
    by_cases GP:60<(out.length:Int)
    · refine ⟨false,fun k k' hk hk'=> ?_,fun h'=>by cases h'⟩
      obtain ⟨k',rfl⟩: ∃ j,k'=j+1:=⟨k' - 1,by omega⟩
      rw [o6.eq_2,if_pos (by omega),if_pos (by omega),Int.toNat_natCast,cO _ hi,if_pos (by omega),if_pos (by omega),if_pos (by omega),if_pos (by omega),if_pos (by omega),Int.toNat_natCast,cO _ hj,ho,aa,if_pos GP]
    · obtain ⟨b,h1,h2⟩:=ih (j+1) (by omega) h3
      refine ⟨b,fun k k' hk hk'=> ?_,fun h'=>⟨(h2 h').1,fun e he=> ?_⟩⟩
      · obtain ⟨k',rfl⟩: ∃ j,k'=j+1:=⟨k' - 1,by omega⟩
        rw [o6.eq_2,if_pos (by omega),if_pos (by omega),Int.toNat_natCast,cO _ hi,if_pos (by omega),if_pos (by omega),if_pos (by omega),if_pos (by omega),if_pos (by omega),Int.toNat_natCast,cO _ hj,ho,aa,if_neg GP,show ag ((j:Int)+1)=((j+1:Nat):Int) from by rw [bD (by omega) (by omega)]; omega]
        exact h1 k k' hk (by omega)
      · rw [List.drop_eq_getElem_cons hj] at he
        rcases List.mem_cons.1 he with rfl | he
        · exact ⟨n0,hn0,Nat.le_trans (hf (by omega)) (by omega)⟩
        · exact (h2 h').2 e he
  have loop: ∀ m i,i+m=l.length→ ∃ b,(∀ k k',d+100≤k→5*m+1≤k'→jO (iK k) k' l ((d+1:Nat):Int) ((i:Nat):Int)=some b)∧
   (b=true→ ∀ a ∈ l.drop i,a.X.length≤3∧a.Name.length≤40∧a.Event.length≤40∧(∀ e ∈ a.X,Fx e)∧Fa d a.aK∧Fa d a.aD):=by
   intro m
   induction m with
   | zero=>
    intro i h
    refine ⟨true,fun k k' hk hk'=> ?_,fun _ a ha=>by rw [List.drop_eq_nil_of_le (by omega)] at ha; cases ha⟩
    obtain ⟨k',rfl⟩: ∃ j,k'=j+1:=⟨k' - 1,by omega⟩
    rw [jO.eq_2,if_neg (by omega)]
   | succ m ih=>
    intro i h
    have hi:i<l.length:=by omega
    have no:(∀ k k',d+100≤k→jO (iK k) (k'+1) l ((d+1:Nat):Int) ((i:Nat):Int)=some false)→ ∃ b,(∀ k k',d+100≤k→5*(m+1)+1≤k'→jO (iK k) k' l ((d+1:Nat):Int) ((i:Nat):Int)=some b)∧
     (b=true→ ∀ a ∈ l.drop i,a.X.length≤3∧a.Name.length≤40∧a.Event.length≤40∧(∀ e ∈ a.X,Fx e)∧Fa d a.aK∧Fa d a.aD):=fun q=>
     ⟨false,fun k k' hk hk'=>by
      obtain ⟨k',rfl⟩: ∃ j,k'=j+1:=⟨k' - 1,by omega⟩
      exact q k k' hk,fun h'=>by cases h'⟩
    by_cases c1:3<(l[i].X.length:Int)
    · refine no fun k k' hk=> ?_
      rw [jO.eq_2,if_pos (by omega),if_pos (by omega),if_pos (by omega),Int.toNat_natCast,cO _ hi,if_pos c1]
    by_cases c2:40<(l[i].Name.length:Int)
    · refine no fun k k' hk=> ?_
      rw [jO.eq_2,if_pos (by omega),if_pos (by omega),if_pos (by omega),Int.toNat_natCast,cO _ hi,if_neg c1,if_pos (by omega),if_pos (by omega),if_pos c2]
    by_cases c3:40<(l[i].Event.length:Int)
    · refine no fun k k' hk=> ?_
      rw [jO.eq_2,if_pos (by omega),if_pos (by omega),if_pos (by omega),Int.toNat_natCast,cO _ hi,if_neg c1,if_pos (by omega),if_pos (by omega),if_neg c2,if_pos (by omega),if_pos (by omega),if_pos c3]
    obtain ⟨b1,t1,t2⟩:=BY d (by omega) l[i].aK (CR _ (List.getElem_mem hi)).2.2.1
    obtain ⟨b2,e1,e2⟩:=BY d (by omega) l[i].aD (CR _ (List.getElem_mem hi)).2.2.2
    have head: ∀ k k',d+100≤k→jO (iK k) (k'+1) l ((d+1:Nat):Int) ((i:Nat):Int)=bif !b1 then some false else bif !b2 then some false else o6 (iK k) k' l ((d+1:Nat):Int) ((i:Nat):Int) 0:=fun k k' hk=>by
     rw [jO.eq_2,if_pos (by omega),if_pos (by omega),if_pos (by omega),Int.toNat_natCast,cO _ hi,if_neg c1,if_pos (by omega),if_pos (by omega),if_neg c2,if_pos (by omega),if_pos (by omega),if_neg c3,if_pos (by omega),if_pos (by omega),hw,t1 k hk,aa,if_pos (by omega),if_pos (by omega),e1 k hk,aa]
    cases b1 with
    | false=>exact no fun k k' hk=>head k k' hk
    | true=>
     cases b2 with
     | false=>exact no fun k k' hk=>head k k' hk
     | true=>
      obtain ⟨b0,h1,h2⟩:=ih (i+1) (by omega)
      obtain ⟨b,g1,g2⟩:=inner i hi b0 (5*m+1) h1 l[i].X.length 0 (by omega) (by omega)
      refine ⟨b,fun k k' hk hk'=> ?_,fun h' a ha=> ?_⟩
      · obtain ⟨k',rfl⟩: ∃ j,k'=j+1:=⟨k' - 1,by omega⟩
        rw [head k k' hk]
        exact g1 k k' hk (by omega)
      · obtain ⟨g3,g4⟩:=g2 h'
        rw [List.drop_eq_getElem_cons hi] at ha
        rcases List.mem_cons.1 ha with rfl | ha
        · exact ⟨by omega,by omega,by omega,by rw [List.drop_zero] at g4; exact g4,t2 rfl,e2 rfl⟩
        · exact h2 g3 a ha
  obtain ⟨b,h1,h2⟩:=loop l.length 0 (by omega)
  refine ⟨b,fun k hk=> ?_,fun h=>⟨by omega,by rw [List.drop_zero] at h2; exact h2 h⟩⟩
  obtain ⟨k,rfl⟩: ∃ j,k=j+1:=⟨k - 1,by omega⟩
  show o5 (iK k) k l _=_
  unfold o5
  rw [if_neg (by omega),if_neg h12]
  exact h1 k k (by omega) (by omega)
theorem Ov {l:List ah} (h:Wa 8 l): ∃ b,zf l 8=some b∧(b=true→Fa 8 l):=by
 obtain ⟨b,h1,h2⟩:=BY 8 (Nat.le_refl _) l h
 exact ⟨b,cu 108 h1,h2⟩
end Go.Sy.Ex
namespace Go.Sy.Ex
open Go.Sy
noncomputable def xR (e:af):Bool:= @decide (∃ t,Is t e∧t.ok∧aT t 1≤12) (Classical.propDecidable _)
theorem K4 {e:af} {b:Bool} (h:b=true↔ ∃ t,Is t e∧t.ok∧aT t 1≤12):b=xR e:=by
 unfold xR
 rw [Bool.eq_iff_iff,h]
 exact (@decide_eq_true_iff _ (Classical.propDecidable _)).symm
theorem K3 {e:af} (h:Fx e):qm e=some (xR e)∧ud e=some (xR e):=by
 obtain ⟨n,hn,hz⟩:=h
 obtain ⟨b,h1,h2⟩:=E2 hn
 obtain ⟨b',h3,h4⟩:=SW hn (by omega)
 rw [h1,h3,K4 h2,K4 h4]
 exact ⟨rfl,rfl⟩
def fZ (a:ah):Bool:=decide ((1≤a.Kind∧a.Kind≤7)∧((a.Kind=1∨a.Kind=3∨a.Kind=4∨a.Kind=5)↔a.Name≠ [])∧((a.Kind=1∨a.Kind=3∨a.Kind=4∨a.Kind=5)→bT a.Name=true)∧
 ((a.Kind=2∨a.Kind=3)↔a.Event≠ [])∧((a.Kind=2∨a.Kind=3)→bT a.Event=true)∧a.X.length≤1∧((a.Kind=1∨a.Kind=4∨a.Kind=6)→a.X.length=1)∧((a.Kind=5∨a.Kind=7)→a.X.length=0)∧
 (a.N=0∨(a.Kind=7∧0<a.N))∧(a.Kind=6∨a.Kind=7∨a.aK.length=0)∧(a.Kind=6∨a.aD.length=0))
theorem MJ {a:ah} (hn:a.Name.length≤40) (he:a.Event.length≤40):sH a=some (fZ a):=cu 3 fun k hk=>by
 obtain ⟨k,rfl⟩: ∃ j,k=j+3:=⟨k - 3,by omega⟩
 show sI (k+3) a=_
 have c2: ∀ blocks:Int,qe (k+1) a.Kind a.Name a.Event a.X a.N a.aK a.aD a.At blocks=some (decide ((0<blocks∨a.aK.length=0)∧(1<blocks∨a.aD.length=0))):=fun blocks=>by
  rw [qe.eq_2]
  by_cases b0:0<blocks
  · rw [if_pos b0]
    by_cases b1:1<blocks
    · rw [if_pos b1,decide_eq_true ⟨.inl b0, .inl b1⟩]
    · rw [if_neg b1]; congr 1; rw [decide_eq_decide]; omega
  · rw [if_neg b0]
    by_cases t0:(a.aK.length:Int)=0
    · rw [if_pos t0,if_neg (by omega)]; congr 1; rw [decide_eq_decide]; omega
    · rw [if_neg t0,decide_eq_false (by omega)]
 have c1: ∀ least most blocks:Int,lH (k+2) a.Kind a.Name a.Event a.X a.N a.aK a.aD a.At least most blocks=some (decide (least≤(a.X.length:Int)∧(a.X.length:Int)≤most∧(a.N=0∨(a.Kind=7∧0<a.N))∧(0<blocks∨a.aK.length=0)∧(1<blocks∨a.aD.length=0))):=fun least most blocks=>by
  rw [lH.eq_2]
  by_cases x1:(a.X.length:Int)<least
  · rw [if_pos x1,decide_eq_false (by omega)]
  rw [if_neg x1]
  by_cases x2:most<(a.X.length:Int)
  · rw [if_pos x2,decide_eq_false (by omega)]
  rw [if_neg x2,c2]
  by_cases n0:a.N=0
  · rw [if_neg (by omega)]; congr 1; rw [decide_eq_decide]; omega
  rw [if_pos n0]
  by_cases k7:a.Kind=7
  · rw [if_neg (by omega)]
    by_cases nn:a.N<0
    · rw [if_pos nn,decide_eq_false (by omega)]
    · rw [if_neg nn]; congr 1; rw [decide_eq_decide]; omega
  · rw [if_pos k7,decide_eq_false (by omega)]
 have ev : ∀ (x : Option Bool) (q : Prop) [Decidable q] (event : Bool), x = some (decide q) → (if event ≠ (decide (a.Event ≠ [])) then
       some false else
       bif event then
       (lY a.Event).bind fun r2=>
       bif !r2 then
       some false else
       x else
       x)=some (decide ((event=true↔a.Event≠ [])∧(event=true→bT a.Event=true)∧q)):=fun x q _ event hx=>by
  by_cases e0:a.Event= []
  · cases event with
    | true=>rw [if_pos (by simp [e0]),decide_eq_false (by simp [e0])]
    | false=>rw [if_neg (by simp [e0]),cond_false,hx]; congr 1; rw [decide_eq_decide]; simp [e0]
  · cases event with
    | false=>rw [if_pos (by simp [e0]),decide_eq_false (by simp [e0])]
    | true=>
     rw [if_neg (by simp [e0]),cond_true,wA _ (by omega),aa,hx]
     cases hp:bT a.Event with
     | true=>rw [Bool.not_true,cond_false]; congr 1; rw [decide_eq_decide]; simp [e0]
     | false=>rw [Bool.not_false,cond_true,decide_eq_false (by simp)]
 have c0: ∀ (name event:Bool) (least most blocks:Int),gf (k+3) a.Kind a.Name a.Event a.X a.N a.aK a.aD a.At least most name event blocks=some (decide ((name=true↔a.Name≠ [])∧(name=true→bT a.Name=true)∧((event=true↔a.Event≠ [])∧(event=true→bT a.Event=true)∧
  (least≤(a.X.length:Int)∧(a.X.length:Int)≤most∧(a.N=0∨(a.Kind=7∧0<a.N))∧(0<blocks∨a.aK.length=0)∧(1<blocks∨a.aD.length=0))))):=fun name event least most blocks=>by
  rw [gf.eq_2,ev _ _ event (c1 least most blocks)]
  by_cases e0:a.Name= []
  · cases name with
    | true=>rw [if_pos (by simp [e0]),decide_eq_false (by simp [e0])]
    | false=>rw [if_neg (by simp [e0]),cond_false]; congr 1; rw [decide_eq_decide]; simp [e0]
  · cases name with
    | false=>rw [if_pos (by simp [e0]),decide_eq_false (by simp [e0])]
    | true=>
     rw [if_neg (by simp [e0]),cond_true,wA _ (by omega),aa]
     cases hp:bT a.Name with
     | true=>rw [Bool.not_true,cond_false]; congr 1; rw [decide_eq_decide]; simp [e0]
     | false=>rw [Bool.not_false,cond_true,decide_eq_false (by simp)]
 have fin: ∀ (name event:Bool) (least most blocks:Int),(1≤a.Kind∧a.Kind≤7)→(name=true↔(a.Kind=1∨a.Kind=3∨a.Kind=4∨a.Kind=5))→(event=true↔(a.Kind=2∨a.Kind=3))→
  ((least≤(a.X.length:Int)∧(a.X.length:Int)≤most)↔(a.X.length≤1∧((a.Kind=1∨a.Kind=4∨a.Kind=6)→a.X.length=1)∧((a.Kind=5∨a.Kind=7)→a.X.length=0)))→(0<blocks↔(a.Kind=6∨a.Kind=7))→(1<blocks↔a.Kind=6)→
  gf (k+3) a.Kind a.Name a.Event a.X a.N a.aK a.aD a.At least most name event blocks=some (fZ a):=fun name event least most blocks h1 h2 h3 h4 h5 h6=>by
  rw [c0]
  unfold fZ
  congr 1
  rw [decide_eq_decide,h2,h3,h5,h6]
  constructor
  · rintro ⟨q1,q2,q3,q4,q5,q6,q7,q8,q9⟩
    have :=h4.1 ⟨q5,q6⟩
    exact ⟨h1,q1,q2,q3,q4,this.1,this.2.1,this.2.2,q7,by omega,q9⟩
  · rintro ⟨_,q1,q2,q3,q4,q5,q6,e_,q7,q8,q9⟩
    have :=h4.2 ⟨q5,q6,e_⟩
    exact ⟨q1,q2,q3,q4,this.1,this.2,q7,by omega,q9⟩
 unfold sI
 by_cases k1:a.Kind=1
 · rw [if_pos k1,if_pos k1]; exact fin _ _ _ _ _ (by omega) (by simp [k1]) (by simp [k1]) (by omega) (by omega) (by omega)
 rw [if_neg k1]
 by_cases k4:a.Kind=4
 · rw [if_pos k4]; exact fin _ _ _ _ _ (by omega) (by simp [k4]) (by simp [k4]) (by omega) (by omega) (by omega)
 rw [if_neg k4]
 by_cases k2:a.Kind=2
 · rw [if_pos k2]; exact fin _ _ _ _ _ (by omega) (by simp [k2]) (by simp [k2]) (by omega) (by omega) (by omega)
 rw [if_neg k2]
 by_cases k3:a.Kind=3
 · rw [if_pos k3]; exact fin _ _ _ _ _ (by omega) (by simp [k3]) (by simp [k3]) (by omega) (by omega) (by omega)
 rw [if_neg k3]
 by_cases k5:a.Kind=5
 · rw [if_pos k5]; exact fin _ _ _ _ _ (by omega) (by simp [k5]) (by simp [k5]) (by omega) (by omega) (by omega)
 rw [if_neg k5]
 by_cases k6:a.Kind=6
 · rw [if_pos k6]; exact fin _ _ _ _ _ (by omega) (by simp [k6]) (by simp [k6]) (by omega) (by omega) (by omega)
 rw [if_neg k6]
 by_cases k7:a.Kind=7
 · rw [if_pos k7]; exact fin _ _ _ _ _ (by omega) (by simp [k7]) (by simp [k7]) (by omega) (by omega) (by omega)
 rw [if_neg k7]
 unfold fZ
 rw [decide_eq_false (fun q=>by omega)]
noncomputable def rP:Nat→Nat→List ah→Bool
 | 0,_,_=>false
 | n+1,o,l=>decide (o≤4)&&l.all fun a=>(fZ a&&a.X.all xR)&&((!decide (a.Kind=6∨a.Kind=7)||rP n (o+1) a.aK)&&(decide (a.aD.length=0)||rP n (o+1) a.aD))
theorem Ns {X:List af} (hX: ∀ e ∈ X,Fx e) (hl:X.length≤3):rX X (fun y=>jF y)=some (!X.all xR):=by
 have loop: ∀ m i,i+m=X.length→ ∃ r:Int,(∀ k,m+1≤k→mu k X (fun y=>jF y) (X.length:Int) ((i:Nat):Int)=some r)∧(decide (0≤r))= !(X.drop i).all xR:=by
  intro m
  induction m with
  | zero=>
   intro i h
   refine ⟨-1,fun k hk=> ?_,by rw [List.drop_eq_nil_of_le (by omega)]; rfl⟩
   obtain ⟨k,rfl⟩: ∃ j,k=j+1:=⟨k - 1,by omega⟩
   rw [mu.eq_2,if_neg (by omega)]
  | succ m ih=>
   intro i h
   have hi:i<X.length:=by omega
   have hr:jF X[i]=some (!xR X[i]):=by
    unfold jF
    rw [eta,(K3 (hX _ (List.getElem_mem hi))).1,aa]
   have hd:(X.drop i).all xR=(xR X[i]&&(X.drop (i+1)).all xR):=by rw [List.drop_eq_getElem_cons hi,List.all_cons]
   cases hx:xR X[i] with
   | false=>
    refine ⟨(i:Int),fun k hk=> ?_,by rw [hd,hx]; simp⟩
    obtain ⟨k,rfl⟩: ∃ j,k=j+1:=⟨k - 1,by omega⟩
    rw [mu.eq_2,if_pos (by omega),if_pos (by omega),if_pos (by omega),Int.toNat_natCast,cO _ hi,hr,hx,aa,Bool.not_false,cond_true]
   | true=>
    obtain ⟨r,h1,h2⟩:=ih (i+1) (by omega)
    refine ⟨r,fun k hk=> ?_,by rw [hd,hx,Bool.true_and,h2]⟩
    obtain ⟨k,rfl⟩: ∃ j,k=j+1:=⟨k - 1,by omega⟩
    rw [mu.eq_2,if_pos (by omega),if_pos (by omega),if_pos (by omega),Int.toNat_natCast,cO _ hi,hr,hx,aa,Bool.not_true,cond_false,nx (by omega)]
    exact h1 k (by omega)
 obtain ⟨r,h1,h2⟩:=loop X.length 0 (by omega)
 unfold rX
 rw [show xl X (fun y=>jF y)=some r from cu (X.length+1) fun k hk=>h1 k hk,aa,h2,List.drop_zero]
theorem Bl: ∀ (n:Nat) (l:List ah) (o:Nat),Fa n l→1≤o→o≤5→ ∀ k,n+20≤k→fV k l (o:Int)=some (rP n o l)
 | 0,_,_,h,_,_,_,_=>h.elim
 | n+1,l,o,⟨h12,hl⟩,h1,h5,k,hk=>by
  obtain ⟨k,rfl⟩: ∃ j,k=j+1:=⟨k - 1,by omega⟩
  show oD (fV k) k l (o:Int)=_
  unfold oD rP
  by_cases ho:4<o
  · rw [if_pos (by omega),decide_eq_false (by omega),Bool.false_and]
  rw [if_neg (by omega),decide_eq_true (by omega),Bool.true_and]
  generalize hQ:(fun a:ah=>(fZ a&&a.X.all xR)&&((!decide (a.Kind=6∨a.Kind=7)||rP n (o+1) a.aK)&&(decide (a.aD.length=0)||rP n (o+1) a.aD)))=Q
  have loop: ∀ m i,i+m=l.length→ ∀ k',m+1≤k'→fy (fV k) k' (o:Int) l (l.length:Int) ((i:Nat):Int)=some ((l.drop i).all Q):=by
   intro m
   induction m with
   | zero=>
    intro i h k' hk'
    obtain ⟨k',rfl⟩: ∃ j,k'=j+1:=⟨k' - 1,by omega⟩
    rw [fy.eq_2,if_neg (by omega),List.drop_eq_nil_of_le (by omega)]; rfl
   | succ m ih=>
    intro i h k' hk'
    obtain ⟨k',rfl⟩: ∃ j,k'=j+1:=⟨k' - 1,by omega⟩
    have hi:i<l.length:=by omega
    obtain ⟨g1,g2,g3,g4,g5,g6⟩:=hl _ (List.getElem_mem hi)
    have Qf:ag ((i:Int)+1)=((i+1:Nat):Int):=nx (by omega)
    have hw:ag ((o:Int)+1)=((o+1:Nat):Int):=nx (by omega)
    rw [List.drop_eq_getElem_cons hi,List.all_cons,fy.eq_2,if_pos (by omega),if_pos (by omega),if_pos (by omega),Int.toNat_natCast,cO _ hi,u0,MJ g2 g3,aa,Ns g4 g1,Qf,hw,ih (i+1) (by omega) k' (by omega)]
    rw [Bl n _ (o+1) g5 (by omega) (by omega) k (by omega),Bl n _ (o+1) g6 (by omega) (by omega) k (by omega)]
    have hq:Q l[i]=((fZ l[i]&&l[i].X.all xR)&&((!decide (l[i].Kind=6∨l[i].Kind=7)||rP n (o+1) l[i].aK)&&(decide (l[i].aD.length=0)||rP n (o+1) l[i].aD))):=by rw [← hQ]
    rw [hq]
    generalize (l.drop (i+1)).all Q=R
    generalize rP n (o+1) l[i].aK=bt
    generalize rP n (o+1) l[i].aD=be
    cases fZ l[i] with
    | false=>simp
    | true=>
     cases l[i].X.all xR with
     | false=>simp
     | true=>
      simp only [Bool.not_true,cond_false,aa]
      by_cases e0:l[i].aD.length=0
      · have e1: ¬ (0:Int)<(l[i].aD.length:Int):=by omega
        simp only [if_neg e1,decide_eq_true e0]
        by_cases k6:l[i].Kind=6
        · rw [if_pos k6,decide_eq_true (Or.inl k6)]; cases bt <;> simp
        · rw [if_neg k6]
          by_cases k7:l[i].Kind=7
          · rw [if_pos k7,decide_eq_true (Or.inr k7)]; cases bt <;> simp
          · rw [if_neg k7,decide_eq_false (by simp [k6,k7])]; simp
      · have e1:(0:Int)<(l[i].aD.length:Int):=by omega
        simp only [if_pos e1,decide_eq_false e0]
        by_cases k6:l[i].Kind=6
        · rw [if_pos k6,decide_eq_true (Or.inl k6)]; cases bt <;> cases be <;> simp
        · rw [if_neg k6]
          by_cases k7:l[i].Kind=7
          · rw [if_pos k7,decide_eq_true (Or.inr k7)]; cases bt <;> cases be <;> simp
          · rw [if_neg k7,decide_eq_false (by simp [k6,k7])]; cases be <;> simp
  exact loop l.length 0 (by omega) k (by omega)
end Go.Sy.Ex
namespace Go.Sy.Ex
open Go.Sy
theorem SU {a:ah} (hn:a.Name.length≤40) (he:a.Event.length≤40) (hX: ∀ e ∈ a.X,Fx e) (self:jW) (d:Int) (bt be:Bool) (ht:self a.aK d=some bt) (hel:self a.aD d=some be):
 zZ self a d=some (fZ a&&a.X.all xR&&(!decide (a.Kind=6∨a.Kind=7)||(bt&&be))):=cu 5 fun k hk=>by
 obtain ⟨k,rfl⟩: ∃ j,k=j+5:=⟨k - 5,by omega⟩
 show z6 self (k+5) a d=_
 have c4: ∀ blocks:Bool,a.X.length≤1→iU self (k+1) d a.Kind a.Name a.Event a.X a.N a.aK a.aD a.At blocks=some (a.X.all xR&&(!blocks||(bt&&be))):=fun blocks h1=>by
  have fin:(bif !blocks then
   some true else
   (self a.aK d).bind fun r5=>
   bif r5 then
   (self a.aD d).bind fun r6=>
   some r6 else
   some false)=some (!blocks||(bt&&be)):=by
   rw [ht,hel]
   cases blocks <;> cases bt <;> rfl
  rw [iU.eq_2,fin]
  match hx:a.X,h1 with
  | [],_=>rw [if_neg (by simp)]; rfl
  | [e],_=>
   rw [if_pos (by simp),if_pos (by decide),if_pos (by simp),show [e].getD (0:Int).toNat af.z=e from rfl,(K3 (hX e (by rw [hx]; simp))).2,aa,List.all_cons,List.all_nil,Bool.and_true]
   cases xR e <;> simp
 have c3: ∀ blocks:Bool,a.X.length≤1→rN self (k+2) d a.Kind a.Name a.Event a.X a.N a.aK a.aD a.At blocks=some (decide ((a.N=0∨(a.Kind=7∧0<a.N))∧(blocks=true∨a.aK.length=0)∧(a.Kind=6∨a.aD.length=0))&&(a.X.all xR&&(!blocks||(bt&&be)))):=fun blocks h1=>by
  have tail:(bif !blocks then
   if 0<(a.aK.length:Int) then
   some false else
   if a.Kind≠6 then
   if 0<(a.aD.length:Int) then
   some false else
   iU self (k+1) d a.Kind a.Name a.Event a.X a.N a.aK a.aD a.At blocks else
   iU self (k+1) d a.Kind a.Name a.Event a.X a.N a.aK a.aD a.At blocks else
   if a.Kind≠6 then
   if 0<(a.aD.length:Int) then
   some false else
   iU self (k+1) d a.Kind a.Name a.Event a.X a.N a.aK a.aD a.At blocks else
   iU self (k+1) d a.Kind a.Name a.Event a.X a.N a.aK a.aD a.At blocks)=some (decide ((blocks=true∨a.aK.length=0)∧(a.Kind=6∨a.aD.length=0))&&(a.X.all xR&&(!blocks||(bt&&be)))):=by
   rw [c4 blocks h1]
   cases blocks with
   | false=>
    rw [Bool.not_false,cond_true]
    by_cases t0:0<(a.aK.length:Int)
    · rw [if_pos t0,decide_eq_false (fun q=>by rcases q.1 with q | q; cases q; omega)]; rfl
    · rw [if_neg t0]
      by_cases k6:a.Kind=6
      · rw [if_neg (by omega),decide_eq_true ⟨.inr (by omega), .inl k6⟩]; rfl
      · rw [if_pos k6]
        by_cases e0:0<(a.aD.length:Int)
        · rw [if_pos e0,decide_eq_false (by omega)]; rfl
        · rw [if_neg e0,decide_eq_true ⟨.inr (by omega), .inr (by omega)⟩]; rfl
   | true=>
    rw [Bool.not_true,cond_false]
    by_cases k6:a.Kind=6
    · rw [if_neg (by omega),decide_eq_true ⟨.inl rfl, .inl k6⟩]; rfl
    · rw [if_pos k6]
      by_cases e0:0<(a.aD.length:Int)
      · rw [if_pos e0,decide_eq_false (by omega)]; rfl
      · rw [if_neg e0,decide_eq_true ⟨.inl rfl, .inr (by omega)⟩]; rfl
  rw [rN.eq_2,tail]
  by_cases n0:a.N<0
  · rw [if_pos n0,decide_eq_false (by omega)]; rfl
  rw [if_neg n0]
  by_cases n1:a.N=0
  · rw [if_neg (by omega)]; congr 2; rw [decide_eq_decide]; exact ⟨fun q=>⟨.inl n1,q⟩,fun q=>q.2⟩
  rw [if_pos n1]
  by_cases k7:a.Kind=7
  · rw [if_neg (by omega)]; congr 2; rw [decide_eq_decide]; exact ⟨fun q=>⟨.inr ⟨k7,by omega⟩,q⟩,fun q=>q.2⟩
  · rw [if_pos k7,decide_eq_false (by omega)]; rfl
 have c2: ∀ event named blocks:Bool,a.X.length≤1→fH self (k+3) d a.Kind a.Name a.Event a.X a.N a.aK a.aD a.At event named blocks=some (decide (((named=true↔a.Name≠ [])∧(named=true→bT a.Name=true))∧((event=true↔a.Event≠ [])∧(event=true→bT a.Event=true)))&&(decide ((a.N=0∨(a.Kind=7∧0<a.N))∧(blocks=true∨a.aK.length=0)∧(a.Kind=6∨a.aD.length=0))&&(a.X.all xR&&(!blocks||(bt&&be))))):=fun event named blocks h1=>by
  rw [fH.eq_2,c3 blocks h1]
  generalize (decide ((a.N=0∨(a.Kind=7∧0<a.N))∧(blocks=true∨a.aK.length=0)∧(a.Kind=6∨a.aD.length=0))&&(a.X.all xR&&(!blocks||(bt&&be))))=R
  have ev:(if event≠(decide (a.Event≠ [])) then
   some false else
   bif event then
   (n5 a.Event).bind fun r2=>
   bif !r2 then
   some false else
   some R else
   some R)=some (decide ((event=true↔a.Event≠ [])∧(event=true→bT a.Event=true))&&R):=by
   by_cases e0:a.Event= []
   · cases event with
     | true=>rw [if_pos (by simp [e0]),decide_eq_false (by simp [e0])]; rfl
     | false=>rw [if_neg (by simp [e0]),cond_false,decide_eq_true (by simp [e0])]; rfl
   · cases event with
     | false=>rw [if_pos (by simp [e0]),decide_eq_false (by simp [e0])]; rfl
     | true=>
      rw [if_neg (by simp [e0]),cond_true,D9 _ (by omega),aa]
      cases hp:bT a.Event with
      | true=>rw [Bool.not_true,cond_false,decide_eq_true (by simp [e0])]; rfl
      | false=>rw [Bool.not_false,cond_true,decide_eq_false (by simp)]; rfl
  rw [ev]
  by_cases e0:a.Name= []
  · cases named with
    | true=>rw [if_pos (by simp [e0]),decide_eq_false (by simp [e0])]; rfl
    | false=>rw [if_neg (by simp [e0]),cond_false]; congr 2; rw [decide_eq_decide]; simp [e0]
  · cases named with
    | false=>rw [if_pos (by simp [e0]),decide_eq_false (by simp [e0])]; rfl
    | true=>
     rw [if_neg (by simp [e0]),cond_true,D9 _ (by omega),aa]
     cases hp:bT a.Name with
     | true=>rw [Bool.not_true,cond_false]; congr 2; rw [decide_eq_decide]; simp [e0]
     | false=>rw [Bool.not_false,cond_true,decide_eq_false (by simp)]; rfl
 generalize hR:(a.X.all xR&&(!decide (a.Kind=6∨a.Kind=7)||(bt&&be)))=R
 have c1: ∀ x may event named:Bool,kK self (k+4) d a.Kind a.Name a.Event a.X a.N a.aK a.aD a.At x may event named=some (decide (((1≤a.Kind∧a.Kind≤7)∧a.X.length≤1∧(x=true→a.X.length≠0)∧(x=false→may=false→a.X.length=0))∧((named=true↔a.Name≠ [])∧(named=true→bT a.Name=true))∧((event=true↔a.Event≠ [])∧(event=true→bT a.Event=true))∧((a.N=0∨(a.Kind=7∧0<a.N))∧((a.Kind=6∨a.Kind=7)∨a.aK.length=0)∧(a.Kind=6∨a.aD.length=0)))&&R):=fun x may event named=>by
  have body: ∀ blocks:Bool,blocks=decide (a.Kind=6∨a.Kind=7)→(if a.Kind<1 then
   some false else
   if 7<a.Kind then
   some false else
   if 1<(a.X.length:Int) then
   some false else
   bif x then
   if (a.X.length:Int)=0 then
   some false else
   bif !x then
   bif !may then
   if 0<(a.X.length:Int) then
   some false else
   fH self (k+3) d a.Kind a.Name a.Event a.X a.N a.aK a.aD a.At event named blocks else
   fH self (k+3) d a.Kind a.Name a.Event a.X a.N a.aK a.aD a.At event named blocks else
   fH self (k+3) d a.Kind a.Name a.Event a.X a.N a.aK a.aD a.At event named blocks else
   bif !x then
   bif !may then
   if 0<(a.X.length:Int) then
   some false else
   fH self (k+3) d a.Kind a.Name a.Event a.X a.N a.aK a.aD a.At event named blocks else
   fH self (k+3) d a.Kind a.Name a.Event a.X a.N a.aK a.aD a.At event named blocks else
   fH self (k+3) d a.Kind a.Name a.Event a.X a.N a.aK a.aD a.At event named blocks)=some (decide (((1≤a.Kind∧a.Kind≤7)∧a.X.length≤1∧(x=true→a.X.length≠0)∧(x=false→may=false→a.X.length=0))∧((named=true↔a.Name≠ [])∧(named=true→bT a.Name=true))∧((event=true↔a.Event≠ [])∧(event=true→bT a.Event=true))∧((a.N=0∨(a.Kind=7∧0<a.N))∧((a.Kind=6∨a.Kind=7)∨a.aK.length=0)∧(a.Kind=6∨a.aD.length=0)))&&R):=fun blocks hb=>by
   by_cases k1:a.Kind<1
   · rw [if_pos k1,decide_eq_false (fun q=>by omega)]; rfl
   rw [if_neg k1]
   by_cases k7:7<a.Kind
   · rw [if_pos k7,decide_eq_false (fun q=>by omega)]; rfl
   rw [if_neg k7]
   by_cases x1:1<(a.X.length:Int)
   · rw [if_pos x1,decide_eq_false (fun q=>by omega)]; rfl
   rw [if_neg x1,c2 event named blocks (by omega)]
   have s8:(blocks=true∨a.aK.length=0)↔((a.Kind=6∨a.Kind=7)∨a.aK.length=0):=by rw [hb,decide_eq_true_iff]
   have join: ∀ p:Prop,p→ ∀ [Decidable p],(decide (((named=true↔a.Name≠ [])∧(named=true→bT a.Name=true))∧((event=true↔a.Event≠ [])∧(event=true→bT a.Event=true)))&&(decide ((a.N=0∨(a.Kind=7∧0<a.N))∧(blocks=true∨a.aK.length=0)∧(a.Kind=6∨a.aD.length=0))&&(a.X.all xR&&(!blocks||(bt&&be)))))=(decide (p∧((named=true↔a.Name≠ [])∧(named=true→bT a.Name=true))∧((event=true↔a.Event≠ [])∧(event=true→bT a.Event=true))∧((a.N=0∨(a.Kind=7∧0<a.N))∧((a.Kind=6∨a.Kind=7)∨a.aK.length=0)∧(a.Kind=6∨a.aD.length=0)))&&R):=fun p hp _=>by
    rw [hb,hR, ← Bool.and_assoc, ← Bool.decide_and]
    congr 1
    rw [decide_eq_decide, ← hb,s8]
    exact ⟨fun q=>⟨hp,q.1.1,q.1.2,q.2⟩,fun q=>⟨⟨q.2.1,q.2.2.1⟩,q.2.2.2⟩⟩
   cases x with
   | true=>
    rw [cond_true]
    by_cases x0:(a.X.length:Int)=0
    · rw [if_pos x0,decide_eq_false (fun q=>q.1.2.2.1 rfl (by omega))]; rfl
    · rw [if_neg x0,Bool.not_true,cond_false,join ((1≤a.Kind∧a.Kind≤7)∧a.X.length≤1∧(true=true→a.X.length≠0)∧(true=false→may=false→a.X.length=0)) ⟨⟨by omega,by omega⟩,by omega,fun _=>by omega,fun q=>by cases q⟩]
   | false=>
    rw [cond_false,Bool.not_false,cond_true]
    cases may with
    | true=>rw [Bool.not_true,cond_false,join ((1≤a.Kind∧a.Kind≤7)∧a.X.length≤1∧(false=true→a.X.length≠0)∧(false=false→true=false→a.X.length=0)) ⟨⟨by omega,by omega⟩,by omega,fun q=>(by cases q),fun _ q=>(by cases q)⟩]
    | false=>
     rw [Bool.not_false,cond_true]
     by_cases x0:0<(a.X.length:Int)
     · rw [if_pos x0,decide_eq_false (fun q=>by have :=q.1.2.2.2 rfl rfl; omega)]; rfl
     · rw [if_neg x0,join ((1≤a.Kind∧a.Kind≤7)∧a.X.length≤1∧(false=true→a.X.length≠0)∧(false=false→false=false→a.X.length=0)) ⟨⟨by omega,by omega⟩,by omega,fun q=>(by cases q),fun _ _=>by omega⟩]
  rw [kK.eq_2]
  by_cases k6:a.Kind=6
  · rw [if_pos k6]; exact body true (by rw [decide_eq_true (.inl k6)])
  · rw [if_neg k6]; exact body (decide (a.Kind=7)) (by rw [decide_eq_decide]; simp [k6])
 have fin: ∀ x may event named:Bool,(x=decide (a.Kind=1∨a.Kind=4∨a.Kind=6))→(may=decide (a.Kind=2∨a.Kind=3))→(event=decide (a.Kind=2∨a.Kind=3))→(named=decide (a.Kind=1∨a.Kind=3∨a.Kind=4∨a.Kind=5))→
  kK self (k+4) d a.Kind a.Name a.Event a.X a.N a.aK a.aD a.At x may event named=some (fZ a&&R):=fun x may event named h1 h2 h3 h4=>by
  rw [c1]
  unfold fZ
  congr 2
  rw [decide_eq_decide,h1,h2,h3,h4]
  simp only [decide_eq_true_iff,decide_eq_false_iff_not]
  constructor
  · rintro ⟨⟨q1,q2,q3,q4⟩,⟨q5,q6⟩,⟨q7,q8⟩,q9,e_,rA⟩
    exact ⟨q1,q5,q6,q7,q8,q2,fun q=>by have :=q3 q; omega,fun q=>q4 (by omega) (by omega),q9,by omega,rA⟩
  · rintro ⟨q1,q5,q6,q7,q8,q2,q3,q4,q9,e_,rA⟩
    exact ⟨⟨q1,q2,fun q=>by have :=q3 q; omega,fun q r=>q4 (by omega)⟩,⟨q5,q6⟩,⟨q7,q8⟩,q9,by omega,rA⟩
 have c0: ∀ x:Bool,(x=decide (a.Kind=1∨a.Kind=4∨a.Kind=6))→uo self (k+5) d a.Kind a.Name a.Event a.X a.N a.aK a.aD a.At x=some (fZ a&&R):=fun x hx=>by
  rw [uo.eq_2]
  have dd: ∀ {p q:Prop} [Decidable p] [Decidable q],(p↔q)→decide p=decide q:=fun h=>decide_eq_decide.2 h
  by_cases k2:a.Kind=2
  · rw [if_pos k2,if_neg (by omega),if_neg (by omega),if_neg (by omega)]
    exact fin x true true _ hx (by rw [decide_eq_true (.inl k2)]) (by rw [decide_eq_true (.inl k2)]) (dd (by omega))
  rw [if_neg k2]
  by_cases k1:a.Kind=1
  · rw [if_pos k1]; exact fin x _ _ true hx (dd (by omega)) (dd (by omega)) (by rw [decide_eq_true (by omega)])
  rw [if_neg k1]
  by_cases k3:a.Kind=3
  · rw [if_pos k3]; exact fin x _ _ true hx (dd (by omega)) (dd (by omega)) (by rw [decide_eq_true (by omega)])
  rw [if_neg k3]
  by_cases k4:a.Kind=4
  · rw [if_pos k4]; exact fin x _ _ true hx (dd (by omega)) (dd (by omega)) (by rw [decide_eq_true (by omega)])
  rw [if_neg k4]
  exact fin x _ _ _ hx (dd (by omega)) (dd (by omega)) (dd (by omega))
 rw [Bool.and_assoc,hR]
 unfold z6
 by_cases k1:a.Kind=1
 · rw [if_pos k1]; exact c0 true (by rw [decide_eq_true (.inl k1)])
 rw [if_neg k1]
 by_cases k4:a.Kind=4
 · rw [if_pos k4]; exact c0 true (by rw [decide_eq_true (.inr (.inl k4))])
 rw [if_neg k4]
 exact c0 _ (decide_eq_decide.2 (by omega))
end Go.Sy.Ex
namespace Go.Sy.Ex
open Go.Sy
theorem DO: ∀ (n:Nat) (l:List ah) (o:Nat),Fa n l→1≤o→o≤5→ ∀ k,n+20≤k→pL k l ((o - 1:Nat):Int)=some (rP n o l)
 | 0,_,_,h,_,_,_,_=>h.elim
 | n+1,l,o,⟨h12,hl⟩,h1,h5,k,hk=>by
  obtain ⟨k,rfl⟩: ∃ j,k=j+1:=⟨k - 1,by omega⟩
  show zY (pL k) k l ((o - 1:Nat):Int)=_
  unfold zY rP
  by_cases ho:o=5
  · rw [if_pos (by omega),decide_eq_false (by omega),Bool.false_and]
  rw [if_neg (by omega),decide_eq_true (by omega),Bool.true_and]
  generalize hQ:(fun a:ah=>(fZ a&&a.X.all xR)&&((!decide (a.Kind=6∨a.Kind=7)||rP n (o+1) a.aK)&&(decide (a.aD.length=0)||rP n (o+1) a.aD)))=Q
  have loop: ∀ m i,i+m=l.length→ ∀ k',m+1≤k'→um (pL k) k' l ((o - 1:Nat):Int) ((i:Nat):Int)=some ((l.drop i).all Q):=by
   intro m
   induction m with
   | zero=>
    intro i h k' hk'
    obtain ⟨k',rfl⟩: ∃ j,k'=j+1:=⟨k' - 1,by omega⟩
    rw [um.eq_2,if_neg (by omega),List.drop_eq_nil_of_le (by omega)]; rfl
   | succ m ih=>
    intro i h k' hk'
    obtain ⟨k',rfl⟩: ∃ j,k'=j+1:=⟨k' - 1,by omega⟩
    have hi:i<l.length:=by omega
    obtain ⟨g1,g2,g3,g4,g5,g6⟩:=hl _ (List.getElem_mem hi)
    have hw:ag (((o - 1:Nat):Int)+1)=((o+1 - 1:Nat):Int):=by rw [nx (by omega)]; omega
    have ht:=DO n _ (o+1) g5 (by omega) (by omega) k (by omega)
    have hel:=DO n _ (o+1) g6 (by omega) (by omega) k (by omega)
    rw [List.drop_eq_getElem_cons hi,List.all_cons,um.eq_2,if_pos (by omega),if_pos (by omega),if_pos (by omega),Int.toNat_natCast,cO _ hi,hw,SU g2 g3 g4 (pL k) _ _ _ ht hel,aa,nx (by omega),ih (i+1) (by omega) k' (by omega)]
    have hq:Q l[i]=((fZ l[i]&&l[i].X.all xR)&&((!decide (l[i].Kind=6∨l[i].Kind=7)||rP n (o+1) l[i].aK)&&(decide (l[i].aD.length=0)||rP n (o+1) l[i].aD))):=by rw [← hQ]
    rw [hq]
    have hn:rP n (o+1) l[i].aK=true→l[i].aD.length=0→rP n (o+1) l[i].aD=true:=fun q e=>by
     rw [List.eq_nil_of_length_eq_zero e]
     cases n with
     | zero=>cases q
     | succ n=>
      unfold rP at q ⊢
      rw [Bool.and_eq_true] at q
      rw [q.1]; rfl
    have hs:fZ l[i]=true→ ¬ (l[i].Kind=6∨l[i].Kind=7)→l[i].aD.length=0:=fun q e=>by
     unfold fZ at q
     rw [decide_eq_true_eq] at q
     obtain ⟨_,_,_,_,_,_,_,_,_,_,z⟩:=q
     omega
    generalize (l.drop (i+1)).all Q=R
    generalize rP n (o+1) l[i].aK=bt at hn
    generalize rP n (o+1) l[i].aD=be at hn
    cases hsh:fZ l[i] with
    | false=>simp
    | true=>
     cases l[i].X.all xR with
     | false=>simp
     | true=>
      by_cases rm:l[i].Kind=6∨l[i].Kind=7
      · rw [decide_eq_true rm]
        by_cases e0:l[i].aD.length=0
        · rw [decide_eq_true e0]
          cases bt with
          | false=>simp
          | true=>rw [hn rfl e0]; simp
        · rw [decide_eq_false e0]; cases bt <;> cases be <;> simp
      · rw [decide_eq_false rm,decide_eq_true (hs hsh rm)]; simp
  exact loop l.length 0 (by omega) k (by omega)
theorem Uf {l:List ah} (h:Fa 8 l):j6 l=some (rP 8 1 l)∧w9 l=some (rP 8 1 l):=by
 constructor
 · unfold j6
   rw [show sG l 1=some (rP 8 1 l) from cu 28 fun k hk=>Bl 8 l 1 h (by decide) (by decide) k hk,aa]
 · unfold w9
   rw [show zX l 0=some (rP 8 1 l) from cu 28 fun k hk=>DO 8 l 1 h (by decide) (by decide) k hk,aa]
def nc:Nat→Nat
 | 0=>1
 | n+1=>12*(2*nc n+1)+1
theorem Ki: ∀ n,1≤nc n
 | 0=>Nat.le_refl _
 | n+1=>by unfold nc; omega
theorem EC: ∀ (n:Nat) (l:List ah) (o:Nat),Fa n l→Wa n l→o≤4→rP n o l=true→ ∃ b,dZ b l∧b.ok∧o+b.dp≤5∧b.sz≤nc (5 - o)∧b.small
 | 0,_,_,h,_,_,_=>h.elim
 | n+1,l,o,⟨h12,hl⟩,⟨_,Qw⟩,ho,hr=>by
  unfold rP at hr
  rw [Bool.and_eq_true] at hr
  have hr:=hr.2
  have key: ∀ (m:Nat) (l:List ah),l.length≤m→(∀ a ∈ l,a.X.length≤3∧a.Name.length≤40∧a.Event.length≤40∧(∀ e ∈ a.X,Fx e)∧Fa n a.aK∧Fa n a.aD)→(∀ a ∈ l,(-9223372036854775808≤a.N∧a.N≤9223372036854775807)∧(∀ e ∈ a.X, ∃ m,Fw m e)∧Wa n a.aK∧Wa n a.aD)→
   (l.all fun a=>(fZ a&&a.X.all xR)&&((!decide (a.Kind=6∨a.Kind=7)||rP n (o+1) a.aK)&&(decide (a.aD.length=0)||rP n (o+1) a.aD)))=true→
   ∃ b,dZ b l∧b.ok∧o+b.dp≤5∧b.sz≤m*(2*nc (4 - o)+1)+1∧b.small:=by
   intro m
   induction m with
   | zero=>
    intro l hm _ _ _
    rw [List.eq_nil_of_length_eq_zero (by omega:l.length=0)]
    exact ⟨.nil,rfl,trivial,by simp only [B.dp]; omega,by simp only [B.sz]; omega,trivial⟩
   | succ m ih=>
    intro l hm h1 h2 h3
    match l,hm,h1,h2,h3 with
    | [],_,_,_,_=>exact ⟨.nil,rfl,trivial,by simp only [B.dp]; omega,by simp only [B.sz]; omega,trivial⟩
    | a::l,hm,h1,h2,h3=>
     rw [List.all_cons,Bool.and_eq_true] at h3
     obtain ⟨h3,h4⟩:=h3
     obtain ⟨rest,r1,r2,r3,r4,r5⟩:=ih l (by simp at hm; omega) (fun x hx=>h1 x (List.mem_cons_of_mem _ hx)) (fun x hx=>h2 x (List.mem_cons_of_mem _ hx)) h4
     simp only [Bool.and_eq_true,Bool.or_eq_true,Bool.not_eq_true',decide_eq_true_eq,decide_eq_false_iff_not] at h3
     obtain ⟨⟨hs,hx⟩,ht,he⟩:=h3
     obtain ⟨f1,f2,f3,f4,f5,f6⟩:=h1 a List.mem_cons_self
     obtain ⟨w1,w2,w3,w4⟩:=h2 a List.mem_cons_self
     unfold fZ at hs
     rw [decide_eq_true_eq] at hs
     obtain ⟨⟨k1,k7⟩,n1,n2,e1,e2,x1,x2,x3,N1,T1,E1⟩:=hs
     have hX: ∃ x,ox x a.X∧sn x∧(x=none↔a.X.length=0)∧(gK x).length≤3000:=by
      match hq:a.X,x1 with
      | [],_=>exact ⟨none,rfl,trivial,by simp,Nat.zero_le _⟩
      | [e],_=>
       rw [hq] at hx
       simp only [List.all_cons,List.all_nil,Bool.and_true] at hx
       unfold xR at hx
       obtain ⟨t,t1,t2,t3⟩:=(@decide_eq_true_iff _ (Classical.propDecidable _)).1 hx
       refine ⟨some t,⟨e,rfl,t1⟩,⟨t2,t3⟩,by simp, ?_⟩
       obtain ⟨z,nN,y6⟩:=f4 e (by rw [hq]; simp)
       have :=t1.ez nN
       have :=zA t 1 t2
       show (pr t 1).length≤3000
       omega
     obtain ⟨x,X1,X2,X3,X4⟩:=hX
     have cl: ∃ th,dZ th a.aK∧th.ok∧th.sz≤nc (4 - o)∧th.small∧(a.Kind=6∨a.Kind=7→o+1+th.dp≤5)∧(¬ (a.Kind=6∨a.Kind=7)→th= .nil):=by
      by_cases rm:a.Kind=6∨a.Kind=7
      · have ht':rP n (o+1) a.aK=true:=ht.resolve_left (fun q=>q rm)
        have ho':o+1≤4:=by
         cases n with
         | zero=>cases ht'
         | succ n=>unfold rP at ht'; rw [Bool.and_eq_true,decide_eq_true_eq] at ht'; exact ht'.1
        obtain ⟨th,g1,g2,g3,g4,g5⟩:=EC n a.aK (o+1) f5 w3 ho' ht'
        exact ⟨th,g1,g2,by rw [show 5 - (o+1)=4 - o from by omega] at g4; exact g4,g5,fun _=>g3,fun q=>absurd rm q⟩
      · exact ⟨.nil,List.eq_nil_of_length_eq_zero (by omega),trivial,Ki _,trivial,fun q=>absurd q rm,fun _=>rfl⟩
     have hel: ∃ el,dZ el a.aD∧el.ok∧el.sz≤nc (4 - o)∧el.small∧(el.isNil=false→o+1+el.dp≤5)∧(a.Kind≠6→el= .nil):=by
      by_cases e0:a.aD.length=0
      · exact ⟨.nil,List.eq_nil_of_length_eq_zero e0,trivial,Ki _,trivial,fun q=>(by cases q),fun _=>rfl⟩
      · have he':rP n (o+1) a.aD=true:=he.resolve_left e0
        have ho':o+1≤4:=by
         cases n with
         | zero=>cases he'
         | succ n=>unfold rP at he'; rw [Bool.and_eq_true,decide_eq_true_eq] at he'; exact he'.1
        obtain ⟨el,g1,g2,g3,g4,g5⟩:=EC n a.aD (o+1) f6 w4 ho' he'
        exact ⟨el,g1,g2,by rw [show 5 - (o+1)=4 - o from by omega] at g4; exact g4,g5,fun _=>g3,fun q=>by omega⟩
     obtain ⟨th,t1,t2,t3,t4,t5,t6⟩:=cl
     obtain ⟨el,l1,l2,l3,l4,l5,l6⟩:=hel
     refine ⟨.cons ⟨a.Kind,a.Name,a.Event,x,a.N⟩ th el rest,⟨a,l,rfl,rfl,rfl,rfl,X1,rfl,t1,l1,r1⟩,⟨⟨X2, ?_⟩,t2,l2,r2⟩, ?_, ?_,⟨X4,t4,l4,r5⟩⟩
     · have nn: ∀ {s:List UInt8}, ¬ s≠ []→s= []:=fun h=>Classical.not_not.1 h
       have hk:a.Kind=1∨a.Kind=2∨a.Kind=3∨a.Kind=4∨a.Kind=5∨a.Kind=6∨a.Kind=7:=by omega
       have hx0:a.X.length=0→x=none:=X3.2
       have hx1:a.X.length=1→x≠none:=fun q r=>by have :=X3.1 r; omega
       have hne: ¬ (a.Kind=2∨a.Kind=3)→a.Event= []:=fun q=>nn fun r=>q (e1.2 r)
       have vO: ¬ (a.Kind=1∨a.Kind=3∨a.Kind=4∨a.Kind=5)→a.Name= []:=fun q=>nn fun r=>q (n1.2 r)
       rcases hk with k | k | k | k | k | k | k
       · exact .inl ⟨k,n2 (by omega),hne (by omega),hx1 (x2 (by omega)),by show a.N=0; omega,t6 (by omega),l6 (by omega)⟩
       · exact .inr (.inl ⟨k,vO (by omega),e2 (by omega),by show a.N=0; omega,t6 (by omega),l6 (by omega)⟩)
       · exact .inr (.inr (.inl ⟨k,n2 (by omega),e2 (by omega),by show a.N=0; omega,t6 (by omega),l6 (by omega)⟩))
       · exact .inr (.inr (.inr (.inl ⟨k,n2 (by omega),hne (by omega),hx1 (x2 (by omega)),by show a.N=0; omega,t6 (by omega),l6 (by omega)⟩)))
       · exact .inr (.inr (.inr (.inr (.inl ⟨k,n2 (by omega),hne (by omega),hx0 (x3 (by omega)),by show a.N=0; omega,t6 (by omega),l6 (by omega)⟩))))
       · exact .inr (.inr (.inr (.inr (.inr (.inl ⟨k,vO (by omega),hne (by omega),hx1 (x2 (by omega)),by show a.N=0; omega⟩)))))
       · exact .inr (.inr (.inr (.inr (.inr (.inr ⟨k,vO (by omega),hne (by omega),hx0 (x3 (by omega)),by show 0≤a.N; omega,by show a.N≤_; omega,l6 (by omega)⟩)))))
     · simp only [B.dp]
       have a1:(if a.Kind=6∨a.Kind=7 then th.dp+1 else 1)≤5 - o:=by
        split
        · rename_i q; have :=t5 q; omega
        · omega
       have a2:(bif el.isNil then 1 else el.dp+1)≤5 - o:=by
        cases hn:el.isNil with
        | true=>rw [cond_true]; omega
        | false=>rw [cond_false]; have :=l5 hn; omega
       omega
     · simp only [B.sz]
       have :(m+1)*(2*nc (4 - o)+1)=m*(2*nc (4 - o)+1)+(2*nc (4 - o)+1):=Nat.succ_mul _ _
       omega
  obtain ⟨b,b1,b2,b3,b4,b5⟩:=key 12 l h12 hl Qw hr
  refine ⟨b,b1,b2,b3, ?_,b5⟩
  rw [show 5 - o=(4 - o)+1 from by omega]
  exact b4
theorem MC {l:List ah} (h:Wa 8 l):zd l=some true:=by
 unfold zd
 obtain ⟨b,hb,hf⟩:=Ov h
 rw [hb,aa]
 cases b with
 | false=>rw [Bool.not_false,cond_true,y_,aa]
 | true=>
  have hf:=hf rfl
  obtain ⟨q1,q2⟩:=Uf hf
  rw [Bool.not_true,cond_false,q1,aa,q2,aa,if_neg (fun q=>q rfl)]
  cases hr:rP 8 1 l with
  | false=>rw [Bool.not_false,cond_true,y_,aa]
  | true=>
   rw [Bool.not_true,cond_false]
   obtain ⟨t,t1,t2,t3,t4,t5⟩:=EC 8 l 1 hf h (by decide) hr
   have hz:t.sz≤600000:=Nat.le_trans t4 (by decide)
   have hl0:=Sz (d:=0) t2 t5 (by omega) hz
   rw [Fo t1 t2 0 (by omega) hl0 0 (by rfl),aa,Um t1 t2 0 (by omega) hl0 0 (by rfl),aa,if_neg (fun q=>q rfl)]
   by_cases hbig:16384<((cJ t 0).length:Int)
   · rw [if_pos hbig,if_pos hbig,y_,aa]
   rw [if_neg hbig]
   obtain ⟨cs,hcs,hrd⟩:=H_ t2 (by omega) (SB t 0 t2) (by omega)
   rw [hrd,aa,cond_true,LL hcs t1 t2 (by omega),aa,cond_true,y_,aa]
end Go.Sy.Ex
