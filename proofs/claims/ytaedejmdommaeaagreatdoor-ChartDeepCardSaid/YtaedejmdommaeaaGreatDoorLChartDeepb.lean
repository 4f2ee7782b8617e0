import Derived.Test.YtaedejmdommaeaaGreatDoorLChartDeepa
set_option linter.unusedVariables false
set_option linter.unusedSimpArgs false
namespace Go.Sy.Ex
open Go.Sy
def Bd (s:ay) (r:gE):Prop:=s.Row.aI.Code≠0∧r.bad=s.Row.aI
theorem Bd.r {s:ay} {r:gE} (h:Bd s r):r.bad.Code≠0:=by rw [h.2]; exact h.1
theorem Bd.mk (l:List ak) (i:Nat):Bd (cb l i) (rb l i):=⟨JX _,rfl⟩
def OE {α:Type} (Q:α→Prop) (l:List ak) (i:Nat) (f:Nat→Nat→Option (α×ay)) (g:Nat→Nat→Option (α×gE)):Prop:=
 (∃ v j Z,i≤j∧j<l.length∧Q v∧ ∀ k,Z≤k→ ∀ m,Z≤m→f k m=some (v,ct l j)∧g k m=some (v,rt l j))∨
 (∃ v s v' r Z,Bd s r∧ ∀ k,Z≤k→ ∀ m,Z≤m→f k m=some (v,s)∧g k m=some (v',r))
section
variable {α β:Type} {Q:α→Prop} {Q':β→Prop} {l:List ak} {i:Nat}
theorem OE.ok {v:α} {j:Nat} (h1:i≤j) (h2:j<l.length) (h3:Q v):OE Q l i (fun _ _=>some (v,ct l j)) (fun _ _=>some (v,rt l j)):= .inl ⟨v,j,0,h1,h2,h3,fun _ _ _ _=>⟨rfl,rfl⟩⟩
theorem OE.mono {i':Nat} {f g} (h:OE Q l i' f g) (hi:i≤i'):OE Q l i f g:=by
 rcases h with ⟨v,j,Z,h1,h2,h3,h4⟩ | h
 · exact .inl ⟨v,j,Z,by omega,h2,h3,h4⟩
 · exact .inr h
theorem OE.imp {Q2:α→Prop} {f g} (h:OE Q l i f g) (hq: ∀ v,Q v→Q2 v):OE Q2 l i f g:=by
 rcases h with ⟨v,j,Z,h1,h2,h3,h4⟩ | h
 · exact .inl ⟨v,j,Z,h1,h2,hq v h3,h4⟩
 · exact .inr h
theorem OE.bind {f g} {F:Nat→Nat→α×ay→Option (β×ay)} {G:Nat→Nat→α×gE→Option (β×gE)} (h:OE Q l i f g)
 (ok: ∀ v j,i≤j→j<l.length→Q v→OE Q' l i (fun k m=>F k m (v,ct l j)) (fun k m=>G k m (v,rt l j)))
 (bad: ∀ v s v' r,Bd s r→OE Q' l i (fun k m=>F k m (v,s)) (fun k m=>G k m (v',r))):OE Q' l i (fun k m=>(f k m).bind (F k m)) (fun k m=>(g k m).bind (G k m)):=by
 rcases h with ⟨v,j,Z,h1,h2,h3,h4⟩ | ⟨v,s,v',r,Z,h1,h4⟩
 · rcases ok v j h1 h2 h3 with ⟨w,j',Z',g1,g2,g3,g4⟩ | ⟨w,s,w',r,Z',g1,g4⟩
   · refine .inl ⟨w,j',max Z Z',g1,g2,g3,fun k hk m hm=> ?_⟩
     show (f k m).bind (F k m)=_∧(g k m).bind (G k m)=_
     rw [(h4 k (by omega) m (by omega)).1,(h4 k (by omega) m (by omega)).2]
     exact g4 k (by omega) m (by omega)
   · refine .inr ⟨w,s,w',r,max Z Z',g1,fun k hk m hm=> ?_⟩
     show (f k m).bind (F k m)=_∧(g k m).bind (G k m)=_
     rw [(h4 k (by omega) m (by omega)).1,(h4 k (by omega) m (by omega)).2]
     exact g4 k (by omega) m (by omega)
 · rcases bad v s v' r h1 with ⟨w,j',Z',g1,g2,g3,g4⟩ | ⟨w,s,w',r,Z',g1,g4⟩
   · refine .inl ⟨w,j',max Z Z',g1,g2,g3,fun k hk m hm=> ?_⟩
     show (f k m).bind (F k m)=_∧(g k m).bind (G k m)=_
     rw [(h4 k (by omega) m (by omega)).1,(h4 k (by omega) m (by omega)).2]
     exact g4 k (by omega) m (by omega)
   · refine .inr ⟨w,s,w',r,max Z Z',g1,fun k hk m hm=> ?_⟩
     show (f k m).bind (F k m)=_∧(g k m).bind (G k m)=_
     rw [(h4 k (by omega) m (by omega)).1,(h4 k (by omega) m (by omega)).2]
     exact g4 k (by omega) m (by omega)
theorem OE.from {f g} (N:Nat) {f' g'} (hf: ∀ k,N≤k→ ∀ m,N≤m→f k m=f' k m) (hg: ∀ k,N≤k→ ∀ m,N≤m→g k m=g' k m) (h:OE Q l i f' g'):OE Q l i f g:=by
 rcases h with ⟨v,j,Z,h1,h2,h3,h4⟩ | ⟨v,s,v',r,Z,h1,h4⟩
 · refine .inl ⟨v,j,max Z N,h1,h2,h3,fun k hk m hm=> ?_⟩
   rw [hf k (by omega) m (by omega),hg k (by omega) m (by omega)]; exact h4 k (by omega) m (by omega)
 · refine .inr ⟨v,s,v',r,max Z N,h1,fun k hk m hm=> ?_⟩
   rw [hf k (by omega) m (by omega),hg k (by omega) m (by omega)]; exact h4 k (by omega) m (by omega)
theorem OE.cC {A B:Type} {F:Nat→Nat→A→Option (α×ay)} {G:Nat→Nat→B→Option (α×gE)} {x:A} {y:B} (h:OE Q l i (fun k m=>F k m x) (fun k m=>G k m y)):OE Q l i (fun k _=>Sy.cC (F k) x) (fun k _=>Sy.cC (G k) y):=by
 rcases h with ⟨v,j,Z,h1,h2,h3,h4⟩ | ⟨v,s,v',r,Z,h1,h4⟩
 · exact .inl ⟨v,j,Z,h1,h2,h3,fun k hk m hm=>⟨cX Z fun m hm=>(h4 k hk m hm).1,cX Z fun m hm=>(h4 k hk m hm).2⟩⟩
 · exact .inr ⟨v,s,v',r,Z,h1,fun k hk m hm=>⟨cX Z fun m hm=>(h4 k hk m hm).1,cX Z fun m hm=>(h4 k hk m hm).2⟩⟩
end
section
variable {β:Type} {Q':β→Prop} {l:List ak} {i:Nat}
end
end Go.Sy.Ex
namespace Go.Sy.Ex
open Go.Sy
noncomputable section
theorem jU {t:ak} {s s':List UInt8} (h:aK t s=true) (hs:s≠s'):aK t s'=false:=by
 have h:=of_decide_eq_true h
 exact decide_eq_false fun q=>hs (h.2.symm.trans q.2)
def QT (t:bC):Prop:=ou t.Guard∧FL t.vG
section
variable {l:List ak} {i:Nat}
end
end
end Go.Sy.Ex
namespace Go.Sy.Ex
open Go.Sy
noncomputable section
section
variable {α:Type} {Q:α→Prop} {l:List ak} {i:Nat}
theorem OE.shift {f g} (a b:Nat) (h:OE Q l i (fun k m=>f k (m+a)) (fun k m=>g k (m+b))):OE Q l i f g:=by
 have e: ∀ {γ:Type} (F:Nat→Nat→γ) (c k m:Nat),c≤m→F k m=F k ((m - c)+c):=fun F c k m h=>by rw [Nat.sub_add_cancel h]
 rcases h with ⟨v,j,Z,h1,h2,h3,h4⟩ | ⟨v,s,v',r,Z,h1,h4⟩
 · refine .inl ⟨v,j,Z+a+b,h1,h2,h3,fun k hk m hm=> ?_⟩
   rw [e f a k m (by omega),e g b k m (by omega)]
   exact ⟨(h4 k (by omega) _ (by omega)).1,(h4 k (by omega) _ (by omega)).2⟩
 · refine .inr ⟨v,s,v',r,Z+a+b,h1,fun k hk m hm=> ?_⟩
   rw [e f a k m (by omega),e g b k m (by omega)]
   exact ⟨(h4 k (by omega) _ (by omega)).1,(h4 k (by omega) _ (by omega)).2⟩
end
def Sq:Nat→List aR→Prop
 | 0,_=>False
 | n+1,l=>l.length≤100000∧ ∀ s ∈ l,(FL s.Entry∧FL s.Exit)∧(s.Trans.length≤100000∧ ∀ t ∈ s.Trans,QT t)∧Sq n s.Kids
theorem Sq.up: ∀ {n m:Nat} {l:List aR},Sq n l→n≤m→Sq m l
 | 0,_,_,h,_=>h.elim
 | n+1,0,_,_,h=>by omega
 | n+1,m+1,l,⟨h1,h2⟩,h=>⟨h1,fun s hs=>⟨(h2 s hs).1,(h2 s hs).2.1,Sq.up (h2 s hs).2.2 (by omega)⟩⟩
def QL (l:List aR):Prop:= ∃ n,Sq n l
def QS (s:aR):Prop:=(FL s.Entry∧FL s.Exit)∧(s.Trans.length≤100000∧ ∀ t ∈ s.Trans,QT t)∧QL s.Kids
theorem QL.nil:QL []:=⟨1,Nat.zero_le _,fun s hs=>by cases hs⟩
theorem QL.push {l:List aR} {s:aR} (h:QL l) (hs:QS s) (hl:l.length+1≤100000):QL (l++ [s]):=by
 obtain ⟨n,hn⟩:=h
 obtain ⟨h1,h2,m,hm⟩:=hs
 cases n with
 | zero=>exact hn.elim
 | succ n=>
  refine ⟨n+m+1,by simp; omega,fun x hx=> ?_⟩
  rcases List.mem_append.1 hx with hx | hx
  · exact ⟨(hn.2 x hx).1,(hn.2 x hx).2.1,(hn.2 x hx).2.2.up (by omega)⟩
  · rw [List.mem_singleton] at hx; subst hx
    exact ⟨h1,h2,hm.up (by omega)⟩
section
variable {l:List ak} {i:Nat}
theorem zl {s:ay} (h:s.Row.aI.Code≠0):jI s=some (0,s):=by
 unfold jI
 simp only [wq h,af,cond_false]
theorem K7 {s:ay} (h:s.Row.aI.Code≠0) (k:Nat) (d:Int):dM (k+2) s d=some ([],s):=by
 show fU (dM (k+1)) (k+1) s d=_
 unfold fU
 rw [zl h,af,fV.eq_2]
 rfl
end
end
end Go.Sy.Ex
namespace Go.Sy.Ex
open Go.Sy
noncomputable section
def bK (t:ak):Int:=bif aK t eM then 1 else bif aK t fP then 2 else bif aK t nW then 3 else bif aK t nT then 4 else 0
section
variable {l:List ak} {i:Nat}
theorem mU (hi:i<l.length):jI (ct l i)=some (bK (aa l i),ct l i):=by
 unfold jI bK
 simp only [wu hi,af]
 cases aK (aa l i) eM <;> cases aK (aa l i) fP <;> cases aK (aa l i) nW <;> cases aK (aa l i) nT <;> rfl
end
end
end Go.Sy.Ex
namespace Go.Sy.Ex
open Go.Sy
noncomputable section
section
variable {l:List ak} {i:Nat}
end
end
end Go.Sy.Ex
namespace Go.Sy.Ex
open Go.Sy
noncomputable section
theorem bs {α β:Type} {x:Option α} {f:α→Option β} {r:β} (h:x.bind f=some r): ∃ a,x=some a∧f a=some r:=Option.bind_eq_some_iff.1 h
section
variable {l:List ak} {i:Nat}
end
end
end Go.Sy.Ex
namespace Go.Sy.Ex
open Go.Sy
theorem Rp (s:aR):aR.mk s.Kind s.Name s.Entry s.Exit s.Trans s.Kids s.At=s:=by cases s; rfl
end Go.Sy.Ex
namespace Go.Sy.Ex
open Go.Sy
section
variable {l:List ak} {i:Nat}
theorem DP (hi:i<l.length) (hl:l.length≤100000) {s:List UInt8} (h:aK (aa l i) s=true):eC (ct l i) s=some (true,ct l (i+1)):=by rw [zw hi hl,h]; rfl
theorem jK (hi:i<l.length) (hl:l.length≤100000) {s:List UInt8} (h:aK (aa l i) s=false):eC (ct l i) s=some (false,ct l i):=by rw [zw hi hl,h]; rfl
theorem zu (hi:i<l.length) {s:List UInt8} (h:aK (aa l i) s=true):eX (ct l i) s=some (true,ct l i):=by rw [wu hi,h]
theorem qt (hi:i<l.length) {s:List UInt8} (h:aK (aa l i) s=false):eX (ct l i) s=some (false,ct l i):=by rw [wu hi,h]
end
abbrev K1:List ak:= [⟨1,0,5,kU,0⟩,⟨1,6,7,[99],0⟩,⟨1,8,13,kY,0⟩,⟨2,14,15,[50],2⟩,⟨1,16,20,kV,0⟩,⟨2,21,22,[57],9⟩,⟨3,22,23,fq,0⟩,⟨1,23,28,eM,0⟩,⟨1,29,30,[97],0⟩,⟨3,30,31,fq,0⟩,⟨1,31,33,mm,0⟩,⟨1,34,35,[101],0⟩,⟨3,35,37,Cb,0⟩,⟨1,37,38,[97],0⟩,⟨3,38,39,cD,0⟩,⟨3,39,40,cw,0⟩,⟨3,40,41,cw,0⟩,⟨4,41,41,[],0⟩]
abbrev K2:List ak:= [⟨1,0,5,kU,0⟩,⟨1,6,7,[99],0⟩,⟨1,8,13,kY,0⟩,⟨2,14,15,[50],2⟩,⟨1,16,20,kV,0⟩,⟨2,21,22,[57],9⟩,⟨3,23,24,fq,0⟩,⟨1,25,30,eM,0⟩,⟨1,31,32,[97],0⟩,⟨3,33,34,fq,0⟩,⟨1,35,37,mm,0⟩,⟨1,38,39,[101],0⟩,⟨3,40,42,Cb,0⟩,⟨3,43,44,cD,0⟩,⟨3,45,46,cw,0⟩,⟨3,47,48,cw,0⟩,⟨4,48,48,[],0⟩]
theorem IV:mS Ca=(K1,⟨0,0⟩):=by decide+kernel
theorem IW:mS B_=(K2,⟨0,0⟩):=by decide+kernel
abbrev S1:aR:=aR.mk 1 [97] [] [] [bC.mk [101] [] [97] [] 31] [] 23
abbrev C1:c_:=c_.mk [99] 2 9 [] [] [] [S1] 0
theorem RW:oD (ct K1 10)=some (bC.mk [101] [] [97] [] 31,ct K1 15):=cX 3 fun k hk=>by
 obtain ⟨k,rfl⟩: ∃ j,k=j+3:=⟨k - 3,by omega⟩
 show qq (k+3) (ct K1 10)=_
 unfold qq
 simp (disch:=decide) only [gL,DP,jK,lF,af,cond_true,cond_false,sY.eq_2,sZ.eq_2,s6.eq_2,fX,qt,gM]
 rfl
theorem D4 {s:ay} :ay.mk (aY.mk s.Row.L s.Row.At (aQ.mk s.Row.aI.Code s.Row.aI.At))=s:=rfl
theorem wB {l:List ak} {i:Nat} (hi:i<l.length) (hl:l.length≤100000):ay.mk (aY.mk (ct l i).Row.L (au ((ct l i).Row.At+1)) (ct l i).Row.aI)=ct l (i+1):=by
 show (⟨⟨l,au (((i:Nat):Int)+1),⟨0,0⟩⟩⟩:ay)=_
 rw [gz hi hl]; rfl
theorem RE (k:Nat):dM (k+2) (ct K1 15) 2=some ([],ct K1 15):=by
 show fU (dM (k+1)) (k+1) (ct K1 15) 2=_
 unfold fU
 rw [mU (by decide),af,fV.eq_2]
 rfl
theorem NP (k:Nat):mY (dM (k+2)) (ct K1 9) (1,[97],[],[],[],[],23) 1=some (ct K1 16,(1,[97],[],[],[bC.mk [101] [] [97] [] 31],[],23)):=cX 6 fun m hm=>by
 obtain ⟨m,rfl⟩: ∃ j,m=j+6:=⟨m - 6,by omega⟩
 show mZ (dM (k+2)) (m+6) (ct K1 9) (1,[97],[],[],[],[],23) 1=_
 unfold mZ
 simp (disch:=decide) only [gM,jK,af,cond_true,cond_false,qn.eq_2,qo.eq_2,sS.eq_2,m_.eq_2,fX,zu,qt]
 rw [show oD (ct K1 (9+1))=_ from RW,af,if_pos (by decide)]
 simp (disch:=decide) only [gM,jK,af,cond_true,cond_false,m_.eq_2,fX,zu,qt,show au ((1:Int)+1)=2 from by rw [dr (by decide) (by decide)]; rfl,RE]
 rfl
theorem RM:oC (ct K1 7) 1=some ([S1],ct K1 16):=cX 5 fun k hk=>by
 obtain ⟨k,rfl⟩: ∃ j,k=j+5:=⟨k - 5,by omega⟩
 show fU (dM (k+4)) (k+4) (ct K1 7) 1=_
 unfold fU
 rw [mU (by decide),af,show bK (aa K1 7)=1 from by decide,fV.eq_2]
 simp (disch:=decide) only [gL,af,fX,wB,lF]
 rw [if_pos (by decide),if_neg (by decide),if_pos trivial,show (aa K1 (7+1)).Text= [97] from rfl,show (aa K1 7).At=23 from rfl,NP (k+2),af,if_pos (by decide)]
 dsimp only
 rw [mU (by decide),af,show bK (aa K1 16)=0 from by decide,fV.eq_2]
 rfl
theorem x7 {l:List ak} {i:Nat} (hi:i<l.length) (hl:l.length≤100000) {w:List UInt8} (h:aK (aa l i) w=false):sW (ct l i) w=some ([],ct l i):=cX 1 fun k hk=>by
 obtain ⟨k,rfl⟩: ∃ j,k=j+1:=⟨k - 1,by omega⟩
 show sX (k+1) (ct l i).Row.L _ _ _ w []=_
 rw [sX.eq_2,fX,jK hi hl h,af]; rfl
theorem Ku:jH K1 0=some (C1,17,⟨0,0⟩):=by
 unfold jH
 rw [show qm (ay.mk (aY.mk K1 0 (aQ.mk 0 0)))=some (C1,ct K1 17) from cX 1 fun k hk=>by
  obtain ⟨k,rfl⟩: ∃ j,k=j+1:=⟨k - 1,by omega⟩
  show mX (k+1) (ct K1 0)=_
  unfold mX
  simp (disch:=decide) only [gL,gM,lF,wz,af,oB.eq_2,fX,jK,cond_false,x7]
  rw [RM,af,gM (by decide) (by decide) (by decide),af]
  rfl,af]
 rfl
theorem RX:oD (ct K2 10)=some (bC.mk [101] [] [] [] 35,cb K2 13):=cX 3 fun k hk=>by
 obtain ⟨k,rfl⟩: ∃ j,k=j+3:=⟨k - 3,by omega⟩
 show qq (k+3) (ct K2 10)=_
 unfold qq
 simp (disch:=decide) only [gL,DP,jK,lF,KZ,af,cond_true,cond_false,sY.eq_2,sZ.eq_2,s6.eq_2,fX,D4]
 simp only [wq (s:=cb K2 13) (by decide),tf (s:=cb K2 13) (by decide),af,cond_false]
 rfl
theorem Kv:jH K2 0=some (c_.mk [] 0 0 [] [] [] [] 0,0,⟨11,43⟩):=by
 have hb:(cb K2 13).Row.aI.Code≠0:=by decide
 have i2: ∀ k,mY (dM (k+2)) (ct K2 9) (1,[97],[],[],[],[],25) 1=some (cb K2 13,(1,[97],[],[],[bC.mk [101] [] [] [] 35],[],25)):=fun k=>cX 6 fun m hm=>by
  obtain ⟨m,rfl⟩: ∃ j,m=j+6:=⟨m - 6,by omega⟩
  show mZ (dM (k+2)) (m+6) (ct K2 9) (1,[97],[],[],[],[],25) 1=_
  unfold mZ
  simp (disch:=decide) only [gM,jK,af,cond_true,cond_false,qn.eq_2,qo.eq_2,sS.eq_2,m_.eq_2,fX,zu,qt]
  rw [show oD (ct K2 (9+1))=_ from RX,af,if_pos (by decide)]
  simp only [m_.eq_2,D4,wq hb,af,cond_false,K7 hb,tf hb]
  rfl
 have s2:oC (ct K2 7) 1=some ([aR.mk 1 [97] [] [] [bC.mk [101] [] [] [] 35] [] 25],cb K2 13):=cX 5 fun k hk=>by
  obtain ⟨k,rfl⟩: ∃ j,k=j+5:=⟨k - 5,by omega⟩
  show fU (dM (k+4)) (k+4) (ct K2 7) 1=_
  unfold fU
  rw [mU (by decide),af,show bK (aa K2 7)=1 from by decide,fV.eq_2]
  simp (disch:=decide) only [gL,af,fX,wB,lF]
  rw [if_pos (by decide),if_neg (by decide),if_pos trivial,show (aa K2 (7+1)).Text= [97] from rfl,show (aa K2 7).At=25 from rfl,i2 (k+2),af,if_pos (by decide)]
  dsimp only
  rw [zl hb,af,fV.eq_2]
  rfl
 unfold jH
 rw [show qm (ay.mk (aY.mk K2 0 (aQ.mk 0 0)))=some (c_.mk [99] 2 9 [] [] [] [aR.mk 1 [97] [] [] [bC.mk [101] [] [] [] 35] [] 25] 0,cb K2 13) from cX 1 fun k hk=>by
  obtain ⟨k,rfl⟩: ∃ j,k=j+1:=⟨k - 1,by omega⟩
  show mX (k+1) (ct K2 0)=_
  unfold mX
  simp (disch:=decide) only [gL,gM,lF,wz,af,oB.eq_2,fX,jK,cond_false,x7]
  rw [s2,af,tf hb,af]
  rfl,af,wA hb,af]
 rfl
end Go.Sy.Ex
namespace Go.Sy.Ex
open Go.Sy
theorem N0:Lib.itoa 9= [57]:=by rw [ux (by decide),show (9:Int).toNat=9 from rfl,lG (by decide)]; rfl
theorem lE {x s:List UInt8} (h:x.length+s.length≤140737488355328):br x s=some ((s.length:Int),true,x++s):=by unfold br; rw [if_pos h]
theorem G3 {s:List UInt8} {n:Nat} (h:s.length*n≤140737488355328) (hn:n≤1000000):i_ s (n:Int)=some (Lib.repeatL s n):=by unfold i_; rw [if_pos ⟨by omega,by omega,by simpa using h⟩]; simp
theorem PA (b:List UInt8) (hb:b.length≤1000):wh b (bC.mk [101] [] [97] [] 31) 2=some (b++ [32,32,32,32,111,110,32,101,32,45,62,32,97,59,10]):=cX 1 fun k hk=>by
 obtain ⟨k,rfl⟩: ∃ j,k=j+1:=⟨k - 1,by omega⟩
 show wj (k+1) b (bC.mk [101] [] [97] [] 31) 2=_
 unfold wj
 rw [show i_ eF 2=some [32,32,32,32] from G3 (n:=2) (by decide) (by decide),af,lE (by simp; omega),af,if_neg (by decide),if_pos (by decide)]
 dsimp only
 rw [lE (by simp; omega),af,s_.eq_2,if_neg (by decide),if_pos (by decide),if_pos (by decide),lE (by simp; omega),af,if_pos (by rfl)]
 dsimp only
 rw [lE (by simp; omega),af]
 simp
theorem ps1 (b:List UInt8) (hb:b.length≤500):v_ b S1 1=some (b++ [32,32,115,116,97,116,101,32,97,32,123,10,32,32,32,32,111,110,32,101,32,45,62,32,97,59,10,32,32,125,10]):=cX 5 fun k hk=>by
 obtain ⟨k,rfl⟩: ∃ j,k=j+5:=⟨k - 5,by omega⟩
 show we (s7 (k+4)) (k+4) b S1 1=_
 unfold we
 rw [show i_ eF 1=some [32,32] from G3 (n:=1) (by decide) (by decide),af,show wk S1.Kind=some Hi from rfl,af,if_pos (by decide),if_pos (by decide),lE (by simp; omega),af,if_neg (by decide),if_neg (by decide),if_neg (by decide+kernel)]
 dsimp only
 rw [lE (by simp; omega),af,if_neg (by decide),if_neg (by decide),nc.eq_2,if_pos (by decide),if_pos (by decide),if_pos (by decide),show au ((1:Int)+1)=2 from by rw [dr (by decide) (by decide)]; rfl]
 dsimp only
 rw [show ([bC.mk [101] [] [97] [] 31].getD (0:Int).toNat bC.z)=bC.mk [101] [] [97] [] 31 from rfl,PA _ (by simp; omega),af,show au ((0:Int)+1)=1 from by rw [dr (by decide) (by decide)]; rfl,nc.eq_2,if_neg (by decide),wg.eq_2,if_neg (by decide),if_pos (by decide),lE (by simp; omega),af]
 simp
theorem Pu:vX C1=some G_:=cX 6 fun k hk=>by
 obtain ⟨k,rfl⟩: ∃ j,k=j+6:=⟨k - 6,by omega⟩
 show vY (k+6) C1=_
 unfold vY
 have i2:iZ C1.Steps=some [50]:=by unfold iZ; rw [if_pos (by decide)]; exact congrArg some NZ
 have i9:iZ C1.Fuel=some [57]:=by unfold iZ; rw [if_pos (by decide)]; exact congrArg some N0
 rw [if_pos (by decide),if_pos (by decide),i2,af,if_pos (by decide),if_pos (by decide),i9,af,if_pos (by decide),if_pos (by decide),lE (by decide),af,vZ.eq_2,if_neg (by decide),v7.eq_2,if_neg (by decide),v8.eq_2,if_neg (by decide),sR.eq_2,if_pos (by decide),if_pos (by decide),if_pos (by decide)]
 dsimp only
 rw [show ([S1].getD (Int.toNat 0) aR.z)=S1 from rfl,Rp,ps1 _ (by decide),af,show au ((0:Int)+1)=1 from by rw [dr (by decide) (by decide)]; rfl,sR.eq_2,if_neg (by decide),lE (by decide),af]
 rfl
theorem AW:pF=some true:=by
 unfold pF
 have r1:ij Ca=some (C1,⟨0,0⟩,true):=by
  unfold ij
  rw [xh,IV,af,if_neg (by decide),Ku,af,if_pos rfl]
  rfl
 have r2:ij B_=some (c_.mk [] 0 0 [] [] [] [] 0,⟨11,43⟩,false):=by
  unfold ij
  rw [xh,IW,af,if_neg (by decide),Kv,af,if_neg (by decide)]
 rw [r1,af,r2,af]
 dsimp only
 rw [cond_true,Bool.not_false,cond_true,if_pos rfl,if_pos rfl,Pu,af,decide_eq_true rfl]
end Go.Sy.Ex
namespace Go.Sy.Ex
open Go.Sy
structure mO (l:List ak) (p j:Nat):Prop where
 len:l.length≤100000
 fit:p+4*j<l.length
 kw: ∀ e,e<j→aK (aa l (p+3*e)) eM=true∨aK (aa l (p+3*e)) fP=true
 nm: ∀ e,e<j→lV (aa l (p+3*e+1))=true
 lb: ∀ e,e<j→aK (aa l (p+3*e+2)) fq=true
 rb: ∀ e,e≤j→aK (aa l (p+3*j+e)) cw=true
theorem mO.inner {l:List ak} {p j:Nat} (h:mO l p (j+1)):mO l (p+3) j:=by
 refine ⟨h.len,by have :=h.fit; omega,fun e he=> ?_,fun e he=> ?_,fun e he=> ?_,fun e he=> ?_⟩
 · have :=h.kw (e+1) (by omega); rwa [show p+3*(e+1)=p+3+3*e from by omega] at this
 · have :=h.nm (e+1) (by omega); rwa [show p+3*(e+1)=p+3+3*e from by omega] at this
 · have :=h.lb (e+1) (by omega); rwa [show p+3*(e+1)=p+3+3*e from by omega] at this
 · have :=h.rb e (by omega); rwa [show p+3*(j+1)=p+3+3*j from by omega] at this
theorem Df {t:ak} (h:aK t cw=true):bK t=0:=by
 unfold bK
 rw [jU h (show cw≠eM by decide),jU h (show cw≠fP by decide),jU h (show cw≠nW by decide),jU h (show cw≠nT by decide)]; rfl
theorem De {t:ak} (h:aK t eM=true∨aK t fP=true):bK t=1∨bK t=2:=by
 unfold bK
 rcases h with h | h
 · rw [h]; exact .inl rfl
 · rw [h]; cases aK t eM
   · exact .inr rfl
   · exact .inl rfl
theorem MM {t:ak} (h:(aK t eM=true∨aK t fP=true)∨aK t cw=true):aK t rE=false∧aK t rF=false∧aK t mm=false∧aK t nS=false:=by
 rcases h with (h | h) | h <;> exact ⟨jU h (by decide),jU h (by decide),jU h (by decide),jU h (by decide)⟩
section
variable {l:List ak}
theorem mO.head {p j:Nat} (h:mO l p j):(aK (aa l p) eM=true∨aK (aa l p) fP=true)∨aK (aa l p) cw=true:=by
 cases j with
 | zero=>exact .inr (h.rb 0 (by omega))
 | succ j=>exact .inl (h.kw 0 (by omega))
abbrev iH (x:Int×List UInt8×List aJ×List aJ×List bC×List aR×Int):aR:=aR.mk x.1 x.2.1 x.2.2.1 x.2.2.2.1 x.2.2.2.2.1 x.2.2.2.2.2.1 x.2.2.2.2.2.2
theorem NT {p:Nat} (hl:l.length≤100000) (hp:p+1<l.length) (hb:aK (aa l p) fq=true) (hh:(aK (aa l (p+1)) eM=true∨aK (aa l (p+1)) fP=true)∨aK (aa l (p+1)) cw=true)
 (F:ay→Int→Option (List aR×ay)) {K:Int} {nm:List UInt8} {A d:Int} {r:List aR×ay} {s:ay} (hF:F (ct l (p+1)) (au (d+1))=some r) (hw:dj r.2 cw=some s):
 mY F (ct l p) (K,nm,[],[],[],[],A) d=some (s,(K,nm,[],[],[],r.1,A)):=cX 6 fun m hm=>by
 obtain ⟨m,rfl⟩: ∃ j,m=j+6:=⟨m - 6,by omega⟩
 show mZ F (m+6) (ct l p) (K,nm,[],[],[],[],A) d=_
 obtain ⟨h1,h2,h3,h4⟩:=MM hh
 unfold mZ
 rw [gM (by omega) hl hb,af,jK hp hl h1,af,cond_false,qn.eq_2]
 dsimp only
 rw [fX,jK hp hl h2,af,cond_false,qo.eq_2]
 dsimp only
 rw [m_.eq_2,fX,qt hp h3,af,cond_false,qt hp h4,af,cond_false,hF,af,hw,af]
theorem HC {p:Nat} (hl:l.length≤100000) (hp:p+3<l.length) (hk:aK (aa l p) eM=true∨aK (aa l p) fP=true) (hn:lV (aa l (p+1))=true) (hb:aK (aa l (p+2)) fq=true)
 (hh:(aK (aa l (p+3)) eM=true∨aK (aa l (p+3)) fP=true)∨aK (aa l (p+3)) cw=true) {k:Nat} {d:Nat} (hd:d≤12) {r:List aR×ay} {s:ay}
 (hF:dM (k+2) (ct l (p+3)) ((d+1:Nat):Int)=some r) (hw:dj r.2 cw=some s) (hs:jI s=some (0,s)):
 dM (k+3) (ct l p) (d:Int)=some ([aR.mk (bK (aa l p)) (aa l (p+1)).Text [] [] [] r.1 (aa l p).At],s):=by
 show fU (dM (k+2)) (k+2) (ct l p) (d:Int)=_
 have hin: ∀ K:Int,mY (dM (k+2)) (ct l (p+2)) (K,(aa l (p+1)).Text,[],[],[],[],(aa l p).At) (d:Int)=some (s,(K,(aa l (p+1)).Text,[],[],[],r.1,(aa l p).At)):=fun K=>
  NT hl hp hb hh _ (by rw [dr (by omega) (by omega)]; exact hF) hw
 unfold fU
 rw [mU (by omega),af,fV.eq_2]
 have hend: ∀ (row:List aR) (m:Nat),fV (dM (k+2)) (m+1) s.Row.L s.Row.At s.Row.aI.Code s.Row.aI.At (d:Int) row 0=some (row,s):=fun row m=>by
  rw [fV.eq_2,if_neg (by decide)]
 rcases De hk with h | h <;> rw [h]
 · rw [if_pos (show (1:Int)≠0 by decide),fX,gL (by omega),af]
   dsimp only
   rw [if_neg (by omega),wB (by omega) hl,lF (by omega) hl hn,af,if_pos rfl]
   dsimp only
   rw [hin 1,af,if_pos (by show (0+1)*128≤140737488355328; decide)]
   dsimp only
   rw [hs,af]
   exact hend _ k
 · rw [if_pos (show (2:Int)≠0 by decide),fX,gL (by omega),af]
   dsimp only
   rw [if_neg (by omega),wB (by omega) hl,lF (by omega) hl hn,af,if_neg (by decide),if_pos rfl]
   dsimp only
   rw [hin 2,af,if_pos (by show (0+1)*128≤140737488355328; decide)]
   dsimp only
   rw [hs,af]
   exact hend _ k
theorem Ge: ∀ (j p d:Nat),mO l p j→d+j≤13→ ∃ row, ∀ k,dM (k+j+2) (ct l p) (d:Int)=some (row,ct l (p+4*j))
 | 0,p,d,h,hd=>⟨[],fun k=>by
  show fU (dM (k+1)) (k+1) (ct l p) (d:Int)=_
  have hp:=h.fit
  unfold fU
  rw [mU (by omega),af,Df (t:=aa l p) (h.rb 0 (by omega)),fV.eq_2,if_neg (show ¬ (0:Int)≠0 by decide)]
  rfl⟩
 | j+1,p,d,h,hd=>by
  obtain ⟨row,hr⟩:=Ge j (p+3) (d+1) h.inner (by omega)
  have hp:=h.fit
  have h1:aK (aa l (p+3+4*j)) cw=true:=by have :=h.rb j (by omega); rwa [show p+3*(j+1)+j=p+3+4*j from by omega] at this
  have h2:aK (aa l (p+4*(j+1))) cw=true:=by have :=h.rb (j+1) (by omega); rwa [show p+3*(j+1)+(j+1)=p+4*(j+1) from by omega] at this
  refine ⟨[aR.mk (bK (aa l p)) (aa l (p+1)).Text [] [] [] row (aa l p).At],fun k=>HC (p:=p) (r:=(row,ct l (p+3+4*j))) (k:=k+j) h.len (by omega) (h.kw 0 (by omega)) (h.nm 0 (by omega)) (h.lb 0 (by omega)) h.inner.head (by omega) (hr k) (s:=ct l (p+4*(j+1))) ?_ ?_⟩
  · rw [show p+4*(j+1)=p+3+4*j+1 from by omega]
    exact gM (by omega) h.len h1
  · rw [mU (by omega),Df h2]
theorem Gc: ∀ (z j p d:Nat),mO l p j→d+z=13→z<j→ ∃ row s,s.Row.aI=⟨14,(aa l (p+3*z)).At⟩∧ ∀ k,dM (k+z+2) (ct l p) (d:Int)=some (row,s)
 | 0,j,p,d,h,hd,hz=>by
  have hp:=h.fit
  refine ⟨[],⟨⟨l,(p:Int),⟨14,(aa l p).At⟩⟩⟩,rfl,fun k=> ?_⟩
  show fU (dM (k+1)) (k+1) (ct l p) (d:Int)=_
  unfold fU
  rw [mU (by omega),af,fV.eq_2,if_pos (show bK (aa l p)≠0 by rcases De (t:=aa l p) (h.kw 0 (by omega)) with e | e <;> (rw [e]; decide)),fX,gL (by omega),af,if_pos (by omega)]
  unfold iw
  dsimp only
  rw [td,af,cond_true,af]
  rfl
 | z+1,0,p,d,h,hd,hz=>by omega
 | z+1,j+1,p,d,h,hd,hz=>by
  obtain ⟨row,s,hs,hr⟩:=Gc z j (p+3) (d+1) h.inner (by omega) (by omega)
  have hb:s.Row.aI.Code≠0:=by rw [hs]; exact (by decide:(14:Int)≠0)
  have hp:=h.fit
  refine ⟨[aR.mk (bK (aa l p)) (aa l (p+1)).Text [] [] [] row (aa l p).At],s,by rw [hs,show p+3+3*z=p+3*(z+1) from by omega],fun k=>HC (p:=p) (r:=(row,s)) (k:=k+z) h.len (by omega) (h.kw 0 (by omega)) (h.nm 0 (by omega)) (h.lb 0 (by omega)) h.inner.head (by omega) (hr k) (s:=s) (tf hb _) (zl hb)⟩
structure Head (l:List ak) (n:Nat):Prop where
 nest:mO l 7 n
 h0:aK (aa l 0) kU=true
 h1:lV (aa l 1)=true
 h2:aK (aa l 2) kY=true
 h3:(aa l 3).Kind=2
 h4:aK (aa l 4) kV=true
 h5:(aa l 5).Kind=2
 h6:aK (aa l 6) fq=true
theorem Dw {n:Nat} (h:Head l n) {row:List aR} {s s':ay} (hr:oC (ct l 7) 1=some (row,s)) (hw:dj s cw=some s'):
 ∃ c,qm (ct l 0)=some (c,s'):=by
 refine ⟨c_.mk (aa l 1).Text (aa l 3).N (aa l 5).N [] [] [] row (aa l 0).At,cX 1 fun k hk=> ?_⟩
 obtain ⟨k,rfl⟩: ∃ j,k=j+1:=⟨k - 1,by omega⟩
 have hl:=h.nest.len
 have hp:=h.nest.fit
 have hno:aK (aa l 7) rN=false∧aK (aa l 7) rK=false∧aK (aa l 7) rM=false:=by
  rcases h.nest.head with (h | h) | h <;> exact ⟨jU h (by decide),jU h (by decide),jU h (by decide)⟩
 show mX (k+1) (ct l 0)=_
 unfold mX
 rw [gL (by omega),af]
 dsimp only
 rw [gM (by omega) hl h.h0,af,lF (by omega) hl h.h1,af]
 dsimp only
 rw [gM (by omega) hl h.h2,af,wz (by omega) hl h.h3,af]
 dsimp only
 rw [gM (by omega) hl h.h4,af,wz (by omega) hl h.h5,af]
 dsimp only
 rw [gM (by omega) hl h.h6,af,oB.eq_2,fX,jK (by omega) hl hno.1,af,cond_false]
 dsimp only
 rw [x7 (by omega) hl hno.2.1,af]
 dsimp only
 rw [x7 (by omega) hl hno.2.2,af]
 dsimp only
 rw [hr,af]
 dsimp only
 rw [hw,af]
theorem HD {z:Nat} {r:List aR×ay} (h: ∀ k,dM (k+z+2) (ct l 7) ((1:Nat):Int)=some r):oC (ct l 7) 1=some r:=cX (z+2) fun k hk=>by
 have :=h (k - z - 2)
 rwa [show k - z - 2+z+2=k from by omega] at this
theorem Pr {n:Nat} (h:Head l n) (hn:n≤12): ∃ c,jH l 0=some (c,((8+4*n:Nat):Int),⟨0,0⟩):=by
 obtain ⟨row,hr⟩:=Ge n 7 1 h.nest (by omega)
 have hp:=h.nest.fit
 obtain ⟨c,hc⟩:=Dw h (HD hr) (gM (by omega) h.nest.len (by have :=h.nest.rb n (by omega); rwa [show 7+3*n+n=7+4*n from by omega] at this))
 refine ⟨c, ?_⟩
 unfold jH
 rw [show ay.mk (aY.mk l 0 (aQ.mk 0 0))=ct l 0 from rfl,hc,af]
 dsimp only
 rw [td,af,show 8+4*n=7+4*n+1 from by omega]
 rfl
theorem Pp {n:Nat} (h:Head l n) (hn:12<n): ∃ c j,jH l 0=some (c,j,⟨14,(aa l 43).At⟩):=by
 obtain ⟨row,s,hs,hr⟩:=Gc 12 n 7 1 h.nest (by omega) hn
 have hb:s.Row.aI.Code≠0:=by rw [hs]; exact (by decide:(14:Int)≠0)
 obtain ⟨c,hc⟩:=Dw h (HD hr) (tf hb _)
 refine ⟨c_.mk [] 0 0 [] [] [] [] 0,0, ?_⟩
 unfold jH
 rw [show ay.mk (aY.mk l 0 (aQ.mk 0 0))=ct l 0 from rfl,hc,af]
 dsimp only
 rw [wA hb,af,Bool.not_false,cond_true]
 dsimp only
 rw [hs]
end
end Go.Sy.Ex
namespace Go.Sy.Ex
open Go.Sy
def wd (b:Bool):List UInt8:=bif b then fP else eM
def seg (b:Bool) (i:Nat):List UInt8:=wd b++gF++bytesOf [jw (au (97+(i:Int)))]++nY
def tx (f:Nat→Bool):Nat→List UInt8
 | 0=>ym
 | i+1=>tx f i++wd (f i)++gF++bytesOf [jw (au (97+(i:Int)))]++nY
def en:Nat→List UInt8
 | 0=>cw
 | i+1=>cw++en i
theorem Ia (f:Nat→Bool) (i:Nat):tx f (i+1)=tx f i++seg (f i) i:=by simp [tx,seg]
theorem Io (b:Bool):(wd b).length≤8:=by cases b <;> decide
theorem yK (f:Nat→Bool): ∀ i,(tx f i).length≤25+13*i
 | 0=>show ym.length≤25+13*0 by decide
 | i+1=>by
  have :=yK f i
  have :=Io (f i)
  rw [Ia]
  simp only [seg,List.length_append,bytesOf,List.length_map,List.length_cons,List.length_nil]
  omega
theorem wI: ∀ i,(en i).length=i+1
 | 0=>rfl
 | i+1=>by rw [en,List.length_append,wI i,Nat.add_comm]; rfl
theorem H_ (f:Nat→Bool): ∀ i,(tx f i).getLast?=some 123
 | 0=>rfl
 | i+1=>by rw [tx,List.getLast?_append]; rfl
theorem D8: ∀ i,Lx (en i) (List.replicate (i+1) (3,cw,0))
 | 0=>nw 2 (by decide)
 | i+1=>by
  rw [List.replicate_succ]
  exact Lx.append (Ka:= [(3,cw,0)]) (nw 2 (by decide)) (D8 i) (yC fun x hx=>by cases hx; decide)
def uz (i:Nat):List UInt8:=gF.drop 1++bytesOf [jw (au (97+(i:Int)))]
theorem Hp (b:Bool): ∀ i,i<26→qR 6 (seg b i)=some [(1,wd b,0),(1,uz i,0),(3,fq,0)]∧fm (uz i)=false:=by
 have h:((List.range 26).all fun i=>decide (qR 6 (seg b i)=some [(1,wd b,0),(1,uz i,0),(3,fq,0)]∧fm (uz i)=false))=true:=by cases b <;> decide+kernel
 exact fun i hi=>of_decide_eq_true (List.all_eq_true.1 h i (List.mem_range.2 hi))
theorem Py {n:Nat} {c:UInt8} {u:List UInt8} {L:List ak} (hc:iX c=false) (h:eG n (c::u) L): ∃ t L',L=t::L'∧t.At=(n:Int):=by
 have e:eg (c::u)=c::u:=by unfold eg; rw [List.dropWhile_cons_of_neg (by simp [hc])]
 cases h with
 | nil hs=>rw [e] at hs; cases hs
 | cons hs hv hh hl=>
  rw [e] at hs
  subst hs
  refine ⟨_,_,rfl, ?_⟩
  show ((n+((c::u).length - (c::u).length):Nat):Int)=n
  omega
theorem rV {a b:List ak} {i:Nat} (h:i<a.length):aa (a++b) i=aa a i:=by
 unfold aa
 simp [List.getD_eq_getElem?_getD,List.getElem?_append_left h]
theorem yJ {a b:List ak} (i:Nat):aa (a++b) (a.length+i)=aa b i:=by
 unfold aa
 rw [List.getD_eq_getElem?_getD,List.getD_eq_getElem?_getD,List.getElem?_append_right (by omega),Nat.add_sub_cancel_left]
theorem Rl (b:Bool) (i:Nat): ∃ c u,seg b i=c::u∧iX c=false:=by
 cases b
 · exact ⟨115,_,rfl,by decide⟩
 · exact ⟨112,_,rfl,by decide⟩
structure IY (f:Nat→Bool) (i:Nat) (L:List ak):Prop where
 lex:eG 0 (tx f i) L
 len:L.length=7+3*i
 pre: ∃ R,L.map strip= [(1,kU,0),(1,[99],0),(1,kY,0),(2,[50],2),(1,kV,0),(2,[50],2),(3,fq,0)]++R
 uA: ∀ e,e<i→strip (aa L (7+3*e))=(1,wd (f e),0)∧(aa L (7+3*e)).At=((tx f e).length:Int)∧strip (aa L (7+3*e+1))=(1,uz e,0)∧strip (aa L (7+3*e+2))=(3,fq,0)
theorem opened (f:Nat→Bool): ∀ i,i≤26→ ∃ L,IY f i L
 | 0,_=>by
  obtain ⟨L,h1,h2⟩:=(nw 20 (K:= [(1,kU,0),(1,[99],0),(1,kY,0),(2,[50],2),(1,kV,0),(2,[50],2),(3,fq,0)]) (by decide+kernel):Lx ym _) 0
  refine ⟨L,h1, ?_,⟨[],by rw [h2]; rfl⟩,fun e he=>by omega⟩
  have :=congrArg List.length h2
  simpa using this
 | i+1,hi=>by
  obtain ⟨L,h⟩:=opened f i (by omega)
  obtain ⟨M,h1,h2⟩:=(nw 6 (Hp (f i) i (by omega)).1) (0+(tx f i).length)
  have hM:M.length=3:=by have :=congrArg List.length h2; simpa using this
  obtain ⟨c,u,hs,hc⟩:=Rl (f i) i
  obtain ⟨t,M',e1,e2⟩:=Py hc (hs▸h1)
  have hl:=h.len
  refine ⟨L++M, ?_,by rw [List.length_append,hM,hl]; omega, ?_,fun e he=> ?_⟩
  · rw [Ia]
    exact h.lex.append h1 (yC fun x hx=>by rw [H_] at hx; cases hx; decide)
  · obtain ⟨R,hR⟩:=h.pre
    exact ⟨R++M.map strip,by rw [List.map_append,hR,List.append_assoc]⟩
  · by_cases qH:e<i
    · have :=h.uA e qH
      rw [rV (by omega),rV (by omega),rV (by omega)]
      exact this
    · obtain rfl:e=i:=by omega
      match M,hM with
      | [t0,t1,t2],_=>
       injection e1 with e1 e3
       subst e1
       simp only [List.map_cons,List.map_nil,List.cons.injEq,and_true] at h2
       have r0:aa (L++ [t0,t1,t2]) (7+3*e)=t0:=by have :=yJ (a:=L) (b:= [t0,t1,t2]) 0; rwa [hl] at this
       have r1:aa (L++ [t0,t1,t2]) (7+3*e+1)=t1:=by have :=yJ (a:=L) (b:= [t0,t1,t2]) 1; rwa [hl] at this
       have r2:aa (L++ [t0,t1,t2]) (7+3*e+2)=t2:=by have :=yJ (a:=L) (b:= [t0,t1,t2]) 2; rwa [hl] at this
       rw [r0,r1,r2]
       exact ⟨h2.1,by rw [e2]; omega,h2.2.1,h2.2.2⟩
theorem pz {t:ak} {k:Int} {s:List UInt8} {n:Int} (h:strip t=(k,s,n)) (hk:k=3∨k=1):aK t s=true:=by
 unfold strip at h
 injection h with h1 h2
 injection h2 with h2 h3
 exact decide_eq_true ⟨by rw [h1]; exact hk,h2⟩
theorem Gf {t:ak} {s:List UInt8} {n:Int} (h:strip t=(1,s,n)) (hs:fm s=false):lV t=true:=by
 unfold strip at h
 injection h with h1 h2
 injection h2 with h2 h3
 unfold lV
 rw [h2,hs,decide_eq_true h1]; rfl
theorem FM {t:ak} {k:Int} {s:List UInt8} {n:Int} (h:strip t=(k,s,n)):t.Kind=k:=by
 unfold strip at h
 injection h
theorem n3 {L:List ak} {K:List Tk} (h:L.map strip=K) {i:Nat} {x:Tk} (hx:K[i]? =some x):strip (aa L i)=x:=by
 subst h
 rw [List.getElem?_map] at hx
 unfold aa
 rw [List.getD_eq_getElem?_getD]
 cases hL:L[i]? with
 | none=>rw [hL] at hx; cases hx
 | some y=>rw [hL] at hx; exact Option.some.inj hx
theorem Lf (f:Nat→Bool) (n:Nat) (hn:n≤26): ∃ l,mS (tx f n++en n)=(l,⟨0,0⟩)∧l.length=9+4*n∧Head l n∧(12<n→(aa l 43).At=((tx f 12).length:Int)):=by
 obtain ⟨L,h⟩:=opened f n hn
 obtain ⟨E,h1,h2⟩:=D8 n (0+(tx f n).length)
 have hl:=h.len
 have hE:E.length=n+1:=by have :=congrArg List.length h2; simpa using this
 have hx:=yK f n
 have hy:=wI n
 have hall:=Gw (h.lex.append h1 (yC fun x hx=>by rw [H_] at hx; cases hx; decide)) (by rw [List.length_append]; omega)
 generalize ak.mk 4 (tx f n++en n).length (tx f n++en n).length [] 0=z at hall
 have eL: ∀ e,e<7+3*n→aa (L++E++ [z]) e=aa L e:=fun e he=>by rw [rV (by rw [List.length_append]; omega),rV (by omega)]
 have eE: ∀ e,e≤n→aa (L++E++ [z]) (7+3*n+e)=aa E e:=fun e he=>by rw [rV (by rw [List.length_append]; omega), ← hl,yJ]
 obtain ⟨R,hR⟩:=h.pre
 refine ⟨_,hall,by simp [hl,hE]; omega,⟨⟨by simp [hl,hE]; omega,by simp [hl,hE]; omega,fun e he=> ?_,fun e he=> ?_,fun e he=> ?_,fun e he=> ?_⟩, ?_, ?_, ?_, ?_, ?_, ?_, ?_⟩,fun hz=> ?_⟩
 · rw [eL _ (by omega)]
   have :=pz (h.uA e he).1 (.inr rfl)
   cases hb:f e with
   | true=>rw [hb] at this; exact .inr this
   | false=>rw [hb] at this; exact .inl this
 · rw [eL _ (by omega)]
   exact Gf (h.uA e he).2.2.1 (Hp true e (by omega)).2
 · rw [eL _ (by omega)]
   exact pz (h.uA e he).2.2.2 (.inl rfl)
 · rw [eE e he]
   exact pz (n3 h2 (by rw [List.getElem?_replicate,if_pos (by omega)])) (.inl rfl)
 · rw [eL _ (by omega)]; exact pz (n3 hR rfl) (.inr rfl)
 · rw [eL _ (by omega)]; exact Gf (n3 hR rfl) (by decide+kernel)
 · rw [eL _ (by omega)]; exact pz (n3 hR rfl) (.inr rfl)
 · rw [eL _ (by omega)]; exact FM (n3 hR rfl)
 · rw [eL _ (by omega)]; exact pz (n3 hR rfl) (.inr rfl)
 · rw [eL _ (by omega)]; exact FM (n3 hR rfl)
 · rw [eL _ (by omega)]; exact pz (n3 hR rfl) (.inl rfl)
 · rw [eL _ (by omega)]; exact (h.uA 12 hz).2.1
theorem Le (f:Nat→Bool) (n:Nat) (hn:n≤26): ∃ c F b,ij (tx f n++en n)=some (c,F,b)∧(12<n→F=⟨14,((tx f 12).length:Int)⟩)∧(n≤12→b=true):=by
 obtain ⟨l,h1,h2,h3,h4⟩:=Lf f n hn
 by_cases h:n≤12
 · obtain ⟨c,hc⟩:=Pr h3 h
   refine ⟨c,⟨0,0⟩,true, ?_,fun _=>by omega,fun _=>rfl⟩
   unfold ij
   rw [xh,h1,af]
   dsimp only
   rw [if_neg (by decide),hc,af]
   dsimp only
   rw [if_pos rfl,h2,dr (by omega) (by omega),decide_eq_true (by omega)]
 · obtain ⟨c,j,hc⟩:=Pp h3 (by omega)
   refine ⟨c,⟨14,(aa l 43).At⟩,false, ?_,fun hz=>by rw [h4 hz],fun _=>by omega⟩
   unfold ij
   rw [xh,h1,af]
   dsimp only
   rw [if_neg (by decide),hc,af]
   dsimp only
   rw [if_neg (by decide)]
end Go.Sy.Ex
namespace Go.Sy.Ex
open Go.Sy
def fK (kinds:List Int) (i:Nat):Bool:=decide ((kinds.getD i 0).tmod 2=1)
def oy (f:Nat→Bool) (i:Nat):Int:=if 12<i then ((tx f 12).length:Int) else 0
theorem OZ {x:Int} (h:0≤x):x.tmod 2=0∨x.tmod 2=1:=by
 rw [Int.tmod_eq_emod_of_nonneg h]; omega
theorem kD {kinds:List Int} (h: ∀ x ∈ kinds,0≤x) (i:Nat):0≤kinds.getD i 0:=by
 rw [List.getD_eq_getElem?_getD]
 cases hx:kinds[i]? with
 | none=>exact Int.le_refl 0
 | some y=>exact h y (List.mem_of_getElem? hx)
theorem QJ {kinds:List Int} (h: ∀ x ∈ kinds,0≤x) (i:Nat):gW.getD ((kinds.getD i 0).tmod 2).toNat []=wd (fK kinds i)∧0≤(kinds.getD i 0).tmod 2∧(kinds.getD i 0).tmod 2<(gW.length:Int):=by
 unfold fK
 rcases OZ (kD h i) with e | e <;> rw [e]
 · exact ⟨rfl,by decide,by decide⟩
 · exact ⟨rfl,by decide,by decide⟩
theorem DX {kinds:List Int} (h: ∀ x ∈ kinds,0≤x) (hn:kinds.length≤26): ∀ (z i k:Nat),i+z=kinds.length→
 nv (k+z+1) kinds (tx (fK kinds) i) (en i) (oy (fK kinds) i) (i:Int)=some true
 | 0,i,k,hi=>by
  have hl:=yK (fK kinds) i
  have he:=wI i
  obtain ⟨c,F,b,h1,h2,h3⟩:=Le (fK kinds) i (by omega)
  rw [nv.eq_2,if_neg (by omega),if_pos (by omega),h1,af]
  dsimp only
  by_cases h12:12<i
  · rw [if_pos (by omega),h2 h12,if_pos ⟨rfl,by rw [oy,if_pos h12]⟩,AW,af]
  · rw [if_neg (by omega),h3 (by omega),cond_true,AW,af]
 | z+1,i,k,hi=>by
  have hl:=yK (fK kinds) i
  have he:=wI i
  have hw:=Io (fK kinds i)
  obtain ⟨r1,r2,r3⟩:=QJ h i
  have hb:(bytesOf [jw (au (97+(i:Int)))]).length=1:=rfl
  have hs:gF.length=2:=rfl
  have eU:nY.length=2:=rfl
  have hr:cw.length=1:=rfl
  have ih:=DX h hn z (i+1) k (by omega)
  have c1:(0:Int)≤(i:Int):=by omega
  have c2:(i:Int)<(kinds.length:Int):=by omega
  have c3: ¬ (2:Int)=0:=by decide
  have c4:(tx (fK kinds) i).length+(wd (fK kinds i)).length≤9223372036854775807:=by omega
  have c5:(tx (fK kinds) i++wd (fK kinds i)).length+gF.length≤9223372036854775807:=by rw [List.length_append]; omega
  have c6:((tx (fK kinds) i++wd (fK kinds i))++gF).length+(bytesOf [jw (au (97+(i:Int)))]).length≤9223372036854775807:=by rw [List.length_append,List.length_append]; omega
  have c7:(((tx (fK kinds) i++wd (fK kinds i))++gF)++(bytesOf [jw (au (97+(i:Int)))])).length+nY.length≤9223372036854775807:=by rw [List.length_append,List.length_append,List.length_append]; omega
  have c8:cw.length+(en i).length≤9223372036854775807:=by omega
  have c9:au ((i:Int)+1)=((i+1:Nat):Int):=by rw [dr (by omega) (by omega)]; omega
  show nv (k+z+1+1) kinds _ _ _ _=_
  rw [nv.eq_2,if_pos c2]
  simp only [Int.toNat_natCast,r1]
  by_cases h12:(i:Int)=12
  · rw [if_pos h12,if_pos c1,if_pos c2,if_pos c3,if_pos r2,if_pos r3,if_pos c4,if_pos c5,if_pos c6,if_pos c7,if_pos c8,c9]
    have :i=12:=by omega
    rw [show oy (fK kinds) (i+1)=((tx (fK kinds) i).length:Int) from by rw [oy,if_pos (by omega),this]] at ih
    exact ih
  · rw [if_neg h12,if_pos c1,if_pos c2,if_pos c3,if_pos r2,if_pos r3,if_pos c4,if_pos c5,if_pos c6,if_pos c7,if_pos c8,c9]
    rw [show oy (fK kinds) (i+1)=oy (fK kinds) i from by unfold oy; by_cases h:12<i; (rw [if_pos h,if_pos (by omega)]); (rw [if_neg h,if_neg (by omega)])] at ih
    exact ih
theorem Lg {kinds:List Int} (h: ∀ x ∈ kinds,0≤x):AX kinds=some true:=cX (kinds.length+1) fun k hk=>by
 show xm k kinds=_
 unfold xm
 by_cases EN:26<(kinds.length:Int)
 · rw [if_pos EN,AW,af]
 · rw [if_neg EN]
   have :=DX h (by omega) kinds.length 0 (k - kinds.length - 1) (by omega)
   rwa [show k - kinds.length - 1+kinds.length+1=k from by omega] at this
end Go.Sy.Ex
