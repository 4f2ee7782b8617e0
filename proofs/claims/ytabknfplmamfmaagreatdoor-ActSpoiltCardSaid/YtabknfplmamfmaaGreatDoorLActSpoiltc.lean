import Derived.Test.YtabknfplmamfmaaGreatDoorLActSpoiltb
set_option linter.unusedVariables false
set_option linter.unusedSimpArgs false
namespace Go.Sy.Ex
open Go.Sy
def B.small:B→Prop
 | .nil=>True
 | .cons h th el rest=>(gG h.x).length≤3000∧th.small∧el.small∧rest.small
theorem WB {h:H} {th el:B} (hok:h.ok th el) (hx:(gG h.x).length≤3000) (st se:List UInt8) (n:Bool):(bQ h st se n).length≤3102+st.length+se.length:=by
 have hw:(wX h.x).length≤3002:=by
  cases bF:h.x with
  | none=>exact Nat.zero_le _
  | some t=>rw [bF] at hx; have hx:(pr t 1).length≤3000:=hx; simp [wX]; omega
 obtain ⟨_,hk⟩:=hok
 rcases hk with ⟨k,a,b,_⟩ | ⟨k,a,b,_⟩ | ⟨k,a,b,_⟩ | ⟨k,a,b,_⟩ | ⟨k,a,b,_⟩ | ⟨k,a,b,_⟩ | ⟨k,a,b,c,d,e,_⟩
 · have :=(eX a).2.1; unfold bQ; rw [k]; simp; omega
 · have :=(eX b).2.1; unfold bQ; rw [k]; simp; omega
 · have :=(eX a).2.1; have :=(eX b).2.1; unfold bQ; rw [k]; simp; omega
 · have :=(eX a).2.1; unfold bQ; rw [k]; simp; omega
 · have :=(eX a).2.1; unfold bQ; rw [k]; simp; omega
 · unfold bQ; rw [k]; cases n <;> simp <;> omega
 · have :=LB d e; unfold bQ; rw [k]; simp; omega
theorem yf: ∀ (b:B) (d:Nat),b.ok→b.small→(eE b d).length≤b.sz*(6*(d+b.sz)+3500)
 | .nil,d,_,_=>Nat.zero_le _
 | .cons h th el rest,d,⟨hok,lP,pq,og⟩,⟨hx,ZD,ZB,ZC⟩=>by
  have h1:=yf th (d+1) lP ZD
  have h2:=yf el (d+1) pq ZB
  have h3:=yf rest d og ZC
  have gw: ∀ n,(rep n).length=2*n:=fun n=>by unfold rep; rw [Lib.repeatL_length]; simp; omega
  have mQ: ∀ (b:B) (s:List UInt8),(blk b s d).length≤s.length+2*d+3:=fun b s=>by
   unfold blk
   cases b.isNil with
   | true=>simp
   | false=>simp [gw]; omega
  have hA:=WB hok hx (blk th (eE th (d+1)) d) (blk el (eE el (d+1)) d) el.isNil
  have gr:=mQ th (eE th (d+1))
  have iG:=mQ el (eE el (d+1))
  simp only [eE,B.sz,List.length_append,gw,List.length_cons,List.length_nil]
  have m1:th.sz*(6*(d+1+th.sz)+3500)≤th.sz*(6*(d+(th.sz+el.sz+rest.sz+1))+3500):=Nat.mul_le_mul_left _ (by omega)
  have m2:el.sz*(6*(d+1+el.sz)+3500)≤el.sz*(6*(d+(th.sz+el.sz+rest.sz+1))+3500):=Nat.mul_le_mul_left _ (by omega)
  have m3:rest.sz*(6*(d+rest.sz)+3500)≤rest.sz*(6*(d+(th.sz+el.sz+rest.sz+1))+3500):=Nat.mul_le_mul_left _ (by omega)
  have e:(th.sz+el.sz+rest.sz+1)*(6*(d+(th.sz+el.sz+rest.sz+1))+3500)=th.sz*(6*(d+(th.sz+el.sz+rest.sz+1))+3500)+el.sz*(6*(d+(th.sz+el.sz+rest.sz+1))+3500)+rest.sz*(6*(d+(th.sz+el.sz+rest.sz+1))+3500)+(6*(d+(th.sz+el.sz+rest.sz+1))+3500):=by
   rw [Nat.add_mul,Nat.add_mul,Nat.add_mul,Nat.one_mul]
  rw [e]
  omega
theorem WC {b:B} {d:Nat} (hok:b.ok) (hs:b.small) (hd:d≤200) (hz:b.sz≤600000):(cI b d).length≤140737488355328:=by
 have h1:=yf b (d+1) hok hs
 have h2:b.sz*(6*(d+1+b.sz)+3500)≤600000*4000000:=Nat.mul_le_mul hz (by omega)
 have gw:(rep d).length=2*d:=by unfold rep; rw [Lib.repeatL_length]; simp; omega
 unfold cI blk
 cases b.isNil with
 | true=>simp
 | false=>simp [gw]; omega
end Go.Sy.Ex
namespace Go.Sy.Ex
open Go.Sy
abbrev s0:aV:=aV.mk [N3,N5] [NW] [N0] [NU]
theorem RJ (L:List Int) (hL:L.length≤1000000) (i:Nat) (hi:i≤L.length): ∃ e i' t,Cc (a_.mk L (i:Int)) s0 2=some (e,a_.mk L ((i':Nat):Int))∧i'≤L.length∧Is t e∧t.ok∧bC t 1≤12∧(pr t 1).length≤300:=by
 obtain ⟨e,i',t,he,h4,h5,h6,h7,h8⟩:=SB L hL s0 (by decide+kernel) (by decide) (by decide+kernel) (by decide) 2 (by decide) i hi
 have h:=(VW t 1 h6 (by decide)).1
 have hb:=yg t 1 h6
 have h8:t.sz≤7:=h8
 exact ⟨e,i',t,b6 12 he,h4,h5,h6,by omega,by omega⟩
theorem J0 {r:Int} (h0:0≤r) (h8:r<8): ∃ s,qM r=some s∧cY s=true:=by
 have :r=0∨r=1∨r=2∨r=3∨r=4∨r=5∨r=6∨r=7:=by omega
 have hp:kY r 8=some r:=by
  unfold kY
  rw [if_pos (by decide),if_neg (by rw [Int.tmod_eq_of_lt h0 h8]; omega),Int.tmod_eq_of_lt h0 h8]
 unfold qM
 rw [hp,aa,if_pos h0,if_pos (by show r<((8:Nat):Int); omega)]
 rcases this with rfl | rfl | rfl | rfl | rfl | rfl | rfl | rfl <;> exact ⟨_,rfl,by decide+kernel⟩
theorem JB {e:ai} {t:T} (hi:Is t e) (hx:t.ok∧bC t 1≤12) {r:Int} (h0:0≤r) (h2:r<2): ∃ x,tQ x (cut [e] 0 r)∧zm x∧(gG x).length≤(pr t 1).length:=by
 have :r=0∨r=1:=by omega
 rcases this with rfl | rfl
 · exact ⟨none,rfl,trivial,Nat.zero_le _⟩
 · exact ⟨some t,⟨e,rfl,hi⟩,hx,Nat.le_refl _⟩
def Step (L:List Int) (d:Nat) (S K:Nat) (i n:Nat) (out:List ah):Prop:=
 (∃ a h th j,tP h th .nil a∧h.ok th .nil∧th.ok∧(if h.kind=6∨h.kind=7 then th.dp+1 else 1)≤d+1∧th.sz≤S∧(gG h.x).length≤300∧th.small∧j≤L.length∧ ∀ k,K≤k→ ∀ k',aQ (jQ k) (k'+1) L (i:Int) (d:Int) s0.Vars s0.gO s0.gE s0.eV out ((n+1:Nat):Int)=aQ (jQ k) k' L ((j:Nat):Int) (d:Int) s0.Vars s0.gO s0.gE s0.eV (out++ [a]) (n:Int))∨
 (∃ j,j≤L.length∧ ∀ k,K≤k→ ∀ k',aQ (jQ k) (k'+1) L (i:Int) (d:Int) s0.Vars s0.gO s0.gE s0.eV out ((n+1:Nat):Int)=aQ (jQ k) k' L ((j:Nat):Int) (d:Int) s0.Vars s0.gO s0.gE s0.eV out (n:Int))
theorem VY (r:Int) (h0:0≤r) (h3:r<3):(gG (some (.num (1+r)))).length≤300:=by
 have :=yg (.num (1+r)) 1 ⟨by omega,by omega⟩
 simp only [T.sz] at this
 show (pr (.num (1+r)) 1).length≤300
 omega
theorem step_ok (L:List Int) (hL:L.length≤1000000) (d:Nat) (hd:d≤100) (S K:Nat) (hS:1≤S) (self:0<d→ ∀ i,i≤L.length→ ∃ l i' b,(∀ k,K≤k→jQ k (a_.mk L (i:Int)) s0 ((d - 1:Nat):Int)=some (l,a_.mk L ((i':Nat):Int)))∧i'≤L.length∧eZ b l∧b.ok∧b.dp≤d∧b.sz≤S∧b.small)
 (i n:Nat) (hi:i≤L.length) (hn:n≤10) (out:List ah) (ho:out.length≤100):Step L d S K i n out:=by
 obtain ⟨q,i1,hq,q0,fm,hi1⟩:=kq hi hL (n:=10) (by decide) (by decide)
 obtain ⟨e,i2,t,he,hi2,ht,hto,Ft,nX⟩:=RJ L hL i1 hi1
 have hw:ag (((n+1:Nat):Int) - 1)=(n:Int):=by rw [bl (by omega) (by omega)]; omega
 have hg: ∀ a:ah,(out.length+ [a].length)*128≤140737488355328:=fun a=>by simp only [List.length_singleton]; omega
 have hsc: ∀ s:aV,aV.mk s.Vars s.gO s.gE s.eV=s:=fun s=>by cases s; rfl
 have start: ∀ (self':a_→aV→Int→Option (List ah×a_)) (k':Nat) (x:Option (List ah×a_)),True:=fun _ _ _=>trivial
 by_cases c3:q<3
 · obtain ⟨v,j,hp,hv,hj⟩:=uX hi2 hL (l:=s0.Vars) (by simp) (by simp)
   have sM:cY v=true:=by
    simp only [List.mem_cons,List.not_mem_nil,or_false] at hv
    rcases hv with rfl | rfl <;> decide+kernel
   refine .inl ⟨ah.mk 1 v [] [e] 0 [] [] 0,⟨1,v,[],some t,0⟩, .nil,j,⟨rfl,rfl,rfl,⟨e,rfl,ht⟩,rfl,rfl,rfl⟩,⟨⟨hto,Ft⟩, .inl ⟨rfl,sM,rfl,by simp,rfl,rfl,rfl⟩⟩,trivial,by simp,hS,nX,trivial,hj,fun k hk k'=> ?_⟩
   conv=>lhs; rw [aQ.eq_2]
   rw [if_pos (by omega),hq,aa,hsc,he,aa]
   dsimp only
   rw [if_pos c3,if_pos (by decide),hp,aa,if_pos (hg _),hw]
 by_cases c4:q=3
 · obtain ⟨r5,j5,xF,ox,qK,xq⟩:=kq hi2 hL (n:=8) (by decide) (by decide)
   obtain ⟨ev,hev,E6⟩:=J0 ox qK
   obtain ⟨r7,j7,Fo,lT,vb,Fc⟩:=kq xq hL (n:=2) (by decide) (by decide)
   obtain ⟨x,hX,hx,hxl⟩:=JB ht ⟨hto,Ft⟩ lT vb
   refine .inl ⟨ah.mk 2 [] ev (cut [e] 0 r7) 0 [] [] 0,⟨2,[],ev,x,0⟩, .nil,j7,⟨rfl,rfl,rfl,hX,rfl,rfl,rfl⟩,⟨hx, .inr (.inl ⟨rfl,rfl,E6,rfl,rfl,rfl⟩)⟩,trivial,by simp,hS,Nat.le_trans hxl nX,trivial,Fc,fun k hk k'=> ?_⟩
   conv=>lhs; rw [aQ.eq_2]
   rw [if_pos (by omega),hq,aa,hsc,he,aa]
   dsimp only
   rw [if_neg c3,if_pos c4,xF,aa,hev,aa,Fo,aa]
   dsimp only
   rw [if_pos lT,if_pos (by simp only [List.length_singleton]; omega),if_pos (hg _),hw]
 by_cases c7:q<7
 · obtain ⟨v,j,hp,hv,hj⟩:=uX hi2 hL (l:=s0.gO) (by simp) (by simp)
   have sM:cY v=true:=by
    simp only [List.mem_cons,List.not_mem_nil,or_false] at hv
    subst hv; decide+kernel
   obtain ⟨r5,j5,xF,ox,qK,xq⟩:=kq hj hL (n:=3) (by decide) (by decide)
   obtain ⟨ev,hev,E6⟩:=J0 ox (by omega)
   obtain ⟨r7,j7,Fo,lT,vb,Fc⟩:=kq xq hL (n:=2) (by decide) (by decide)
   obtain ⟨x,hX,hx,hxl⟩:=JB ht ⟨hto,Ft⟩ lT vb
   refine .inl ⟨ah.mk 3 v ev (cut [e] 0 r7) 0 [] [] 0,⟨3,v,ev,x,0⟩, .nil,j7,⟨rfl,rfl,rfl,hX,rfl,rfl,rfl⟩,⟨hx, .inr (.inr (.inl ⟨rfl,sM,E6,rfl,rfl,rfl⟩))⟩,trivial,by simp,hS,Nat.le_trans hxl nX,trivial,Fc,fun k hk k'=> ?_⟩
   conv=>lhs; rw [aQ.eq_2]
   rw [if_pos (by omega),hq,aa,hsc,he,aa]
   dsimp only
   rw [if_neg c3,if_neg c4,if_pos c7,if_pos (by decide),hp,aa,xF,aa]
   dsimp only
   rw [hev,aa,Fo,aa]
   dsimp only
   rw [if_pos lT,if_pos (by simp only [List.length_singleton]; omega),if_pos (hg _),hw]
 by_cases c8:q=7
 · obtain ⟨v,j,hp,hv,hj⟩:=uX hi2 hL (l:=s0.gE) (by simp) (by simp)
   have sM:cY v=true:=by
    simp only [List.mem_cons,List.not_mem_nil,or_false] at hv
    subst hv; decide+kernel
   obtain ⟨r5,j5,xF,ox,qK,xq⟩:=kq hj hL (n:=3) (by decide) (by decide)
   refine .inl ⟨ah.mk 4 v [] [ai.mk 1 (1+r5) [] [] 0] 0 [] [] 0,⟨4,v,[],some (.num (1+r5)),0⟩, .nil,j5,⟨rfl,rfl,rfl,⟨_,rfl,⟨rfl,rfl,rfl,rfl⟩⟩,rfl,rfl,rfl⟩,⟨⟨⟨by omega,by omega⟩,by simp [bC,qH]⟩, .inr (.inr (.inr (.inl ⟨rfl,sM,rfl,by simp,rfl,rfl,rfl⟩)))⟩,trivial,by simp,hS,VY r5 ox qK,trivial,xq,fun k hk k'=> ?_⟩
   conv=>lhs; rw [aQ.eq_2]
   rw [if_pos (by omega),hq,aa,hsc,he,aa]
   dsimp only
   rw [if_neg c3,if_neg c4,if_neg c7,if_pos c8,if_pos (by decide),hp,aa,xF,aa,if_pos (hg _),hw]
   dsimp only
   rw [bl (n:=1+r5) (by omega) (by omega)]
 by_cases c9:q=8
 · obtain ⟨v,j,hp,hv,hj⟩:=uX hi2 hL (l:=s0.gE) (by simp) (by simp)
   have sM:cY v=true:=by
    simp only [List.mem_cons,List.not_mem_nil,or_false] at hv
    subst hv; decide+kernel
   refine .inl ⟨ah.mk 5 v [] [] 0 [] [] 0,⟨5,v,[],none,0⟩, .nil,j,⟨rfl,rfl,rfl,rfl,rfl,rfl,rfl⟩,⟨trivial, .inr (.inr (.inr (.inr (.inl ⟨rfl,sM,rfl,rfl,rfl,rfl,rfl⟩))))⟩,trivial,by simp,hS,Nat.zero_le _,trivial,hj,fun k hk k'=> ?_⟩
   conv=>lhs; rw [aQ.eq_2]
   rw [if_pos (by omega),hq,aa,hsc,he,aa]
   dsimp only
   rw [if_neg c3,if_neg c4,if_neg c7,if_neg c8,if_pos c9,if_pos (by decide),hp,aa,if_pos (hg _),hw]
 have T8:q=9:=by omega
 by_cases hd0:0<d
 · obtain ⟨r,j,hr,r0,r4,hj⟩:=kq hi2 hL (n:=4) (by decide) (by decide)
   obtain ⟨l,j2,b,hb,hj2,hib,mR,hbd,EZ,Ap⟩:=self hd0 j hj
   refine .inl ⟨ah.mk 7 [] [] [] (1+r) l [] 0,⟨7,[],[],none,1+r⟩,b,j2,⟨rfl,rfl,rfl,rfl,rfl,hib,rfl⟩,⟨trivial, .inr (.inr (.inr (.inr (.inr (.inr ⟨rfl,rfl,rfl,rfl,by show (0:Int)≤1+r; omega,by show 1+r≤(9223372036854775807:Int); omega,rfl⟩)))))⟩,mR,by simp; omega,EZ,Nat.zero_le _,Ap,hj2,fun k hk k'=> ?_⟩
   conv=>lhs; rw [aQ.eq_2]
   rw [if_pos (by omega),hq,aa,hsc,he,aa]
   dsimp only
   rw [if_neg c3,if_neg c4,if_neg c7,if_neg c8,if_neg c9,if_pos (by omega),if_pos (by decide),if_neg (by rw [T8]; decide),if_pos (by omega),hr,aa]
   dsimp only
   rw [show ag ((d:Int) - 1)=((d - 1:Nat):Int) from by rw [bl (by omega) (by omega)]; omega,hb k hk,aa,if_pos (hg _),hw]
   dsimp only
   rw [bl (n:=1+r) (by omega) (by omega)]
 · refine .inr ⟨i2,hi2,fun k hk k'=> ?_⟩
   conv=>lhs; rw [aQ.eq_2]
   rw [if_pos (by omega),hq,aa,hsc,he,aa]
   dsimp only
   rw [if_neg c3,if_neg c4,if_neg c7,if_neg c8,if_neg c9,if_neg (by omega),if_neg (by omega),hw]
theorem VA (L:List Int) (hL:L.length≤1000000) (d:Nat) (hd:d≤100) (S K:Nat) (hS:1≤S) (self:0<d→ ∀ i,i≤L.length→ ∃ l i' b,(∀ k,K≤k→jQ k (a_.mk L (i:Int)) s0 ((d - 1:Nat):Int)=some (l,a_.mk L ((i':Nat):Int)))∧i'≤L.length∧eZ b l∧b.ok∧b.dp≤d∧b.sz≤S∧b.small):
 ∀ (n:Nat) (i:Nat) (out:List ah),n≤10→i≤L.length→out.length+n≤100→ ∃ l i' b,(∀ k,K≤k→ ∀ k',n+1≤k'→aQ (jQ k) k' L (i:Int) (d:Int) s0.Vars s0.gO s0.gE s0.eV out (n:Int)=some (out++l,a_.mk L ((i':Nat):Int)))∧i'≤L.length∧eZ b l∧b.ok∧b.dp≤d+1∧b.sz≤n*(S+2)+1∧b.small:=by
 intro n
 induction n with
 | zero=>
  intro i out _ hi _
  refine ⟨[],i, .nil,fun k hk k' hk'=> ?_,hi,rfl,trivial,by simp only [B.dp]; omega,by simp only [B.sz]; omega,trivial⟩
  obtain ⟨k',rfl⟩: ∃ j,k'=j+1:=⟨k' - 1,by omega⟩
  rw [aQ.eq_2,if_neg (by decide),List.append_nil]
 | succ n ih=>
  intro i out hn hi ho
  have hm:(n+1)*(S+2)=n*(S+2)+(S+2):=Nat.succ_mul _ _
  rcases step_ok L hL d hd S K hS self i n hi (by omega) out (by omega) with ⟨a,h,th,j,ha,hok,lP,hdp,hsz,hxl,Lq,hj,hr⟩ | ⟨j,hj,hr⟩
  · obtain ⟨l,i',b,hb,h1,h2,h3,h4,h5,h6⟩:=ih j (out++ [a]) (by omega) hj (by rw [List.length_append,List.length_singleton]; omega)
    refine ⟨a::l,i', .cons h th .nil b,fun k hk k' hk'=> ?_,h1,⟨a,l,rfl,ha.1,ha.2.1,ha.2.2.1,ha.2.2.2.1,ha.2.2.2.2.1,ha.2.2.2.2.2.1,ha.2.2.2.2.2.2,h2⟩,⟨hok,lP,trivial,h3⟩, ?_, ?_,⟨by omega,Lq,trivial,h6⟩⟩
    · obtain ⟨k',rfl⟩: ∃ j,k'=j+1:=⟨k' - 1,by omega⟩
      rw [hr k hk k',hb k hk k' (by omega),show out++a::l=(out++ [a])++l from by simp]
    · simp only [B.dp,B.isNil,cond_true]; omega
    · simp only [B.sz]; omega
  · obtain ⟨l,i',b,hb,h1,h2,h3,h4,h5,h6⟩:=ih j out (by omega) hj (by omega)
    refine ⟨l,i',b,fun k hk k' hk'=> ?_,h1,h2,h3,h4,by omega,h6⟩
    obtain ⟨k',rfl⟩: ∃ j,k'=j+1:=⟨k' - 1,by omega⟩
    rw [hr k hk k',hb k hk k' (by omega)]
theorem QO (L:List Int) (hL:L.length≤1000000): ∀ (d:Nat),d≤10→ ∀ i:Nat,i≤L.length→ ∃ l i' b,(∀ k,6*d+6≤k→jQ k (a_.mk L (i:Int)) s0 (d:Int)=some (l,a_.mk L ((i':Nat):Int)))∧i'≤L.length∧eZ b l∧b.ok∧b.dp≤d+1∧b.sz+5≤12*2 ^ d∧b.small:=by
 have fin: ∀ (d:Nat) (S K:Nat),1≤S→d≤10→(0<d→ ∀ i,i≤L.length→ ∃ l i' b,(∀ k,K≤k→jQ k (a_.mk L (i:Int)) s0 ((d - 1:Nat):Int)=some (l,a_.mk L ((i':Nat):Int)))∧i'≤L.length∧eZ b l∧b.ok∧b.dp≤d∧b.sz≤S∧b.small)→
  ∀ i:Nat,i≤L.length→ ∃ l i' b,(∀ k,K+6≤k→jQ k (a_.mk L (i:Int)) s0 (d:Int)=some (l,a_.mk L ((i':Nat):Int)))∧i'≤L.length∧eZ b l∧b.ok∧b.dp≤d+1∧b.sz≤2*(S+2)+1∧b.small:=fun d S K hS hd self i hi=>by
  obtain ⟨r,i1,hr,r0,r3,hi1⟩:=kq hi hL (n:=3) (by decide) (by decide)
  obtain ⟨n,rfl⟩: ∃ n:Nat,r=(n:Int):=⟨r.toNat,by omega⟩
  obtain ⟨l,i',b,hb,h1,h2,h3,h4,h5,h6⟩:=VA L hL d (by omega) S K hS self n i1 [] (by omega) hi1 (by simp; omega)
  have hm:n*(S+2)≤2*(S+2):=Nat.mul_le_mul_right _ (by omega)
  refine ⟨l,i',b,fun k hk=> ?_,h1,h2,h3,h4,by omega,h6⟩
  obtain ⟨k,rfl⟩: ∃ j,k=j+1:=⟨k - 1,by omega⟩
  show Ca (jQ k) k _ s0 _=_
  unfold Ca
  rw [hr,aa]
  have :=hb k (by omega) k (by omega)
  rw [List.nil_append] at this
  exact this
 intro d
 induction d with
 | zero=>
  intro hd i hi
  obtain ⟨l,i',b,h0,h1,h2,h3,h4,h5,h6⟩:=fin 0 1 0 (Nat.le_refl _) (by decide) (fun h=>absurd h (by decide)) i hi
  exact ⟨l,i',b,h0,h1,h2,h3,h4,by omega,h6⟩
 | succ d ih=>
  intro hd i hi
  have hp:2 ^ (d+1)=2*2 ^ d:=by rw [Nat.pow_succ,Nat.mul_comm]
  have TZ:1≤2 ^ d:=Nat.one_le_two_pow
  obtain ⟨l,i',b,h0,h1,h2,h3,h4,h5,h6⟩:=fin (d+1) (12*2 ^ d - 5) (6*d+6) (by omega) hd (fun _ j hj=>by
   obtain ⟨l,i',b,g0,g1,g2,g3,g4,g5,g6⟩:=ih (by omega) j hj
   exact ⟨l,i',b,g0,g1,g2,g3,g4,by omega,g6⟩) i hi
  exact ⟨l,i',b,fun k hk=>h0 k (by omega),h1,h2,h3,h4,by omega,h6⟩
end Go.Sy.Ex
namespace Go.Sy.Ex
open Go.Sy
theorem Mq {r n d:Int} (h0:0≤r) (h1:r<1099511627776) (hd:1≤d) (hn:0<n):0≤(ag (r.tdiv d)).tmod n∧(ag (r.tdiv d)).tmod n<n:=by
 have a0:0≤r.tdiv d:=Int.tdiv_nonneg h0 (by omega)
 have a1:r.tdiv d≤r:=by rw [Int.tdiv_eq_ediv_of_nonneg h0]; exact Int.ediv_le_self d h0
 rw [bl (by omega) (by omega)]
 exact ⟨Int.tmod_nonneg _ a0,Int.tmod_lt_of_pos _ hn⟩
theorem ZF (s:List UInt8) (v:Int) (hl:s.length≤1000000000): ∃ t,yJ s v=some t∧t.length≤s.length+1:=by
 unfold yJ
 obtain ⟨r,hr,h0,h1⟩:=Wx (v:=v) (n:=1099511627776) (by omega) (by omega)
 rw [hr,aa,if_pos (by decide)]
 by_cases c1:r.tmod 3=0
 · rw [if_pos c1]; exact ⟨_,rfl,by omega⟩
 rw [if_neg c1]
 by_cases c2:(s.length:Int)=0
 · rw [if_pos c2]; exact ⟨_,rfl,by omega⟩
 rw [if_neg c2]
 have hx:(dU.length:Int)=25:=by decide
 rw [hx]
 obtain ⟨p0,p1⟩:=Mq (n:=25) (d:=30000) h0 h1 (by decide) (by decide)
 obtain ⟨q0,q1⟩:=Mq (n:=(s.length:Int)) (d:=3) h0 h1 (by decide) (by omega)
 generalize (ag (r.tdiv 30000)).tmod 25=p at p0 p1 ⊢
 generalize (ag (r.tdiv 3)).tmod (s.length:Int)=q at q0 q1 ⊢
 have wp:ag (p+1)=p+1:=bl (by omega) (by omega)
 have wq:ag (q+1)=q+1:=bl (by omega) (by omega)
 rw [wp,wq]
 have l1:(cut s 0 q).length=q.toNat:=by unfold cut; simp; omega
 have l2:(cut dU p (p+1)).length=1:=by unfold cut; simp; omega
 have l3:(cutFrom s (q+1)).length=s.length - (q+1).toNat:=by unfold cutFrom; simp
 have l4:(cutFrom s q).length=s.length - q.toNat:=by unfold cutFrom; simp
 generalize cut dU p (p+1)=y at l2 ⊢
 simp only [List.length_append,l1,l2,l3,l4]
 repeat rw [if_pos (by omega)]
 split
 · repeat rw [if_pos (by omega)]
   exact ⟨_,rfl,by simp only [List.length_append,l1,l2,l3,l4]; omega⟩
 split
 · repeat rw [if_pos (by omega)]
   exact ⟨_,rfl,by simp only [List.length_append,l1,l2,l3,l4]; omega⟩
 · repeat rw [if_pos (by omega)]
   exact ⟨_,rfl,by simp only [List.length_append,l1,l2,l3,l4]; omega⟩
theorem QI (v:List Int) (k:Int):AO v k=some true:=by
 unfold AO
 by_cases Kz:150<(v.length:Int)
 · rw [if_pos Kz,FP,aa]
 rw [if_neg Kz,show AV=some s0 from rfl,aa]
 obtain ⟨l,i',b,hb,_,hib,mR,hbd,EZ,Ap⟩:=QO v (by omega) 3 (by decide) 0 (Nat.zero_le _)
 have hz:b.sz≤91:=by have :b.sz+5≤96:=EZ; omega
 rw [show B_ (a_.mk v 0) s0 3=some (l,a_.mk v ((i':Nat):Int)) from b6 24 hb,aa]
 dsimp only
 have hl0:=WC (d:=0) mR Ap (by omega) (by omega)
 rw [YQ hib mR 0 (by omega) hl0 0 (by rfl),aa]
 obtain ⟨t,ht,nX⟩:=ZF (cI b 0) k (by
  have h1:=yf b 1 mR Ap
  have h2:b.sz*(6*(1+b.sz)+3500)≤200*10000:=Nat.mul_le_mul (by omega) (by omega)
  have gw:(rep 0).length=0:=rfl
  unfold cI blk
  cases b.isNil with
  | true=>simp
  | false=>simp [gw]; omega)
 rw [ht,aa,WO,aa]
 by_cases hc:(iY t).2.Code≠0
 · rw [if_pos hc,FP,aa]
 rw [if_neg hc]
 obtain ⟨H,h0⟩:=Qn (Classical.not_not.1 hc)
 obtain ⟨e,j,f,he,hf,n,hn⟩:=Qv H (i:=0) (by omega)
 rw [show ((0:Nat):Int)=0 from rfl] at he hf
 rw [he,aa,hf,aa]
 dsimp only
 rw [if_pos rfl,if_pos ⟨rfl,rfl⟩,show AS e e=some true from b6 (n+100002) fun k hk=>xU n e hn k hk,aa,cond_true,FP,aa]
end Go.Sy.Ex
