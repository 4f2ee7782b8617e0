import Derived.Lib.ItoaMem
import Derived.Lib.ParseIntB
import Derived.Test.YtogpgblanenleaaGreatDoorLSysReadsa
set_option linter.unusedVariables false
set_option linter.unusedSimpArgs false
namespace Go.Sy.Ex
open Go.Sy
abbrev Tk:=Int×List UInt8×Int
def strip (t:ai):Tk:=(t.Kind,t.Text,t.N)
def oW (b:UInt8):Bool:=decide (b=32∨b=9∨b=10∨b=13)
def ja (u:List UInt8):List UInt8:=u.dropWhile oW
def sN:List UInt8→Option (Tk×Nat)
 | []=>none
 | b::u=>if dg b then
  (let r:=o8 ((b::u).takeWhile dg)
   if r.2≠0 then none else some ((2,(b::u).takeWhile dg,r.1),((b::u).takeWhile dg).length))
  else if lt b then (if 24<((b::u).takeWhile nm).length then none else some ((1,(b::u).takeWhile nm,0),((b::u).takeWhile nm).length))
  else if eO (b::u)=0 then none
  else some ((3,(b::u).take (eO (b::u)),0),eO (b::u))
theorem xu (b : UInt8) (u : List UInt8) : sN (b :: u) = if dg b then
      (let r:=o8 ((b::u).takeWhile dg)
       if r.2≠0 then none else some ((2,(b::u).takeWhile dg,r.1),((b::u).takeWhile dg).length))
 else if lt b then (if 24<((b::u).takeWhile nm).length then none else some ((1,(b::u).takeWhile nm,0),((b::u).takeWhile nm).length))
 else if eO (b::u)=0 then none
 else some ((3,(b::u).take (eO (b::u)),0),eO (b::u)):=rfl
inductive iP:Nat→List UInt8→List ai→Prop
 | nil {n:Nat} {u:List UInt8} :ja u= []→iP n u []
 | cons {n:Nat} {u v:List UInt8} {tk:Tk} {m:Nat} {L:List ai} :ja u=v→v≠ []→sN v=some (tk,m)→
  iP (n+(u.length - v.length)+m) (v.drop m) L→iP n u (⟨tk.1,(n+(u.length - v.length):Nat),(n+(u.length - v.length)+m:Nat),tk.2.1,tk.2.2⟩::L)
theorem Xs (t:List UInt8) (n:Nat) (h:n<t.length):sN (t.drop n)=if (ff t n).2≠0 then none else some (strip (ff t n).1,((ff t n).1.End - n).toNat):=by
 have hd:t.drop n=t[n]::t.drop (n+1):=List.drop_eq_getElem_cons h
 unfold ff
 rw [cz _ h]
 conv=>lhs; rw [hd]
 rw [xu, ← hd]
 by_cases hD:dg t[n]=true
 · rw [if_pos hD,if_pos hD]
   simp only []
   by_cases hz:(o8 ((t.drop n).takeWhile dg)).2≠0
   · simp only [hz,ne_eq,not_false_eq_true,if_true]
   · simp only [hz,if_false,strip,ne_eq,not_true_eq_false]
     congr 2
     unfold ep
     omega
 · rw [if_neg hD,if_neg hD]
   by_cases hL:lt t[n]=true
   · rw [if_pos hL,if_pos hL]
     unfold ep
     by_cases nR:24<((t.drop n).takeWhile nm).length
     · have :n+24<n+((t.drop n).takeWhile nm).length:=by omega
       simp only [nR,this,if_true,ne_eq]
       rw [if_pos (by decide)]
     · have : ¬ n+24<n+((t.drop n).takeWhile nm).length:=by omega
       simp only [nR,this,if_false,ne_eq,not_true_eq_false,strip]
       congr 2
       omega
   · rw [if_neg hL,if_neg hL]
     by_cases hs:eO (t.drop n)=0
     · simp only [hs,if_true,ne_eq]
       rw [if_pos (by decide)]
     · simp only [hs,if_false,ne_eq,not_true_eq_false,strip]
       congr 2
       omega
theorem Xr {v:List UInt8} {tk:Tk} {m:Nat} (h:sN v=some (tk,m)):1≤m∧m≤v.length:=by
 cases v with
 | nil=>cases h
 | cons b u=>
  rw [xu] at h
  by_cases hD:dg b=true
  · rw [if_pos hD] at h
    simp only [] at h
    split at h
    · cases h
    · cases h
      have :=zq dg (b::u)
      rw [List.takeWhile_cons_of_pos hD] at this ⊢
      exact ⟨by simp,this⟩
  · rw [if_neg hD] at h
    by_cases hL:lt b=true
    · rw [if_pos hL] at h
      split at h
      · cases h
      · cases h
        have :=zq nm (b::u)
        rw [List.takeWhile_cons_of_pos (by simp [nm,hL])] at this ⊢
        exact ⟨by simp,this⟩
    · rw [if_neg hL] at h
      split at h
      · cases h
      · rename_i hs
        cases h
        exact ⟨by omega,y4 _⟩
theorem Fb (u:List UInt8): ∃ p,u=p++ja u∧p.all oW=true:=by
 induction u with
 | nil=>exact ⟨[],rfl,rfl⟩
 | cons b u ih=>
  unfold ja
  by_cases hb:oW b=true
  · rw [List.dropWhile_cons_of_pos hb]
    obtain ⟨p,h1,h2⟩:=ih
    exact ⟨b::p,by rw [List.cons_append]; congr 1,by simp [hb,h2]⟩
  · rw [List.dropWhile_cons_of_neg hb]
    exact ⟨[],rfl,rfl⟩
theorem Kc: ∀ (p u:List UInt8) (n:Nat),p.all oW=true→cF false (p++u) n=cF false u (n+p.length)
 | [],u,n,_=>rfl
 | b::p,u,n,h=>by
  simp only [List.all_cons,Bool.and_eq_true] at h
  have hb:b=32∨b=9∨b=10∨b=13:=of_decide_eq_true h.1
  rw [List.cons_append]
  simp only [cF]
  rw [if_pos hb,Kc p u (n+1) h.2,List.length_cons,Nat.add_assoc,Nat.add_comm 1]
theorem adC {b:UInt8} {u:List UInt8} {n:Nat} (h1:oW b=false) (h2:b≠35):cF false (b::u) n=n:=by
 have hb: ¬ (b=32∨b=9∨b=10∨b=13):=of_decide_eq_false h1
 simp only [cF]
 rw [if_neg hb,if_neg h2]
theorem Xt {u:List UInt8} :sN (35::u)=none:=by
 rw [xu,if_neg (by decide),if_neg (by decide),if_pos]
 cases u with
 | nil=>rfl
 | cons c u=>
  show (if [35,c] ∈ lK then 2 else if (35:UInt8) ∈ i_ then 1 else 0)=0
  rw [if_neg,if_neg (by decide)]
  simp only [lK,List.mem_cons,List.cons.injEq,and_true,List.not_mem_nil,or_false]
  rintro (⟨h,_⟩ | ⟨h,_⟩ | ⟨h,_⟩ | ⟨h,_⟩ | ⟨h,_⟩ | ⟨h,_⟩ | ⟨h,_⟩) <;> revert h <;> decide
theorem adA {u:List UInt8} {b:UInt8} {v:List UInt8} (h:ja u=b::v):oW b=false:=by
 induction u with
 | nil=>cases h
 | cons c u ih=>
  unfold ja at h
  by_cases hc:oW c=true
  · rw [List.dropWhile_cons_of_pos hc] at h; exact ih h
  · rw [List.dropWhile_cons_of_neg hc] at h
    cases h
    simpa using hc
theorem ZQ {t:List UInt8} {n:Nat} {u:List UInt8} {L:List ai} (h:iP n u L):t.drop n=u→n≤t.length→ ∀ k l,t.length≤n+k→
 iz (k+1) t l (cF false (t.drop n) n)=(l++L++ [ai.mk 4 t.length t.length [] 0],az.mk 0 0):=by
 induction h with
 | @nil n u hs=>
  intro hu hn k l hk
  obtain ⟨p,h1,h2⟩:=Fb u
  rw [hs,List.append_nil] at h1
  subst h1
  have hl:u.length=t.length - n:=by rw [← hu,List.length_drop]
  have :cF false (t.drop n) n=t.length:=by
   rw [hu]
   have :=Kc u [] n h2
   rw [List.append_nil] at this
   rw [this]
   show n+u.length=_
   omega
  rw [this]
  simp only [iz]
  rw [if_neg (by omega),List.append_nil]
 | @cons n u v tk m L hs hv hh hp ih=>
  intro hu hn k l hk
  obtain ⟨p,h1,h2⟩:=Fb u
  rw [hs] at h1
  have hl:u.length=t.length - n:=by rw [← hu,List.length_drop]
  have XN:u.length=p.length+v.length:=by rw [h1,List.length_append]
  obtain ⟨b,v',rfl⟩: ∃ b v',v=b::v':=by
   cases v with
   | nil=>exact absurd rfl hv
   | cons b v'=>exact ⟨b,v',rfl⟩
  have hb:=adA hs
  have hne:b≠35:=fun e=>by subst e; rw [Xt] at hh; cases hh
  have hq:u.length - (b::v').length=p.length:=by omega
  simp only [hq] at ih ⊢
  have hpos:cF false (t.drop n) n=n+p.length:=by
   rw [hu,h1,Kc p _ n h2,adC hb hne]
  have hlt:n+p.length<t.length:=by simp only [List.length_cons] at XN; omega
  have NK:t.drop (n+p.length)=b::v':=by
   rw [← List.drop_drop,hu,h1]
   simp
  have xB:=Xs t (n+p.length) hlt
  rw [NK,hh] at xB
  have hz:(ff t (n+p.length)).2=0:=by
   by_cases hz:(ff t (n+p.length)).2=0
   · exact hz
   · rw [if_pos hz] at xB; cases xB
  rw [if_neg (by simp [hz])] at xB
  obtain ⟨e,he,h3,h4,dL,AV,_⟩:=FO t (n+p.length) hlt hz
  simp only [Option.some.injEq,Prod.mk.injEq] at xB
  obtain ⟨htk,hm⟩:=xB
  rw [he] at hm
  have hme:e=n+p.length+m:=by omega
  have Ya:(ff t (n+p.length)).1=⟨tk.1,(n+p.length:Nat),(n+p.length+m:Nat),tk.2.1,tk.2.2⟩:=by
   rw [htk]
   unfold strip
   generalize ff t (n+p.length)=x at *
   obtain ⟨⟨a1,a2,a3,a4,a5⟩,a6⟩:=x
   dsimp only at *
   rw [dL,he,hme]
  obtain ⟨k,rfl⟩: ∃ j,k=j+1:=⟨k - 1,by omega⟩
  rw [hpos]
  conv=>lhs; unfold iz
  rw [if_pos hlt,if_neg (by simp [hz]),Ya]
  dsimp only
  rw [Int.toNat_natCast]
  have :=ih (by rw [← NK,List.drop_drop]) (by omega) k (l++ [⟨tk.1,(n+p.length:Nat),(n+p.length+m:Nat),tk.2.1,tk.2.2⟩]) (by omega)
  rw [this]
  simp [List.append_assoc]
theorem ZR {t:List UInt8} {L:List ai} (h:iP 0 t L) (hl:t.length≤16384):iA t=(L++ [ai.mk 4 t.length t.length [] 0],az.mk 0 0):=by
 unfold iA
 rw [if_neg (by omega)]
 have :=ZQ (t:=t) h rfl (Nat.zero_le _) t.length [] (by omega)
 rw [List.drop_zero,List.nil_append] at this
 exact this
def rK (a b:List UInt8):Bool:=match a.getLast?,b.head? with
 | some x,some y=> !(nm x&&nm y)&& !decide ([x,y] ∈ lK)
 | _,_=>true
theorem Si {p:UInt8→Bool} : ∀ (v b:List UInt8),(v.takeWhile p).length<v.length∨(∀ y,b.head?=some y→p y=false)→(v++b).takeWhile p=v.takeWhile p
 | [],b,h=>by
  rcases h with h | h
  · simp at h
  · cases b with
    | nil=>rfl
    | cons y b=>rw [List.nil_append,List.takeWhile_cons_of_neg (by simp [h y rfl])]; rfl
 | x::v,b,h=>by
  rw [List.cons_append]
  by_cases hx:p x=true
  · rw [List.takeWhile_cons_of_pos hx,List.takeWhile_cons_of_pos hx] at *
    rw [Si v b (h.imp (fun h=>by simpa using h) id)]
  · rw [List.takeWhile_cons_of_neg hx,List.takeWhile_cons_of_neg hx]
theorem aeU {p:UInt8→Bool} {v:List UInt8} (h: ¬ (v.takeWhile p).length<v.length): ∀ x,v.getLast?=some x→p x=true:=by
 have :v.takeWhile p=v:=by
  have hle:=zq p v
  have hpre:v.takeWhile p <+: v:=List.takeWhile_prefix p
  exact hpre.eq_of_length (by omega)
 intro x hx
 have hm:x ∈ v:=List.mem_of_getLast? hx
 rw [← this] at hm
 exact Ct p v x hm
theorem Xq {v b:List UInt8} {tk:Tk} {m:Nat} (h:sN v=some (tk,m)) (hs:m<v.length∨rK v b=true):sN (v++b)=some (tk,m):=by
 cases v with
 | nil=>cases h
 | cons c u=>
  have hno: ∀ (p:UInt8→Bool),(∀ x,p x=true→nm x=true)→p c=true→(m=((c::u).takeWhile p).length)→((c::u)++b).takeWhile p=(c::u).takeWhile p:=by
   intro p hp hc hm
   refine Si _ _ ?_
   by_cases hlt:((c::u).takeWhile p).length<(c::u).length
   · exact .inl hlt
   · refine .inr fun y hy=> ?_
     rcases hs with hs | hs
     · omega
     · obtain ⟨x,hx⟩: ∃ x,(c::u).getLast?=some x:=⟨_,List.getLast?_eq_some_getLast (by simp)⟩
       have hpx:=hp x (aeU hlt x hx)
       unfold rK at hs
       rw [hx,hy] at hs
       dsimp only at hs
       rw [Bool.and_eq_true,hpx] at hs
       cases hq:p y with
       | false=>rfl
       | true=>rw [hp y hq] at hs; cases hs.1
  rw [List.cons_append]
  rw [xu] at h ⊢
  by_cases hD:dg c=true
  · rw [if_pos hD] at h ⊢
    simp only [] at h ⊢
    have hm:m=((c::u).takeWhile dg).length:=by
     split at h
     · cases h
     · cases h; rfl
    have :=hno dg (fun x hx=>by simp [nm,hx]) hD hm
    rw [List.cons_append] at this
    rw [this]
    exact h
  · rw [if_neg hD] at h ⊢
    by_cases hL:lt c=true
    · rw [if_pos hL] at h ⊢
      have hm:m=((c::u).takeWhile nm).length:=by
       split at h
       · cases h
       · cases h; rfl
      have :=hno nm (fun x hx=>hx) (by simp [nm,hL]) hm
      rw [List.cons_append] at this
      rw [this]
      exact h
    · rw [if_neg hL] at h ⊢
      have hm:m=eO (c::u)∧eO (c::u)≠0:=by
       split at h
       · cases h
       · rename_i hz; cases h; exact ⟨rfl,hz⟩
      have hsame:eO (c::(u++b))=eO (c::u):=by
       cases u with
       | cons d u=>rfl
       | nil=>
        cases b with
        | nil=>rfl
        | cons y b=>
         show (if [c,y] ∈ lK then 2 else if c ∈ i_ then 1 else 0)=if c ∈ i_ then 1 else 0
         rw [if_neg]
         rcases hs with hs | hs
         · have :eO [c]≤1:=y4 [c]
           have h1:m=eO [c]:=hm.1
           have h2:eO [c]≠0:=hm.2
           simp only [List.length_cons,List.length_nil] at hs
           omega
         · unfold rK at hs
           simp only [List.getLast?_singleton,List.head?_cons,Bool.and_eq_true,Bool.not_eq_true',decide_eq_false_iff_not] at hs
           exact hs.2
      have X9:(c::(u++b)).take (eO (c::u))=(c::u).take (eO (c::u)):=by
       rw [← List.cons_append,List.take_append_of_le_length (y4 _)]
      rw [hsame,X9]
      exact h
theorem Rm {p v b:List UInt8} (hv:v≠ []):rK (p++v) b=rK v b:=by
 unfold rK
 rw [List.getLast?_append]
 obtain ⟨x,hx⟩: ∃ x,v.getLast?=some x:=⟨_,List.getLast?_eq_some_getLast hv⟩
 rw [hx]; rfl
theorem adz {u b:List UInt8} (h:ja u≠ []):ja (u++b)=ja u++b:=by
 unfold ja at *
 induction u with
 | nil=>exact absurd rfl h
 | cons c u ih=>
  rw [List.cons_append]
  by_cases hc:oW c=true
  · rw [List.dropWhile_cons_of_pos hc] at h ⊢
    rw [List.dropWhile_cons_of_pos hc]
    exact ih h
  · rw [List.dropWhile_cons_of_neg hc,List.dropWhile_cons_of_neg hc]; rfl
theorem RA {u b:List UInt8} (h:ja u= []):ja (u++b)=ja b:=by
 unfold ja at *
 induction u with
 | nil=>rfl
 | cons c u ih=>
  rw [List.cons_append]
  by_cases hc:oW c=true
  · rw [List.dropWhile_cons_of_pos hc] at h ⊢
    exact ih h
  · rw [List.dropWhile_cons_of_neg hc] at h; cases h
theorem iP.shift {n n':Nat} {a p:List UInt8} {L:List ai} (hp:ja p= []) (h:iP (n+p.length) a L):iP n (p++a) L:=by
 generalize hn:n+p.length=q at h
 cases h with
 | nil hs=>exact .nil (by rw [RA hp]; exact hs)
 | @cons _ _ v tk m L hs hv hh hl=>
  obtain ⟨p',h1,_⟩:=Fb a
  rw [hs] at h1
  have hlen:a.length=p'.length+v.length:=by rw [h1,List.length_append]
  have e:n+((p++a).length - v.length)=q+(a.length - v.length):=by rw [List.length_append]; omega
  have :=iP.cons (n:=n) (u:=p++a) (by rw [RA hp]; exact hs) hv hh (by rw [e]; exact hl)
  rw [e] at this
  exact this
theorem iP.append {n:Nat} {a:List UInt8} {La:List ai} (ha:iP n a La): ∀ {b:List UInt8} {Lb:List ai},iP (n+a.length) b Lb→rK a b=true→iP n (a++b) (La++Lb):=by
 induction ha with
 | @nil n u hs=>intro b Lb hb _; exact iP.shift (n':=0) hs hb
 | @cons n u v tk m L hs hv hh hp ih=>
  intro b Lb hb hsep
  obtain ⟨p,h1,_⟩:=Fb u
  rw [hs] at h1
  have hml:=Xr hh
  have hlen:u.length=p.length+v.length:=by rw [h1,List.length_append]
  have Ic:rK v b=true:=by rw [h1,Rm hv] at hsep; exact hsep
  have XB:=Xq hh (b:=b) (.inr Ic)
  have NV:(u++b).length - (v++b).length=u.length - v.length:=by simp only [List.length_append]; omega
  have X4:iP (n+(u.length - v.length)+m) (v.drop m++b) (L++Lb):=by
   refine ih ?_ ?_
   · rw [List.length_drop,show n+(u.length - v.length)+m+(v.length - m)=n+u.length from by omega]
     exact hb
   · by_cases hd:v.drop m= []
     · rw [hd]; rfl
     · have :v=v.take m++v.drop m:=(List.take_append_drop m v).symm
       rw [this,Rm hd] at Ic
       exact Ic
  have :=iP.cons (n:=n) (u:=u++b) (v:=v++b) (by rw [← hs]; exact adz (by rw [hs]; exact hv)) (by simp [hv]) XB (L:=L++Lb) (by
   rw [NV,List.drop_append_of_le_length hml.2]
   exact X4)
  rw [NV] at this
  exact this
def Lx (s:List UInt8) (K:List Tk):Prop:= ∀ n, ∃ L,iP n s L∧L.map strip=K
theorem Lx.append {a b:List UInt8} {Ka Kb:List Tk} (ha:Lx a Ka) (hb:Lx b Kb) (hs:rK a b=true):Lx (a++b) (Ka++Kb):=fun n=>by
 obtain ⟨La,h1,h2⟩:=ha n
 obtain ⟨Lb,h3,h4⟩:=hb (n+a.length)
 exact ⟨La++Lb,h1.append h3 hs,by rw [List.map_append,h2,h4]⟩
theorem Lx.all {t:List UInt8} {K:List Tk} (h:Lx t K) (hl:t.length≤16384): ∃ l,iA t=(l,az.mk 0 0)∧l.map strip=K++ [(4,[],0)]:=by
 obtain ⟨L,h1,h2⟩:=h 0
 exact ⟨_,ZR h1 hl,by rw [List.map_append,h2]; rfl⟩
end Go.Sy.Ex
namespace Go.Sy.Ex
open Go.Sy
theorem Ak (d:Nat) (h:d<10):(UInt8.ofNat (48+d)).toNat=48+d:=by
 have : ∀ d,d<10→(UInt8.ofNat (48+d)).toNat=48+d:=by decide+kernel
 exact this d h
theorem uQ {u:Nat} (h:u<10):Lib.decDigits u= [UInt8.ofNat (48+u)]:=by rw [Lib.decDigits,dif_pos h]
theorem C7 {u:Nat} (h: ¬ u<10):Lib.decDigits u=Lib.decDigits (u / 10)++ [UInt8.ofNat (48+u % 10)]:=by rw [Lib.decDigits,dif_neg h]
theorem Mw: ∀ (n u:Nat),u≤n→ ∀ c ∈ Lib.decDigits u,48≤c.toNat∧c.toNat≤57:=by
 intro n
 induction n with
 | zero=>
  intro u h c hc
  have :u=0:=by omega
  subst this
  rw [uQ (by decide),List.mem_singleton] at hc
  subst hc; decide
 | succ n ih=>
  intro u h c hc
  by_cases hs:u<10
  · rw [uQ hs,List.mem_singleton] at hc
    subst hc; rw [Ak u hs]; omega
  · rw [C7 hs,List.mem_append,List.mem_singleton] at hc
    rcases hc with hc | rfl
    · exact ih (u / 10) (by omega) c hc
    · rw [Ak _ (by omega)]; omega
theorem C8: ∀ u,Lib.decDigits u≠ []:=fun u=>by
 by_cases hs:u<10
 · rw [uQ hs]; simp
 · rw [C7 hs]; simp
theorem ZK: ∀ (l:List UInt8) (acc a:Nat) (c:UInt8),Lib.parseUintM (2 ^ 64 - 1) acc l= .ok a→Lib.parseUintM (2 ^ 64 - 1) acc (l++ [c])=Lib.parseUintM (2 ^ 64 - 1) a [c]:=by
 intro l
 induction l with
 | nil=>intro acc a c h; cases h; rfl
 | cons b l ih=>
  intro acc a c h
  rw [List.cons_append]
  unfold Lib.parseUintM at h ⊢
  split at h
  · rename_i hb
    rw [if_pos hb]
    split at h
    · cases h
    · rename_i h1
      rw [if_neg h1]
      split at h
      · cases h
      · rename_i h2
        rw [if_neg h2]
        have :=ih _ _ c h
        rw [this]
        rfl
  · cases h
theorem O8: ∀ (n u:Nat),u≤n→u≤9223372036854775808→Lib.parseUintM (2 ^ 64 - 1) 0 (Lib.decDigits u)= .ok u:=by
 intro n
 induction n with
 | zero=>
  intro u h hu
  have :u=0:=by omega
  subst this
  rw [uQ (by decide)]
  rfl
 | succ n ih=>
  intro u h hu
  by_cases hs:u<10
  · rw [uQ hs]
    unfold Lib.parseUintM
    rw [Ak u hs,if_pos (by omega),if_neg (by omega),if_neg (by omega)]
    unfold Lib.parseUintM
    congr 1; omega
  · rw [C7 hs,ZK _ _ _ _ (ih (u / 10) (by omega) (by omega))]
    unfold Lib.parseUintM
    rw [Ak _ (by omega),if_pos (by omega),if_neg (by omega),if_neg (by omega)]
    unfold Lib.parseUintM
    congr 1; omega
theorem ZL (v:Int) (h0: -9223372036854775808≤v) (h1:v≤9223372036854775807):Lib.parseIntB 64 (Lib.itoa v)= .ok v:=by
 unfold Lib.itoa
 by_cases hv:v<0
 · rw [if_pos hv]
   have hu:v.natAbs≤9223372036854775808:=by omega
   unfold Lib.parseIntB Lib.parseUintB
   simp only []
   have hif:(if (45:UInt8).toNat=43∨(45:UInt8).toNat=45 then Lib.decDigits v.natAbs else 45::Lib.decDigits v.natAbs)=Lib.decDigits v.natAbs:=if_pos (.inr rfl)
   rw [hif,if_neg (C8 _),O8 _ _ (Nat.le_refl _) hu]
   have h45:(45:UInt8).toNat=45:=rfl
   simp only [h45,not_true_eq_false,false_and,if_false,true_and,if_true]
   rw [if_neg (by omega)]
   congr 1; omega
 · rw [if_neg hv]
   have hu:v.toNat≤9223372036854775807:=by omega
   have hne:=C8 v.toNat
   obtain ⟨c,r,Dm⟩: ∃ c r,Lib.decDigits v.toNat=c::r:=by
    cases hd:Lib.decDigits v.toNat with
    | nil=>exact absurd hd hne
    | cons c r=>exact ⟨c,r,rfl⟩
   have hc:=Mw _ _ (Nat.le_refl v.toNat) c (by rw [Dm]; simp)
   have hp:=O8 _ _ (Nat.le_refl v.toNat) (by omega)
   rw [Dm] at hp ⊢
   unfold Lib.parseIntB Lib.parseUintB
   simp only []
   rw [if_neg (show ¬ (c.toNat=43∨c.toNat=45) by omega),if_neg (by simp),hp]
   simp only [show ¬ c.toNat=45 by omega,not_false_eq_true,true_and,false_and,if_false]
   rw [if_neg (by omega)]
   congr 1; omega
theorem Mx: ∀ (n u:Nat),u≤n→1≤u→(Lib.decDigits u).getD 0 0≠48
 | 0,u,h,h1=>by omega
 | n+1,u,h,h1=>by
  by_cases h10:u<10
  · rw [uQ h10]
    show UInt8.ofNat (48+u)≠48
    intro e
    have :=Ak u h10
    rw [e] at this
    have h48:(48:UInt8).toNat=48:=rfl
    omega
  · rw [C7 h10]
    have :=Mx n (u / 10) (by omega) (by omega)
    have hne:=C8 (u / 10)
    cases hd:Lib.decDigits (u / 10) with
    | nil=>exact absurd hd hne
    | cons c l=>rw [hd] at this; exact this
theorem IA {n:Int} (h:0≤n):Lib.itoa n=Lib.decDigits n.toNat:=by unfold Lib.itoa; rw [if_neg (by omega)]
theorem DE {n:Int} (h:0≤n): ∀ c ∈ Lib.itoa n,dg c=true:=fun c hc=>by
 rw [IA h] at hc
 exact (Aj c).2 (Mw n.toNat n.toNat (Nat.le_refl _) c hc)
theorem Iz {n:Int} (h:0≤n):Lib.itoa n≠ []:=by rw [IA h]; exact C8 _
theorem Yy {n:Int} (h:0≤n) (h1:n≤9223372036854775807):o8 (Lib.itoa n)=(n,0):=by
 rw [← OY _ (Iz h) (DE h)]
 unfold numOf
 rw [if_neg,ZL n (by omega) h1]
 rintro ⟨h2,h3⟩
 rw [IA h] at h2 h3
 by_cases h0:n.toNat<10
 · rw [uQ h0] at h2; simp at h2
 · exact Mx n.toNat n.toNat (Nat.le_refl _) (by omega) h3
theorem Ss (p:UInt8→Bool) (l:List UInt8) (h: ∀ c ∈ l,p c=true):l.takeWhile p=l:=by
 induction l with
 | nil=>rfl
 | cons a l ih=>rw [List.takeWhile_cons_of_pos (h a (by simp)),ih fun c hc=>h c (by simp [hc])]
theorem Zq {b:UInt8} (h:nm b=true):oW b=false:=by
 have :=(Zv (b:=b) (by simpa [nm] using h)).1
 exact decide_eq_false this
theorem RC {s:List UInt8} (h: ∀ c ∈ s,nm c=true):ja s=s:=by
 cases s with
 | nil=>rfl
 | cons a l=>unfold ja; rw [List.dropWhile_cons_of_neg (by simp [Zq (h a (by simp))])]
theorem Lx.one {s:List UInt8} {tk:Tk} (h0:s≠ []) (hs:ja s=s) (hh:sN s=some (tk,s.length)):Lx s [tk]:=fun n=>by
 have :=iP.cons (n:=n) (L:= []) hs h0 hh (by rw [List.drop_length]; exact .nil rfl)
 exact ⟨_,this,rfl⟩
theorem Lx.num {n:Int} (h:0≤n) (h1:n≤9223372036854775807):Lx (Lib.itoa n) [(2,Lib.itoa n,n)]:=by
 refine Lx.one (Iz h) (RC fun c hc=>by simp [nm,DE h c hc]) ?_
 have AU:=Ss dg _ (DE h)
 have hn:=Yy h h1
 cases hi:Lib.itoa n with
 | nil=>exact absurd hi (Iz h)
 | cons a l=>
  rw [hi] at AU hn
  rw [xu,if_pos (DE h a (by rw [hi]; simp)),AU,hn]
  rfl
theorem Zn {s:List UInt8} (h:nW s=true):s≠ []∧s.length≤24∧eM s=false∧lt (s.getD 0 0)=true∧ ∀ c ∈ s,nm c=true:=by
 unfold nW at h
 simp only [Bool.and_eq_true,decide_eq_true_eq,Bool.not_eq_true',List.all_eq_true] at h
 obtain ⟨⟨⟨⟨h1,h2⟩,h3⟩,h4⟩,h5⟩:=h
 exact ⟨h1,h2,h3,h4,h5⟩
theorem Lx.word {s:List UInt8} (h0:s≠ []) (h1:s.length≤24) (h2:lt (s.getD 0 0)=true) (h3: ∀ c ∈ s,nm c=true):Lx s [(1,s,0)]:=by
 refine Lx.one h0 (RC h3) ?_
 have AU:=Ss nm _ h3
 cases hs:s with
 | nil=>exact absurd hs h0
 | cons a l=>
  rw [hs] at AU h2 h1
  have h2:lt a=true:=h2
  rw [xu,if_neg (by rw [MA _ h2]; simp),if_pos h2,AU,if_neg (by omega)]
theorem Lx.name {s:List UInt8} (h:nW s=true):Lx s [(1,s,0)]:=by
 obtain ⟨h1,h2,_,h4,h5⟩:=Zn h
 exact Lx.word h1 h2 h4 h5
end Go.Sy.Ex
namespace Go.Sy.Ex
open Go.Sy
inductive T where
 | num (n:Int) | var (s:List UInt8) | arg | DD (s:List UInt8) | un (k:Int) (t:T) | bin (k:Int) (a b:T)
def T.kind:T→Int
 | .num _=>1 | .var _=>2 | .arg=>3 | .DD _=>4 | .un k _=>k | .bin k _ _=>k
def lvl (k:Int):Int:=if k=19 then 1 else if k=18 then 2 else if 12≤k∧k≤17 then 3 else if k=10∨k=11 then 4 else if 7≤k∧k≤9 then 5 else if k=5∨k=6 then 6 else 7
def IK (k:Int):Int:=if lvl k=3 then 4 else lvl k
def JU (k:Int):Int:=if lvl k=3 then 4 else lvl k+1
abbrev y5:List (List UInt8×Int×Int):= [(iJ,19,1),(iH,18,2),(tL,12,3),(iM,13,3),(tK,14,3),(iL,15,3),(iK,16,3),(iI,17,3),(ey,10,4),(gW,11,4),(tP,7,5),(tO,8,5),(tN,9,5)]
def txt (k:Int):List UInt8:=match y5.find? (fun p=>p.2.1 == k) with
 | some p=>p.1
 | none=> []
def dI (s:List UInt8):Int×Int:=match y5.find? (fun p=>p.1 == s) with
 | some p=>p.2
 | none=>(0,0)
theorem sign_eq (s:List UInt8):Aq s=some (dI s):=by
 unfold Aq dI y5
 by_cases u5:s=iJ
 · subst u5; decide+kernel
 rw [if_neg u5,List.find?_cons,show (iJ == s)=false from beq_false_of_ne (Ne.symm u5)]
 dsimp only
 by_cases uZ:s=iH
 · subst uZ; decide+kernel
 rw [if_neg uZ,List.find?_cons,show (iH == s)=false from beq_false_of_ne (Ne.symm uZ)]
 dsimp only
 by_cases u_:s=tL
 · subst u_; decide+kernel
 rw [if_neg u_,List.find?_cons,show (tL == s)=false from beq_false_of_ne (Ne.symm u_)]
 dsimp only
 by_cases vc:s=iM
 · subst vc; decide+kernel
 rw [if_neg vc,List.find?_cons,show (iM == s)=false from beq_false_of_ne (Ne.symm vc)]
 dsimp only
 by_cases u7:s=tK
 · subst u7; decide+kernel
 rw [if_neg u7,List.find?_cons,show (tK == s)=false from beq_false_of_ne (Ne.symm u7)]
 dsimp only
 by_cases u9:s=iL
 · subst u9; decide+kernel
 rw [if_neg u9,List.find?_cons,show (iL == s)=false from beq_false_of_ne (Ne.symm u9)]
 dsimp only
 by_cases u6:s=iK
 · subst u6; decide+kernel
 rw [if_neg u6,List.find?_cons,show (iK == s)=false from beq_false_of_ne (Ne.symm u6)]
 dsimp only
 by_cases u0:s=iI
 · subst u0; decide+kernel
 rw [if_neg u0,List.find?_cons,show (iI == s)=false from beq_false_of_ne (Ne.symm u0)]
 dsimp only
 by_cases vg:s=ey
 · subst vg; decide+kernel
 rw [if_neg vg,List.find?_cons,show (ey == s)=false from beq_false_of_ne (Ne.symm vg)]
 dsimp only
 by_cases ve:s=gW
 · subst ve; decide+kernel
 rw [if_neg ve,List.find?_cons,show (gW == s)=false from beq_false_of_ne (Ne.symm ve)]
 dsimp only
 by_cases vi:s=tP
 · subst vi; decide+kernel
 rw [if_neg vi,List.find?_cons,show (tP == s)=false from beq_false_of_ne (Ne.symm vi)]
 dsimp only
 by_cases vh:s=tO
 · subst vh; decide+kernel
 rw [if_neg vh,List.find?_cons,show (tO == s)=false from beq_false_of_ne (Ne.symm vh)]
 dsimp only
 by_cases vf:s=tN
 · subst vf; decide+kernel
 rw [if_neg vf,List.find?_cons,show (tN == s)=false from beq_false_of_ne (Ne.symm vf)]
 dsimp only
 rfl
def Is:T→an→Prop
 | .num n,e=>e.Kind=1∧e.N=n∧e.Name= []∧e.Kids= []
 | .var s,e=>e.Kind=2∧e.N=0∧e.Name=s∧e.Kids= []
 | .arg,e=>e.Kind=3∧e.N=0∧e.Name= []∧e.Kids= []
 | .DD s,e=>e.Kind=4∧e.N=0∧e.Name=s∧e.Kids= []
 | .un k t,e=>e.Kind=k∧e.N=0∧e.Name= []∧ ∃ x,e.Kids= [x]∧Is t x
 | .bin k a b,e=>e.Kind=k∧e.N=0∧e.Name= []∧ ∃ x y,e.Kids= [x,y]∧Is a x∧Is b y
theorem eta (e:an):an.mk e.Kind e.N e.Name e.Kids e.At=e:=by cases e; rfl
theorem Is.kind {t:T} {e:an} (h:Is t e):e.Kind=t.kind:=by cases t <;> exact h.1
def T.ok:T→Prop
 | .num n=>0≤n∧n≤9223372036854775807
 | .var s=>nW s=true
 | .arg=>True
 | .DD s=>nW s=true
 | .un k t=>(k=5∨k=6)∧t.ok
 | .bin k a b=>(7≤k∧k≤19)∧a.ok∧b.ok
def T.sz:T→Nat
 | .un _ t=>t.sz+1
 | .bin _ a b=>a.sz+b.sz+1
 | _=>1
end Go.Sy.Ex
namespace Go.Sy.Ex
open Go.Sy
end Go.Sy.Ex
namespace Go.Sy.Ex
open Go.Sy
def st (l:List ai) (i o:Nat):aS:=⟨⟨l,(i:Int),⟨0,0⟩⟩,(o:Int)⟩
def ag (l:List ai) (i:Nat):ai:=l.getD i ai.z
def au (t:ai) (s:List UInt8):Bool:=decide ((t.Kind=3∨t.Kind=1)∧t.Text=s)
section
variable {l:List ai} {i o:Nat}
theorem Bh:pE (st l i o)=some (true,st l i o):=rfl
theorem sU (hi:i<l.length):jr (st l i o)=some (ag l i,st l i o):=by
 unfold jr
 rw [Bh,aa]
 have h1: ¬ ((i:Nat):Int)<0:=by omega
 have h2: ¬ (l.length:Int)≤((i:Nat):Int):=by omega
 have h3:0≤((i:Nat):Int):=by omega
 have h4:((i:Nat):Int)<(l.length:Int):=by omega
 simp only [Bool.not_true,cond_false,st,Int.toNat_natCast,h1,h2,h3,h4,if_true,if_false]; rfl
theorem DC (hi:i<l.length) (s:List UInt8):mP (st l i o) s=some (au (ag l i) s,st l i o):=by
 unfold mP au
 rw [sU hi,aa]
 dsimp only
 by_cases h3:(ag l i).Kind=3
 · rw [if_pos h3]; congr 2; rw [decide_eq_decide]; simp [h3]
 · rw [if_neg h3]
   by_cases h1:(ag l i).Kind=1
   · rw [if_pos h1]; congr 2; rw [decide_eq_decide]; simp [h1]
   · rw [if_neg h1]
     congr 2
     symm
     rw [decide_eq_false_iff_not]
     rintro ⟨h | h,_⟩ <;> contradiction
theorem cO (hi:i<l.length) (hl:l.length≤100000):aj (((i:Nat):Int)+1)=((i+1:Nat):Int):=by rw [cv (by omega) (by omega)]; omega
theorem FN (hi:i<l.length) (hl:l.length≤100000) (s:List UInt8):pF (st l i o) s=some (au (ag l i) s,if au (ag l i) s=true then st l (i+1) o else st l i o):=by
 unfold pF
 rw [DC hi,aa]
 dsimp only
 cases h:au (ag l i) s with
 | true=>
  rw [cond_true,if_pos rfl]
  show some (true,(⟨⟨l,aj (((i:Nat):Int)+1),⟨0,0⟩⟩,(o:Int)⟩:aS))=_
  rw [cO hi hl]; rfl
 | false=>rw [cond_false,if_neg (by simp)]
theorem FV (hi:i<l.length) (hl:l.length≤100000) {s:List UInt8} (h:au (ag l i) s=true):kj (st l i o) s=some (st l (i+1) o):=by
 unfold kj
 rw [FN hi hl,aa,h]; rfl
theorem Iy (hi:i<l.length):qO (st l i o)=some (decide ((ag l i).Kind=1)&& !eM (ag l i).Text,st l i o):=by
 unfold qO
 rw [sU hi,aa]
 dsimp only
 by_cases h1:(ag l i).Kind=1
 · rw [if_pos h1,DQ,aa,decide_eq_true h1]; rfl
 · rw [if_neg h1,decide_eq_false h1]; rfl
theorem OP (hi:i<l.length) (hl:l.length≤100000) (h1:(ag l i).Kind=1) (h2:eM (ag l i).Text=false):n7 (st l i o)=some ((ag l i).Text,st l (i+1) o):=by
 unfold n7
 rw [Iy hi,aa]
 dsimp only
 rw [decide_eq_true h1,h2]
 show (if 0≤aj (aj (((i:Nat):Int)+1) - 1) then if aj (aj (((i:Nat):Int)+1) - 1)<(l.length:Int) then some ((l.getD (aj (aj (((i:Nat):Int)+1) - 1)).toNat ai.z).Text,(⟨⟨l,aj (((i:Nat):Int)+1),⟨0,0⟩⟩,(o:Int)⟩:aS)) else none else none)=_
 rw [cO hi hl,show aj (((i+1:Nat):Int) - 1)=((i:Nat):Int) from by rw [cv (by omega) (by omega)]; omega,if_pos (by omega),if_pos (by omega),Int.toNat_natCast]
 rfl
theorem Ai (hi:i<l.length) (hl:l.length≤100000) (ho:o<12) (a:Int):kL (st l i o) a=some (true,st l (i+1) (o+1)):=by
 unfold kL
 show (if ((o:Nat):Int)=12 then _ else some (true,(⟨⟨l,aj (((i:Nat):Int)+1),⟨0,0⟩⟩,aj (((o:Nat):Int)+1)⟩:aS)))=_
 rw [if_neg (by omega),cO hi hl,show aj (((o:Nat):Int)+1)=((o+1:Nat):Int) from by rw [cv (by omega) (by omega)]; omega]
 rfl
end
def Seq (l:List ai) (i:Nat):List Tk→Prop
 | []=>True
 | k::K=>i<l.length∧strip (ag l i)=k∧Seq l (i+1) K
theorem Seq.append {l:List ai} : ∀ {i:Nat} {K K':List Tk},Seq l i (K++K')↔Seq l i K∧Seq l (i+K.length) K'
 | i,[],K'=>by simp [Seq]
 | i,k::K,K'=>by
  rw [List.cons_append]
  simp only [Seq,List.length_cons]
  rw [Seq.append,show i+1+K.length=i+(K.length+1) from by omega]
  constructor
  · rintro ⟨a,b,c,d⟩; exact ⟨⟨a,b,c⟩,d⟩
  · rintro ⟨⟨a,b,c⟩,d⟩; exact ⟨a,b,c,d⟩
def xM (c:Prop) [Decidable c] (K:List Tk):List Tk:=if c then (3,gM,0)::K++ [(3,iu,0)] else K
def toks:T→Int→List Tk
 | .num n,a=>xM (7<a) [(2,Lib.itoa n,n)]
 | .var s,a=>xM (7<a) [(1,s,0)]
 | .arg,a=>xM (7<a) [(3,tJ,0)]
 | .DD s,a=>xM (7<a) [(1,lX,0),(3,gM,0),(1,s,0),(3,iu,0)]
 | .un k t,a=>xM (6<a) ((3,if k=5 then gW else pQ,0)::toks t 6)
 | .bin k x y,a=>xM (lvl k<a) (toks x (IK k)++(3,txt k,0)::toks y (JU k))
def I5 (c:Prop) [Decidable c] (n:Nat):Nat:=if c then n+1 else n
def o7:T→Int→Nat
 | .un k t,a=>I5 (6<a) (o7 t 6+1)
 | .bin k x y,a=>I5 (lvl k<a) (max (o7 x (IK k)) (o7 y (JU k)))
 | _,a=>I5 (7<a) 0
def rL (t:ai):Int:=if t.Kind=3 then (dI t.Text).2 else 0
def P (t:T) (K:List Tk) (n:Nat) (m:Int):Prop:= ∀ (l:List ai) (i o:Nat),l.length≤100000→Seq l i K→i+K.length<l.length→o+n≤12→rL (ag l (i+K.length))<m→
 ∃ e Z,Is t e∧ ∀ k,Z≤k→fO k (st l i o) m=some (e,st l (i+K.length) o)
def Sg (t:T) (K:List Tk) (n:Nat):Prop:= ∀ (l:List ai) (i o:Nat),l.length≤100000→Seq l i K→i+K.length<l.length→o+n≤12→
 ∃ e Z Z2,Is t e∧ ∀ k,Z≤k→ ∀ k2,Z2≤k2→lF (fO k) k2 (st l i o)=some (e,st l (i+K.length) o)
noncomputable def loop (k k':Nat) (l:List ai) (i o:Nat) (m:Int) (e:an):Option (an×aS):=
 qv (fO k) k' l ((i:Nat):Int) 0 0 ((o:Nat):Int) m 0 0 [] [] 0 e.Kind e.N e.Name e.Kids e.At
def Qp (t:T) (K:List Tk) (n:Nat) (m:Int):Prop:= ∀ (l:List ai) (i o:Nat),l.length≤100000→Seq l i K→i+K.length<l.length→o+n≤12→rL (ag l (i+K.length))≤m→
 ∃ e Z j,Is t e∧j<Z∧ ∀ k,Z≤k→fO (k+1) (st l i o) m=loop k (k - j) l (i+K.length) o m e
theorem I8 (k:Nat) (l:List ai) (i o:Nat) {m:Int} (hm:1≤m) (gC:m≤5) {e:an} {i':Nat} (h:fO k (st l i o) (m+1)=some (e,st l i' o)):
 fO (k+1) (st l i o) m=loop k k l i' o m e:=by
 show sK (fO k) k (st l i o) m=_
 unfold sK
 rw [if_neg (by omega),cv (by omega) (by omega),h,aa]
 rfl
theorem OI (k k':Nat) (l:List ai) (i o:Nat) {m:Int} (hm:1≤m) (hi:i<l.length) (hs:rL (ag l i)≠m) (e:an) (hk:1≤k'):loop k k' l i o m e=some (e,st l i o):=by
 obtain ⟨k',rfl⟩: ∃ j,k'=j+1:=⟨k' - 1,by omega⟩
 unfold loop
 simp only [qv]
 rw [show (aS.mk (aU.mk l ((i:Nat):Int) (az.mk 0 0)) ((o:Nat):Int))=st l i o from rfl,sU hi,aa,sign_eq,aa,eta]
 dsimp only
 unfold rL at hs
 by_cases h3:(ag l i).Kind=3
 · rw [if_pos h3] at hs
   rw [if_neg (by simpa using h3),if_pos hs]
 · rw [if_pos h3]
end Go.Sy.Ex
namespace Go.Sy.Ex
open Go.Sy
theorem I6 (k:Nat) (s:aS):fO (k+1) s 6=(uR (fO k) s).bind fun r1=>some (an.mk r1.1.Kind r1.1.N r1.1.Name r1.1.Kids r1.1.At,r1.2):=by
 show sK (fO k) k s 6=_
 unfold sK
 rw [if_pos rfl]
theorem P6 {t:T} {K:List Tk} {n:Nat} (h:Sg t K n):P t K n 6:=fun l i o hl hs hi ho _=>by
 obtain ⟨e,Z,Z2,he,hr⟩:=h l i o hl hs hi ho
 refine ⟨e,Z+1,he,fun k hk=> ?_⟩
 obtain ⟨k,rfl⟩: ∃ j,k=j+1:=⟨k - 1,by omega⟩
 rw [I6,show uR (fO k) (st l i o)=some (e,st l (i+K.length) o) from br Z2 fun j hj=>hr k (by omega) j hj,aa,eta]
theorem Tg {t:T} {K:List Tk} {n:Nat} {m:Int} (h1:1≤m) (h:Qp t K n m):P t K n m:=fun l i o hl hs hi ho hv=>by
 obtain ⟨e,Z,j,he,hj,hr⟩:=h l i o hl hs hi ho (by omega)
 refine ⟨e,Z+1,he,fun k hk=> ?_⟩
 obtain ⟨k,rfl⟩: ∃ j,k=j+1:=⟨k - 1,by omega⟩
 rw [hr k (by omega)]
 exact OI k _ l _ o h1 hi (by omega) e (by omega)
theorem Tf {t:T} {K:List Tk} {n:Nat} {m:Int} (h1:1≤m) (h5:m≤5) (h:P t K n (m+1)):Qp t K n m:=fun l i o hl hs hi ho hv=>by
 obtain ⟨e,Z,he,hr⟩:=h l i o hl hs hi ho (by omega)
 exact ⟨e,Z+1,0,he,by omega,fun k hk=>by rw [I8 k l i o h1 h5 (hr k (by omega)),Nat.sub_zero]⟩
theorem Te {t:T} {K:List Tk} {n:Nat} {m:Int} (h1:1≤m) (h5:m≤5) (h:P t K n (m+1)):P t K n m:=Tg h1 (Tf h1 h5 h)
def CD (t:T):Prop:=Sg t (toks t 6) (o7 t 6)∧(∀ m:Int,1≤m→m≤6→P t (toks t m) (o7 t m) m)∧ ∀ m:Int,1≤m→m≤5→m≠3→Qp t (toks t m) (o7 t m) m
theorem down {t:T} {K:List Tk} {n:Nat} (h6:P t K n 6): ∀ (j:Nat) (m:Int),m=6 - (j:Int)→1≤m→P t K n m
 | 0, m, hm, _ => by have : m = 6 := by omega
                     subst this; exact h6
 | j+1,m,hm,hl=>Te (by omega) (by omega) (down h6 j (m+1) (by omega) (by omega))
theorem Sg.at {t:T} {K:List Tk} {n:Nat} (h:Sg t K n) (m:Int) (h1:1≤m) (h6:m≤6):P t K n m:=down (P6 h) (6 - m).toNat m (by omega) h1
end Go.Sy.Ex
namespace Go.Sy.Ex
open Go.Sy
def h2 (y:UInt8):Bool:= !decide (y=61∨y=62∨y=38∨y=124)
def h1 (x:UInt8):Bool:= !decide (x=45∨x=61∨x=33∨x=60∨x=62∨x=38∨x=124)
end Go.Sy.Ex
namespace Go.Sy.Ex
open Go.Sy
theorem Ow (c:Int):ym c=some (lI c):=by
 have fin: ∀ a:Bool,((a=true)↔((97≤c∧c≤122)∨(65≤c∧c≤90)∨c=95))→some a=some (lI c):=by
  intro a ha
  have e1:a=lI c:=by rw [Bool.eq_iff_iff,ha]; simp [lI]
  rw [e1]
 unfold ym
 repeat' split
 all_goals
  refine fin _ ?_
  first
   | (simp only [decide_eq_true_eq]; omega)
   | exact ⟨fun _=>by omega,fun _=>rfl⟩
theorem Hg (c:Int):vZ c=some (isDigit c):=by
 unfold vZ isDigit
 by_cases h:48≤c
 · rw [if_pos h]; simp [h]
 · rw [if_neg h]; simp [h]
theorem ac4 (s:List UInt8): ∀ m n,n+m=35→ ∀ k,m+1≤k→yl k s Lv ((n:Nat):Int)=some (decide (s ∈ qb.drop n)):=by
 intro m
 induction m with
 | zero=>
  intro n h k hk
  obtain ⟨k,rfl⟩: ∃ j,k=j+1:=⟨k - 1,by omega⟩
  obtain rfl:n=35:=by omega
  simp only [yl]
  rw [if_neg (by omega)]
  rfl
 | succ m ih=>
  intro n h k hk
  obtain ⟨k,rfl⟩: ∃ j,k=j+1:=⟨k - 1,by omega⟩
  have hlt:n<qb.length:=by rw [afM]; omega
  have e:aj ((n:Int)+1)=((n+1:Nat):Int):=by rw [cv (by omega) (by omega)]; omega
  have hlen:(n:Int)<(qb.length:Int):=by omega
  simp only [yl]
  rw [if_pos (by omega),if_pos (by omega),if_pos hlen,e,ih (n+1) (by omega) k (by omega),List.drop_eq_getElem_cons hlt]
  by_cases hx:qb.getD (((n:Nat):Int).toNat) []=s
  · rw [if_pos hx]
    rw [Int.toNat_natCast,cz _ hlt] at hx
    rw [hx]
    simp
  · rw [if_neg hx]
    rw [Int.toNat_natCast,cz _ hlt] at hx
    congr 1
    rw [decide_eq_decide,List.mem_cons]
    exact ⟨.inr,fun q=>q.elim (fun q=>absurd q.symm hx) id⟩
theorem ac3 (s:List UInt8):EG s=some (eM s):=br 36 fun k hk=>ac4 s 35 0 rfl k hk
end Go.Sy.Ex
namespace Go.Sy.Ex
open Go.Sy
def Fw:Nat→an→Prop
 | 0,_=>False
 | n+1,e=>(e.Kids.length≤n+2∧e.Kids.length≤10000000000000)∧e.Name.length≤199999999999999∧(-9223372036854775808≤e.N∧e.N≤9223372036854775807)∧ ∀ x ∈ e.Kids,Fw n x
def Tr (e:an):Prop:= ∃ t,Is t e∧t.ok
def inr:T→Nat
 | .un k t=>o7 t 6
 | .bin k x y=>max (o7 x (IK k)) (o7 y (JU k))
 | _=>0
end Go.Sy.Ex
namespace Go.Sy.Ex
open Go.Sy
theorem Fw.up: ∀ {n m:Nat} {e:an},Fw n e→n≤m→Fw m e
 | 0,_,_,h,_=>h.elim
 | n+1,0,_,_,h=>by omega
 | n+1,m+1,e,⟨h1,h2,h3,h4⟩,h=>⟨by omega,h2,h3,fun x hx=>Fw.up (h4 x hx) (by omega)⟩
end Go.Sy.Ex
namespace Go.Sy.Ex
open Go.Sy
theorem nx {n:Nat} (h:n<100000000000000):aj ((n:Int)+1)=((n+1:Nat):Int):=by rw [cv (by omega) (by omega)]; omega
end Go.Sy.Ex
namespace Go.Sy.Ex
open Go.Sy
end Go.Sy.Ex
namespace Go.Sy.Ex
open Go.Sy
end Go.Sy.Ex
namespace Go.Sy.Ex
open Go.Sy
end Go.Sy.Ex
namespace Go.Sy.Ex
open Go.Sy
theorem ac6 (t:List UInt8) (hl:t.length<200000000000000): ∀ m n,n+m=t.length→(∀ k,3*m+1≤k→lT k t ((n:Nat):Int)=some ((cF false (t.drop n) n:Nat):Int))∧ ∀ k,3*m+2≤k→tv k t ((n:Nat):Int)=some ((cF true (t.drop n) n:Nat):Int):=by
 intro m
 induction m with
 | zero=>
  intro n h
  have hd:t.drop n= []:=List.drop_eq_nil_of_le (by omega)
  have h0: ∀ k,1≤k→lT k t ((n:Nat):Int)=some ((cF false (t.drop n) n:Nat):Int):=by
   intro k hk
   obtain ⟨k,rfl⟩: ∃ j,k=j+1:=⟨k - 1,by omega⟩
   simp only [lT]
   rw [if_neg (by omega),hd]; rfl
  refine ⟨fun k hk=>h0 k (by omega),fun k hk=> ?_⟩
  obtain ⟨k,rfl⟩: ∃ j,k=j+1:=⟨k - 1,by omega⟩
  simp only [tv]
  rw [if_neg (by omega),h0 k (by omega),hd]; rfl
 | succ m ih=>
  intro n h
  have hlt:n<t.length:=by omega
  obtain ⟨i0,i1⟩:=ih (n+1) (by omega)
  have e:aj ((n:Int)+1)=((n+1:Nat):Int):=by rw [cv (by omega) (by omega)]; omega
  have hd:t.drop n=t[n]::t.drop (n+1):=List.drop_eq_getElem_cons hlt
  have sC:((t[n].toNat:Nat):Int)=10↔t[n]=10:=l9 t[n] 10 (by decide)
  have CZ:((t[n].toNat:Nat):Int)=32↔t[n]=32:=l9 t[n] 32 (by decide)
  have c9:((t[n].toNat:Nat):Int)=9↔t[n]=9:=l9 t[n] 9 (by decide)
  have CY:((t[n].toNat:Nat):Int)=13↔t[n]=13:=l9 t[n] 13 (by decide)
  have zY:((t[n].toNat:Nat):Int)=35↔t[n]=35:=l9 t[n] 35 (by decide)
  have h0: ∀ k,3*(m+1)+1≤k→lT k t ((n:Nat):Int)=some ((cF false (t.drop n) n:Nat):Int):=by
   intro k hk
   obtain ⟨k,rfl⟩: ∃ j,k=j+1:=⟨k - 1,by omega⟩
   simp only [lT]
   have g1:(n:Int)<(t.length:Int):=by omega
   have g0:0≤(n:Int):=by omega
   simp only [g0,g1,if_true,Int.toNat_natCast,cz _ hlt,e]
   rw [hd,i0 k (by omega)]
   have l1:t[n]=35→tv k t ((n:Nat):Int)=some ((cF true (t.drop (n+1)) (n+1):Nat):Int):=by
    intro hb
    obtain ⟨k,rfl⟩: ∃ j,k=j+1:=⟨k - 1,by omega⟩
    simp only [tv]
    rw [if_pos g1,if_pos g0,if_pos g1,Int.toNat_natCast,cz _ hlt,if_pos (by rw [hb]; decide),e]
    exact i1 k (by omega)
   simp only [cF]
   by_cases CW:t[n]=32
   · rw [if_pos (CZ.2 CW),if_pos (.inl CW)]
   · rw [if_neg (fun q=>CW (CZ.1 q))]
     by_cases b9:t[n]=9
     · rw [if_pos (c9.2 b9),if_pos (.inr (.inl b9))]
     · rw [if_neg (fun q=>b9 (c9.1 q))]
       by_cases jI:t[n]=10
       · rw [if_pos (sC.2 jI),if_pos (.inr (.inr (.inl jI)))]
       · rw [if_neg (fun q=>jI (sC.1 q))]
         by_cases CV:t[n]=13
         · rw [if_pos (CY.2 CV),if_pos (.inr (.inr (.inr CV)))]
         · have hno: ¬ (t[n]=32∨t[n]=9∨t[n]=10∨t[n]=13):=fun q=>q.elim CW fun q=>q.elim b9 fun q=>q.elim jI CV
           rw [if_neg (fun q=>CV (CY.1 q)),if_neg hno]
           by_cases nD:t[n]=35
           · rw [if_pos (zY.2 nD),if_pos nD,l1 nD]
           · rw [if_neg (fun q=>nD (zY.1 q)),if_neg nD]
  refine ⟨h0,fun k hk=> ?_⟩
  obtain ⟨k,rfl⟩: ∃ j,k=j+1:=⟨k - 1,by omega⟩
  simp only [tv]
  rw [if_pos (by omega),if_pos (by omega),if_pos (by omega),Int.toNat_natCast,cz _ hlt,e]
  by_cases jI:t[n]=10
  · rw [if_neg (fun q=>q (sC.2 jI)),h0 k (by omega),hd]
    simp only [cF]
    rw [if_pos (.inr (.inr (.inl jI))),if_pos jI]
  · rw [if_pos (fun q=>jI (sC.1 q)),i1 k (by omega),hd]
    simp only [cF]
    rw [if_neg jI]
theorem afK (t:List UInt8) (hl:t.length<200000000000000) (hd: ∀ c ∈ t,dg c=true): ∀ m n acc,n+m=t.length→acc<9223372036854775808→ ∀ k,m+1≤k→yq k t ((acc:Nat):Int) ((n:Nat):Int)=some (match p_ acc (t.drop n) with | some v=>((v:Int),true) | none=>(0,false)):=by
 intro m
 induction m with
 | zero=>
  intro n acc h ha k hk
  obtain ⟨k,rfl⟩: ∃ j,k=j+1:=⟨k - 1,by omega⟩
  simp only [yq]
  rw [if_neg (by omega),List.drop_eq_nil_of_le (by omega)]
  rfl
 | succ m ih=>
  intro n acc h ha k hk
  obtain ⟨k,rfl⟩: ∃ j,k=j+1:=⟨k - 1,by omega⟩
  have hlt:n<t.length:=by omega
  have hc:=(Aj t[n]).1 (hd _ (List.getElem_mem hlt))
  have e:aj ((n:Int)+1)=((n+1:Nat):Int):=by rw [cv (by omega) (by omega)]; omega
  have e1:FW (((t[n]).toNat:Int) - 48)=((t[n].toNat - 48:Nat):Int):=by rw [afQ (by omega) (by omega)]; omega
  have e2:aj ((t[n].toNat - 48:Nat):Int)=((t[n].toNat - 48:Nat):Int):=cv (by omega) (by omega)
  have e3:aj (9223372036854775807 - ((t[n].toNat - 48:Nat):Int))=((9223372036854775807 - (t[n].toNat - 48):Nat):Int):=by rw [cv (by omega) (by omega)]; omega
  have e4:Int.tdiv ((9223372036854775807 - (t[n].toNat - 48):Nat):Int) 10=(((9223372036854775807 - (t[n].toNat - 48)) / 10:Nat):Int):=by
   rw [Int.tdiv_eq_ediv_of_nonneg (by omega)]; omega
  have e5:aj (((9223372036854775807 - (t[n].toNat - 48)) / 10:Nat):Int)=(((9223372036854775807 - (t[n].toNat - 48)) / 10:Nat):Int):=cv (by omega) (by omega)
  simp only [yq]
  rw [if_pos (by omega),if_pos (by omega),if_pos (by omega),if_pos (by decide),Int.toNat_natCast,cz _ hlt,e,e1,e2,e3,e4,e5,List.drop_eq_getElem_cons hlt]
  unfold p_
  by_cases hb:(9223372036854775807 - (t[n].toNat - 48)) / 10<acc
  · rw [if_pos (by omega),if_pos hb]
  · rw [if_neg (by omega),if_neg hb]
    have e6:aj (aj (10*(acc:Int))+((t[n].toNat - 48:Nat):Int))=((10*acc+(t[n].toNat - 48):Nat):Int):=by
     rw [cv (n:=10*(acc:Int)) (by omega) (by omega),cv (by omega) (by omega)]; omega
    rw [e6]
    exact ih (n+1) _ (by omega) (by omega) k (by omega)
theorem afJ (t:List UInt8) (hl:t.length<200000000000000) (hd: ∀ c ∈ t,dg c=true):pK t=some (match p_ 0 t with | some v=>((v:Int),true) | none=>(0,false)):=
 br (t.length+1) fun k hk=>afK t hl hd t.length 0 0 (by omega) (by omega) k hk
theorem ZD (s:List UInt8) (i:Nat) (hi:i<s.length) (one:List UInt8) (hl:one.length<200000000000000): ∀ m n,n+m=one.length→ ∀ k,m+1≤k→v8 k s ((i:Nat):Int) one ((n:Nat):Int)=some (if s[i] ∈ one.drop n then 1 else 0):=by
 intro m
 induction m with
 | zero=>
  intro n h k hk
  obtain ⟨k,rfl⟩: ∃ j,k=j+1:=⟨k - 1,by omega⟩
  simp only [v8]
  rw [if_neg (by omega),List.drop_eq_nil_of_le (by omega)]
  simp
 | succ m ih=>
  intro n h k hk
  obtain ⟨k,rfl⟩: ∃ j,k=j+1:=⟨k - 1,by omega⟩
  have hlt:n<one.length:=by omega
  have e:aj ((n:Int)+1)=((n+1:Nat):Int):=by rw [cv (by omega) (by omega)]; omega
  simp only [v8]
  rw [if_pos (by omega),if_pos (by omega),if_pos (by omega),if_pos (by omega),if_pos (by omega),Int.toNat_natCast,Int.toNat_natCast,cz _ hlt,cz _ hi,e,ih (n+1) (by omega) k (by omega),List.drop_eq_getElem_cons hlt]
  by_cases hx:s[i]=one[n]
  · rw [if_pos (by rw [hx]),if_pos (by rw [hx]; exact List.mem_cons_self ..)]
  · rw [if_neg (fun q=>hx (UInt8.toNat_inj.1 (by omega)))]
    congr 1
    have :(s[i] ∈ one[n]::one.drop (n+1))↔s[i] ∈ one.drop (n+1):=by rw [List.mem_cons]; exact ⟨fun q=>q.elim (fun q=>absurd q hx) id, .inr⟩
    simp only [this]
theorem ac5 (t:List UInt8) (n:Nat) (hl:t.length<200000000000000) (h:n<t.length):EJ t ((n:Nat):Int)=some ((eO (t.drop n):Nat):Int):=by
 have e1:aj ((n:Int)+1)=((n+1:Nat):Int):=by rw [cv (by omega) (by omega)]; omega
 have e2:aj ((n:Int)+2)=((n+2:Nat):Int):=by rw [cv (by omega) (by omega)]; omega
 refine br 50 fun k hk=> ?_
 obtain ⟨k,rfl⟩: ∃ j,k=j+8:=⟨k - 8,by omega⟩
 have hone:=ZD t n h i_ (by decide) 20 0 (by decide) k (by omega)
 have k1:aj ((0:Int)+1)=1:=by decide
 have k2:aj ((1:Int)+1)=2:=by decide
 have k3:aj ((2:Int)+1)=3:=by decide
 have k4:aj ((3:Int)+1)=4:=by decide
 have k5:aj ((4:Int)+1)=5:=by decide
 have k6:aj ((5:Int)+1)=6:=by decide
 have k7:aj ((6:Int)+1)=7:=by decide
 have N5:v8 k t ((n:Nat):Int) i_ 0=some (if t[n] ∈ i_ then 1 else 0):=hone
 have fin:some (if t[n] ∈ i_ then (1:Int) else 0)=some (((if t[n] ∈ i_ then 1 else 0:Nat)):Int):=by split <;> rfl
 by_cases h1:n+1<t.length
 · have g1:((n+1:Nat):Int)<(t.length:Int):=by omega
   have g2:(0:Int)≤((n+2:Nat):Int):=by omega
   have g3:((n+2:Nat):Int)≤(t.length:Int):=by omega
   have g4:(0:Int)≤(n:Int):=by omega
   have g5:(n:Int)≤((n+2:Nat):Int):=by omega
   have hm: [t[n],t[n+1]] ∈ lK↔([t[n],t[n+1]]=eN∨ [t[n],t[n+1]]=iK∨ [t[n],t[n+1]]=iI∨ [t[n],t[n+1]]=iM∨ [t[n],t[n+1]]=iL∨ [t[n],t[n+1]]=iH∨ [t[n],t[n+1]]=iJ):=by
    unfold lK
    rw [List.mem_cons,List.mem_cons,List.mem_cons,List.mem_cons,List.mem_cons,List.mem_cons,List.mem_singleton]
   have q0:(0:Int)<(([eN,iK,iI,iM,iL,iH,iJ].length:Nat):Int):=by decide
   have q1:(1:Int)<(([eN,iK,iI,iM,iL,iH,iJ].length:Nat):Int):=by decide
   have q2:(2:Int)<(([eN,iK,iI,iM,iL,iH,iJ].length:Nat):Int):=by decide
   have q3:(3:Int)<(([eN,iK,iI,iM,iL,iH,iJ].length:Nat):Int):=by decide
   have q4:(4:Int)<(([eN,iK,iI,iM,iL,iH,iJ].length:Nat):Int):=by decide
   have q5:(5:Int)<(([eN,iK,iI,iM,iL,iH,iJ].length:Nat):Int):=by decide
   have q6:(6:Int)<(([eN,iK,iI,iM,iL,iH,iJ].length:Nat):Int):=by decide
   simp only [EK,yp,Gz,k1,k2,k3,k4,k5,k6,k7,e1,e2,g1,g2,g3,g4,g5,if_true,Ms t n h1,N5,Ry t n h1]
   simp only [show (0:Int)<7 by decide,show (1:Int)<7 by decide,show (2:Int)<7 by decide,show (3:Int)<7 by decide,show (4:Int)<7 by decide,show (5:Int)<7 by decide,show (6:Int)<7 by decide,show ¬ (7:Int)<7 by decide,show (0:Int)≤0 by decide,show (0:Int)≤1 by decide,show (0:Int)≤2 by decide,show (0:Int)≤3 by decide,show (0:Int)≤4 by decide,show (0:Int)≤5 by decide,show (0:Int)≤6 by decide,if_true,if_false,q0,q1,q2,q3,q4,q5,q6]
   simp only [hm]
   by_cases p0: [t[n],t[n+1]]=eN
   · rw [if_pos (by exact p0),if_pos (.inl p0)]; rfl
   · rw [if_neg (by exact p0)]
     by_cases p1: [t[n],t[n+1]]=iK
     · rw [if_pos (by exact p1),if_pos (.inr (.inl p1))]; rfl
     · rw [if_neg (by exact p1)]
       by_cases p2: [t[n],t[n+1]]=iI
       · rw [if_pos (by exact p2),if_pos (.inr (.inr (.inl p2)))]; rfl
       · rw [if_neg (by exact p2)]
         by_cases p3: [t[n],t[n+1]]=iM
         · rw [if_pos (by exact p3),if_pos (.inr (.inr (.inr (.inl p3))))]; rfl
         · rw [if_neg (by exact p3)]
           by_cases p4: [t[n],t[n+1]]=iL
           · rw [if_pos (by exact p4),if_pos (.inr (.inr (.inr (.inr (.inl p4)))))]; rfl
           · rw [if_neg (by exact p4)]
             by_cases p5: [t[n],t[n+1]]=iH
             · rw [if_pos (by exact p5),if_pos (.inr (.inr (.inr (.inr (.inr (.inl p5))))))]; rfl
             · rw [if_neg (by exact p5)]
               by_cases p6: [t[n],t[n+1]]=iJ
               · rw [if_pos (by exact p6),if_pos (.inr (.inr (.inr (.inr (.inr (.inr p6))))))]; rfl
               · rw [if_neg (by exact p6)]
                 have hn: ¬ ([t[n],t[n+1]]=eN∨ [t[n],t[n+1]]=iK∨ [t[n],t[n+1]]=iI∨ [t[n],t[n+1]]=iM∨ [t[n],t[n+1]]=iL∨ [t[n],t[n+1]]=iH∨ [t[n],t[n+1]]=iJ):=fun q=>q.elim p0 fun q=>q.elim p1 fun q=>q.elim p2 fun q=>q.elim p3 fun q=>q.elim p4 fun q=>q.elim p5 p6
                 rw [if_neg hn]
                 exact fin
 · have g1: ¬ ((n+1:Nat):Int)<(t.length:Int):=by omega
   simp only [EK,yp,Gz,k1,k2,k3,k4,k5,k6,k7,e1,e2,g1,if_false,N5,Rx t n (by omega:n+1=t.length)]
   simp only [show (0:Int)<7 by decide,show (1:Int)<7 by decide,show (2:Int)<7 by decide,show (3:Int)<7 by decide,show (4:Int)<7 by decide,show (5:Int)<7 by decide,show (6:Int)<7 by decide,show ¬ (7:Int)<7 by decide,if_true,if_false]
   exact fin
theorem ZB (s:List UInt8) (i:Nat) (hl:s.length<200000000000000): ∀ m n,n+m=s.length→i≤n→ ∀ k,m+1≤k→v7 k s ((i:Nat):Int) 0 0 0 [] 0 ((n:Nat):Int) 0 ((i:Nat):Int) 0 [] 0=some (if i+24<ep nm s n then (ai.mk 0 0 0 [] 0,13) else (ai.mk 1 (i:Nat) (ep nm s n:Nat) (cut s ((i:Nat):Int) ((ep nm s n:Nat):Int)) 0,0)):=by
 intro m
 induction m with
 | zero=>
  intro n h hi k hk
  obtain ⟨k,rfl⟩: ∃ j,k=j+1:=⟨k - 1,by omega⟩
  simp only [v7]
  rw [if_neg (by omega),JZ (by omega),cv (by omega) (by omega)]
  by_cases nR:i+24<n
  · rw [if_pos (by omega),if_pos nR]
  · rw [if_neg (by omega),if_neg nR,if_pos (by omega),if_pos (by omega),if_pos (by omega),if_pos (by omega)]
 | succ m ih=>
  intro n h hi k hk
  obtain ⟨k,rfl⟩: ∃ j,k=j+1:=⟨k - 1,by omega⟩
  have hlt:n<s.length:=by omega
  have e:aj ((n:Int)+1)=((n+1:Nat):Int):=by rw [cv (by omega) (by omega)]; omega
  simp only [v7,Ow,Hg,aa]
  rw [if_pos (by omega),if_pos (by omega),if_pos (by omega),Int.toNat_natCast,cz _ hlt,e,ih (n+1) (by omega) (by omega) k (by omega)]
  have vl:isDigit ((s[n].toNat:Nat):Int)=dg s[n]:=rfl
  have hlt':lI ((s[n].toNat:Nat):Int)=lt s[n]:=rfl
  rw [vl,hlt',cv (by omega) (by omega)]
  cases hL:lt s[n] with
  | true=>rw [cond_true,yW hlt (by simp [nm,hL])]
  | false=>
   rw [cond_false,if_pos (by omega),if_pos (by omega)]
   cases hD:dg s[n] with
   | true=>rw [cond_true,yW hlt (by simp [nm,hD])]
   | false=>
    rw [cond_false,JY hlt (by simp [nm,hL,hD])]
    by_cases nR:i+24<n
    · rw [if_pos (by omega),if_pos nR]
    · rw [if_neg (by omega),if_neg nR,if_pos (by omega),if_pos (by omega),if_pos (by omega),if_pos (by omega)]
noncomputable def DU (s:List UInt8) (i j:Nat):Option (ai×Int):=
 if i+1<j∧s.getD i 0=48 then some (ai.mk 0 0 0 [] 0,11) else
  (pK (cut s ((i:Nat):Int) ((j:Nat):Int))).bind fun r=>bif !r.2 then some (ai.mk 0 0 0 [] 0,16) else some (ai.mk 2 (i:Nat) (j:Nat) (cut s ((i:Nat):Int) ((j:Nat):Int)) r.1,0)
theorem ZC (s:List UInt8) (i:Nat) (hl:s.length<200000000000000) (NT:i<s.length): ∀ m n,n+m=s.length→i≤n→ ∀ k,m+1≤k→yo k s ((i:Nat):Int) 0 0 0 [] 0 ((n:Nat):Int) 0 ((i:Nat):Int) 0 [] 0=DU s i (ep dg s n):=by
 have UW:((s[i].toNat:Nat):Int)=48↔s[i]=48:=l9 s[i] 48 (by decide)
 have tail: ∀ n,n≤s.length→i≤n→(if 1<aj ((n:Int) - (i:Int)) then
  if 0≤(i:Int) then
  if (i:Int)<(s.length:Int) then
  if ((s.getD (i:Int).toNat 0).toNat:Int)=48 then
  some (ai.mk 0 0 0 [] 0,11) else
  if 0≤(n:Int) then
  if (n:Int)≤(s.length:Int) then
  if 0≤(i:Int) then
  if (i:Int)≤(n:Int) then
  (pK (cut s (i:Int) (n:Int))).bind fun r7=>
  bif !r7.2 then
  some (ai.mk 0 0 0 [] 0,16) else
  if 0≤(n:Int) then
  if (n:Int)≤(s.length:Int) then
  if 0≤(i:Int) then
  if (i:Int)≤(n:Int) then
  some (ai.mk 2 (i:Int) (n:Int) (cut s (i:Int) (n:Int)) r7.1,0) else none else none else none else none else none else none else none else none else none else none else
  if 0≤(n:Int) then
  if (n:Int)≤(s.length:Int) then
  if 0≤(i:Int) then
  if (i:Int)≤(n:Int) then
  (pK (cut s (i:Int) (n:Int))).bind fun r8=>
  bif !r8.2 then
  some (ai.mk 0 0 0 [] 0,16) else
  if 0≤(n:Int) then
  if (n:Int)≤(s.length:Int) then
  if 0≤(i:Int) then
  if (i:Int)≤(n:Int) then
  some (ai.mk 2 (i:Int) (n:Int) (cut s (i:Int) (n:Int)) r8.1,0) else none else none else none else none else none else none else none else none)=DU s i n:=by
  intro n hn hi
  have q0:(0:Int)≤(i:Int):=by omega
  have q1:(i:Int)<(s.length:Int):=by omega
  have q2:(0:Int)≤(n:Int):=by omega
  have q3:(n:Int)≤(s.length:Int):=by omega
  have q4:(i:Int)≤(n:Int):=by omega
  simp only [q0,q1,q2,q3,q4,if_true,Int.toNat_natCast,cz _ NT,UW]
  unfold DU
  rw [cv (by omega) (by omega),cz _ NT]
  by_cases h1:i+1<n
  · rw [if_pos (by omega)]
    by_cases h2:s[i]=48
    · rw [if_pos h2,if_pos ⟨h1,h2⟩]
    · rw [if_neg h2,if_neg (fun q=>h2 q.2)]
  · rw [if_neg (by omega),if_neg (fun q=>h1 q.1)]
 intro m
 induction m with
 | zero=>
  intro n h hi k hk
  obtain ⟨k,rfl⟩: ∃ j,k=j+1:=⟨k - 1,by omega⟩
  simp only [yo]
  rw [if_neg (by omega),JZ (by omega)]
  exact tail n (by omega) hi
 | succ m ih=>
  intro n h hi k hk
  obtain ⟨k,rfl⟩: ∃ j,k=j+1:=⟨k - 1,by omega⟩
  have hlt:n<s.length:=by omega
  have e:aj ((n:Int)+1)=((n+1:Nat):Int):=by rw [cv (by omega) (by omega)]; omega
  simp only [yo,Hg,aa]
  rw [if_pos (by omega),if_pos (by omega),if_pos (by omega),Int.toNat_natCast,cz _ hlt,e,ih (n+1) (by omega) (by omega) k (by omega)]
  have vl:isDigit ((s[n].toNat:Nat):Int)=dg s[n]:=rfl
  rw [vl]
  cases hD:dg s[n] with
  | true=>rw [cond_true,yW hlt hD]
  | false=>
   rw [cond_false,JY hlt hD]
   exact tail n (by omega) hi
theorem ac1 (t:List UInt8) (n:Nat) (hl:t.length<200000000000000) (h:n<t.length):EI t ((n:Nat):Int)=some (ff t n):=by
 refine br (t.length+1) fun k hk=> ?_
 simp only [JG,Ow,Hg,aa,Int.toNat_natCast,cz _ h,ac5 t n hl h]
 rw [if_pos (by omega),if_pos (by omega),if_pos (by omega),if_pos (by omega)]
 have vl:isDigit ((t[n].toNat:Nat):Int)=dg t[n]:=rfl
 have hlt:lI ((t[n].toNat:Nat):Int)=lt t[n]:=rfl
 rw [vl,hlt]
 unfold ff
 rw [cz _ h]
 cases hL:lt t[n] with
 | true=>
  rw [cond_true,ZB t n hl (t.length - n) n (by omega) (Nat.le_refl _) k (by omega),MA _ hL,w_]
  rfl
 | false=>
  rw [cond_false]
  cases hD:dg t[n] with
  | true=>
   rw [cond_true,ZC t n hl h (t.length - n) n (by omega) (Nat.le_refl _) k (by omega)]
   have r:=wB dg t n (by omega)
   have hc:cut t ((n:Nat):Int) ((ep dg t n:Nat):Int)=(t.drop n).takeWhile dg:=w_ dg t n
   have hlen:((t.drop n).takeWhile dg).length≤t.length:=by
    have :=zq dg (t.drop n); rw [List.length_drop] at this; omega
   have af9:ep dg t n=n+((t.drop n).takeWhile dg).length:=rfl
   have hd0:((t.drop n).takeWhile dg).getD 0 0=t[n]:=by
    rw [List.drop_eq_getElem_cons h,List.takeWhile_cons_of_pos hD]; rfl
   unfold DU o8
   rw [hc,afJ _ (by omega) (fun c hc=>Ct _ _ c hc),aa,hd0,cz _ h]
   simp only [if_true]
   by_cases h1:1<((t.drop n).takeWhile dg).length∧t[n]=48
   · rw [if_pos ⟨by omega,h1.2⟩,if_pos h1]; rfl
   · rw [if_neg (fun q=>h1 ⟨by omega,q.2⟩),if_neg h1]
     cases p_ 0 ((t.drop n).takeWhile dg) with
     | some v=>rfl
     | none=>rfl
  | false=>
   rw [cond_false]
   have hs:=y4 (t.drop n)
   rw [List.length_drop] at hs
   simp only [Bool.false_eq_true,if_false]
   by_cases hz:eO (t.drop n)=0
   · rw [if_pos (by omega),if_pos hz]
   · have e:aj ((n:Int)+((eO (t.drop n):Nat):Int))=((n+eO (t.drop n):Nat):Int):=by rw [cv (by omega) (by omega)]; omega
     rw [e,if_neg (by omega),if_neg hz,if_pos (by omega),if_pos (by omega),if_pos (by omega),if_pos (by omega),G5]
theorem Ra (t:List UInt8) (n:Nat) (hl:t.length<200000000000000) (h:n≤t.length):BQ t ((n:Nat):Int)=some ((cF false (t.drop n) n:Nat):Int):=
 br (3*(t.length - n)+1) fun k hk=>(ac6 t hl (t.length - n) n (by omega)).1 k hk
theorem aad (t:List UInt8) (hl:t.length≤16384): ∀ m n,t.length≤n+m→n≤t.length→(∀ h:n<t.length,t[n]≠32)→ ∀ l:List ai,l.length≤n→ ∀ k k',m+1≤k→m+1≤k'→
 vY k t 0 0 l ((n:Nat):Int)=some (iz k' t l n):=by
 intro m
 induction m with
 | zero=>
  intro n h hn _ l H7 k k' hk hk'
  obtain ⟨k,rfl⟩: ∃ j,k=j+1:=⟨k - 1,by omega⟩
  obtain ⟨k',rfl⟩: ∃ j,k'=j+1:=⟨k' - 1,by omega⟩
  · simp only [vY,iz,List.length_cons,List.length_nil]
    rw [if_neg (by omega),if_pos (by omega),if_neg (by omega),show (t.length:Int)=(n:Int) by omega]
 | succ m ih=>
  intro n h hn hb l H7 k k' hk hk'
  obtain ⟨k,rfl⟩: ∃ j,k=j+1:=⟨k - 1,by omega⟩
  obtain ⟨k',rfl⟩: ∃ j,k'=j+1:=⟨k' - 1,by omega⟩
  by_cases hlt:n<t.length
  · have hi:(n:Int)<(t.length:Int):=by omega
    have HQ:(l.length+(0+1))*48≤140737488355328:=by omega
    simp only [vY,iz,List.length_cons,List.length_nil,hi,hlt,if_true,ac1 t n (by omega) hlt,aa,HQ]
    by_cases hz:(ff t n).2=0
    · simp only [hz,ne_eq,not_true_eq_false,if_false]
      obtain ⟨e,he,h1,h2,_⟩:=FO t n hlt hz
      simp only [he,Ra t e (by omega) h2,aa,Int.toNat_natCast]
      have hg:=tR (t.drop e) false e
      rw [List.length_drop] at hg
      exact ih _ (by omega) (by omega) (fun hh=>Dg t e h2 hh) _ (by rw [List.length_append,List.length_singleton]; omega) k k' (by omega) (by omega)
    · simp only [hz,ne_eq,not_false_eq_true,if_true]
  · · simp only [vY,iz,List.length_cons,List.length_nil]
      rw [if_neg (by omega),if_pos (by omega),if_neg hlt,show (t.length:Int)=(n:Int) by omega]
theorem Pw (t:List UInt8):EE t=some (iA t):=by
 refine br (t.length+1) fun k hk=> ?_
 unfold JE iA
 by_cases hl:16384<t.length
 · rw [if_pos (by omega),if_pos hl]
 · have hg:=tR t false 0
   rw [if_neg (by omega),if_neg hl,show (0:Int)=((0:Nat):Int) from rfl,Ra t 0 (by omega) (Nat.zero_le _),aa]
   exact (aad t (by omega) t.length _ (by omega) (by rw [List.drop_zero]; omega) (fun hh=>Dg t 0 (Nat.zero_le _) hh) [] (Nat.zero_le _) k _ (by omega) (by omega))
end Go.Sy.Ex
namespace Go.Sy.Ex
open Go.Sy
def rs (l:List ai) (i o:Nat):bf:=⟨l,(i:Int),(o:Int),⟨0,0⟩⟩
def gO (t:ai):az:=if t.Kind=4 then ⟨12,t.At⟩ else ⟨11,t.At⟩
theorem oM (t:ai):(gO t).Code≠0:=by unfold gO; split <;> (dsimp only; decide)
section
variable {l:List ai} {i o:Nat}
theorem qZ (hi:i<l.length) (s:List UInt8):lU (rs l i o) s=some (au (ag l i) s,rs l i o):=by
 have h:dj l ((i:Nat):Int) s=some (au (ag l i) s):=by
  unfold dj au
  have e:l.getD ((i:Nat):Int).toNat ai.z=ag l i:=by rw [Int.toNat_natCast]; rfl
  rw [e]
  have a1:((i:Nat):Int)<(l.length:Int):=by omega
  have a2:0≤((i:Nat):Int):=by omega
  simp only [a1,a2,if_true]
  by_cases h3:(ag l i).Kind=3
  · rw [if_pos h3]; congr 1; rw [decide_eq_decide]; simp [h3]
  · rw [if_neg h3]
    by_cases h1:(ag l i).Kind=1
    · rw [if_pos h1]; congr 1; rw [decide_eq_decide]; simp [h1]
    · rw [if_neg h1]; congr 1; symm; rw [decide_eq_false_iff_not]; rintro ⟨h | h,_⟩ <;> contradiction
 show (dj l ((i:Nat):Int) s).bind _=_
 rw [h,aa]
theorem kf (hi:i<l.length):dG l ((i:Nat):Int)=some (gO (ag l i)):=by
 unfold dG gO
 have e:l.getD ((i:Nat):Int).toNat ai.z=ag l i:=by rw [Int.toNat_natCast]; rfl
 rw [e]
 have a1:((i:Nat):Int)<(l.length:Int):=by omega
 have a2:0≤((i:Nat):Int):=by omega
 simp only [a1,a2,if_true]
 split <;> rfl
theorem J4 (hi:i<l.length):qU (rs l i o)=some (an.mk 0 0 [] [] 0,bf.mk l (i:Int) (o:Int) (gO (ag l i))):=by
 unfold qU
 rw [if_pos (by rfl)]
 show (dG l ((i:Nat):Int)).bind _=_
 rw [kf hi,aa]; rfl
theorem KG (hi:i<l.length):mS (st l i o)=some (aS.mk (aU.mk l (i:Int) (gO (ag l i))) (o:Int)):=by
 unfold mS
 rw [sU hi,aa]
 dsimp only
 unfold gO
 by_cases h4:(ag l i).Kind=4
 · rw [if_pos h4,if_pos h4]
   unfold n5
   rw [Bh,aa]
   rfl
 · rw [if_neg h4,if_neg h4]
   unfold n5
   rw [Bh,aa]
   rfl
theorem KC (hi:i<l.length) (hl:l.length≤100000) {s:List UInt8} (h:au (ag l i) s=false):kj (st l i o) s=some (aS.mk (aU.mk l (i:Int) (gO (ag l i))) (o:Int)):=by
 unfold kj
 rw [FN hi hl,aa,h]
 dsimp only [Bool.not_false,cond_true]
 rw [if_neg (by decide),KG hi,aa]
 rfl
theorem E9 (hi:i<l.length) (hl:l.length≤100000) {s:List UInt8} (h:au (ag l i) s=true):jV (rs l i o) s=some (rs l (i+1) o):=by
 unfold jV
 rw [if_neg (by intro q; exact q rfl),qZ hi,aa,h]
 show some (bf.mk l (aj ((i:Int)+1)) (o:Int) ⟨0,0⟩)=_
 rw [cO hi hl]; rfl
theorem J3 (hi:i<l.length) {s:List UInt8} (h:au (ag l i) s=false):jV (rs l i o) s=some (bf.mk l (i:Int) (o:Int) (gO (ag l i))):=by
 unfold jV
 rw [if_neg (by intro q; exact q rfl),qZ hi,aa,h]
 dsimp only [Bool.not_false,cond_true]
 rw [J4 hi,aa]
 rfl
theorem oe (hi:i<l.length):iG l ((i:Nat):Int)=some (decide ((ag l i).Kind=1)&& !eM (ag l i).Text):=by
 unfold iG
 have e:l.getD ((i:Nat):Int).toNat ai.z=ag l i:=by rw [Int.toNat_natCast]; rfl
 rw [e]
 have a1:((i:Nat):Int)<(l.length:Int):=by omega
 have a2:0≤((i:Nat):Int):=by omega
 simp only [a1,a2,if_true]
 by_cases h1:(ag l i).Kind=1
 · rw [if_pos h1,ac3,aa,decide_eq_true h1,Bool.true_and]
 · rw [if_neg h1,decide_eq_false h1,Bool.false_and]
theorem Ca (hi:i<l.length) (hl:l.length≤100000) (ho:o<12):jU (rs l i o)=some (true,rs l (i+1) (o+1)):=by
 unfold jU
 rw [if_neg (by show ¬ ((o:Nat):Int)=12; omega)]
 show some (true,bf.mk l (aj ((i:Int)+1)) (aj ((o:Int)+1)) ⟨0,0⟩)=_
 rw [cO hi hl,show aj (((o:Nat):Int)+1)=((o+1:Nat):Int) from by rw [cv (by omega) (by omega)]; omega]
 rfl
theorem QU (hi:i<l.length):jU (rs l i 12)=some (false,bf.mk l (i:Int) 12 ⟨14,(ag l i).At⟩):=by
 unfold jU
 rw [if_pos (by rfl),if_pos (by show (0:Int)≤(i:Int); omega),if_pos (by show ((i:Nat):Int)<(l.length:Int); omega)]
 show some (false,bf.mk l (i:Int) 12 ⟨14,(l.getD ((i:Nat):Int).toNat ai.z).At⟩)=_
 rw [Int.toNat_natCast]; rfl
theorem Mz (a:Int):kL (st l i 12) a=some (false,aS.mk (aU.mk l (i:Int) ⟨14,a⟩) 12):=by
 unfold kL
 rw [if_pos (by rfl)]
 unfold n5
 rw [Bh,aa]
 rfl
end
section
variable {s:aS} (h:s.Row.av.Code≠0)
include h
theorem IX:pE s=some (false,s):=by unfold pE; rw [decide_eq_false h]
theorem Bc:jr s=some (ai.mk 4 0 0 [] 0,s):=by
 unfold jr; rw [IX h,aa]; rfl
theorem Yv (x:List UInt8):mP s x=some (false,s):=by
 unfold mP; rw [Bc h,aa]; rfl
theorem aeQ (x:List UInt8):pF s x=some (false,s):=by
 unfold pF; rw [Yv h,aa]; rfl
theorem Wz (c a:Int):n5 s c a=some s:=by
 unfold n5; rw [IX h,aa]; rfl
theorem SS:mS s=some s:=by
 unfold mS; rw [Bc h,aa]
 dsimp only
 rw [if_pos rfl,Wz h,aa]
theorem KB (x:List UInt8):kj s x=some s:=by
 unfold kj; rw [aeQ h,aa]
 dsimp only [Bool.not_false,cond_true]
 rw [SS h,aa]
 rfl
theorem Yw:qO s=some (false,s):=by
 unfold qO; rw [Bc h,aa]; rfl
theorem Zm:n7 s=some ([],s):=by
 unfold n7; rw [Yw h,aa]
 dsimp only [Bool.not_false,cond_true]
 rw [SS h,aa]
 rfl
end
theorem adp {s:bf} (h:s.bad.Code≠0) (x:List UInt8):jV s x=some s:=by unfold jV; rw [if_pos h]
theorem MR (s:aS):aS.mk (aU.mk s.Row.L s.Row.At (az.mk s.Row.av.Code s.Row.av.At)) s.bG=s:=by cases s; rename_i r o; cases r; rename_i l a f; cases f; rfl
theorem QX (s:bf):bf.mk s.l s.ah s.bG (az.mk s.bad.Code s.bad.At)=s:=by cases s; rename_i l a o f; cases f; rfl
def Fe:Nat→an→Prop
 | 0,_=>False
 | n+1,e=>e.Kids.length≤2∧ ∀ x ∈ e.Kids,Fe n x
def Fd (e:an):Prop:= ∃ n,Fe n e
theorem Fe.up: ∀ {n m:Nat} {e:an},Fe n e→n≤m→Fe m e
 | 0,_,_,h,_=>h.elim
 | n+1,0,_,_,h=>by omega
 | n+1,m+1,e,⟨h1,h4⟩,h=>⟨h1,fun x hx=>Fe.up (h4 x hx) (by omega)⟩
theorem Fd.leaf {e:an} (h:e.Kids= []):Fd e:=⟨1,by rw [h]; decide,by rw [h]; intro x hx; cases hx⟩
theorem Fd.one {e x:an} (h:e.Kids= [x]) (hx:Fd x):Fd e:=by
 obtain ⟨n,hn⟩:=hx
 exact ⟨n+1,by rw [h]; simp,by rw [h]; intro y hy; rw [List.mem_singleton] at hy; subst hy; exact hn⟩
theorem Fd.two {e x y:an} (h:e.Kids= [x,y]) (hx:Fd x) (hy:Fd y):Fd e:=by
 obtain ⟨n,hn⟩:=hx
 obtain ⟨m,hm⟩:=hy
 refine ⟨max n m+1,by rw [h]; simp, ?_⟩
 rw [h]; intro z hz
 simp only [List.mem_cons,List.not_mem_nil,or_false] at hz
 rcases hz with rfl | rfl
 · exact hn.up (by omega)
 · exact hm.up (by omega)
def Out (l:List ai) (i o:Nat) (f:Nat→Nat→Option (an×aS)) (g:Nat→Nat→Option (an×bf)):Prop:=
 (∃ e i' Z,i≤i'∧i'<l.length∧Fd e∧(∀ k,Z≤k→ ∀ k2,Z≤k2→f k k2=some (e,st l i' o))∧ ∀ k,Z≤k→ ∀ k2,Z≤k2→g k k2=some (e,rs l i' o))∨
 (∃ e s e' s' Z,s.Row.av.Code≠0∧s'.bad=s.Row.av∧(∀ k,Z≤k→ ∀ k2,Z≤k2→f k k2=some (e,s))∧ ∀ k,Z≤k→ ∀ k2,Z≤k2→g k k2=some (e',s'))
def R (l:List ai) (m:Int) (i o:Nat):Prop:=Out l (i+1) o (fun k _=>fO k (st l i o) m) (fun k _=>gS k (rs l i o) m)
def SG (l:List ai) (i o:Nat):Prop:=Out l (i+1) o (fun k k2=>lF (fO k) k2 (st l i o)) (fun k k2=>mV (gS k) k2 (rs l i o))
structure Ok (l:List ai):Prop where
 len:l.length≤100000
 word: ∀ i,(ag l i).Kind=1→(ag l i).Text≠gM∧(ag l i).Text≠fY
 more: ∀ i,i<l.length→(ag l i).Kind≠4→i+1<l.length
theorem j5 {l:List ai} {i0 o:Nat} {f:Nat→Nat→Option (an×aS)} {g:Nat→Nat→Option (an×bf)} {e:an} {s:aS} {e':an} {s':bf} (Z:Nat) (h1:s.Row.av.Code≠0) (h2:s'.bad=s.Row.av) (hf: ∀ k,Z≤k→ ∀ k2,Z≤k2→f k k2=some (e,s)) (hg: ∀ k,Z≤k→ ∀ k2,Z≤k2→g k k2=some (e',s')):Out l i0 o f g:= .inr ⟨e,s,e',s',Z,h1,h2,hf,hg⟩
section
variable {l:List ai} (H:Ok l)
include H
theorem PR {i o:Nat} (hi:i<l.length) (ho:o≤12) (IH: ∀ j o',i<j→j<l.length→o'≤12→R l 1 j o'):
 Out l (i+1) o (fun k _=>nO (fO k) (st l i o)) (fun k _=>kT (gS k) (rs l i o)):=by
 have hl:=H.len
 have more:=fun h4=>H.more i hi h4
 have a1:((i:Nat):Int)<(l.length:Int):=by omega
 have a2:0≤((i:Nat):Int):=by omega
 have et:l.getD ((i:Nat):Int).toNat ai.z=ag l i:=by rw [Int.toNat_natCast]; rfl
 have rst: ∀ i' o',bf.mk l ((i':Nat):Int) ((o':Nat):Int) ⟨0,0⟩=rs l i' o':=fun _ _=>rfl
 have f0: ∀ self,nO self (st l i o)=(if (ag l i).Kind=2 then
  some (an.mk 1 (ag l i).N [] [] (ag l i).At,st l (i+1) o) else
  bif au (ag l i) tJ then some (an.mk 3 0 [] [] (ag l i).At,st l (i+1) o) else
  bif decide ((ag l i).Kind=1)&& !eM (ag l i).Text then some (an.mk 2 0 (ag l i).Text [] (ag l i).At,st l (i+1) o) else
  bif au (ag l i) lX then
  (kj (st l (i+1) o) gM).bind fun r6=>
  (n7 r6).bind fun r7=>
  (kj r7.2 iu).bind fun r8=>
  some (an.mk 4 0 r7.1 [] (ag l i).At,r8) else
  bif !au (ag l i) gM then
  (mS (st l i o)).bind fun aJ=>
  some (an.mk 0 0 [] [] 0,aJ) else
  (kL (st l i o) (ag l i).At).bind fun bu=>
  bif !bu.1 then
  some (an.mk 0 0 [] [] 0,bu.2) else
  (self bu.2 1).bind fun bg=>
  (kj bg.2 iu).bind fun bp=>
  some (an.mk bg.1.Kind bg.1.N bg.1.Name bg.1.Kids bg.1.At,aS.mk bp.Row (aj (bp.bG - 1)))):=fun self=>by
  unfold nO
  rw [sU hi,aa]
  dsimp only
  by_cases k2:(ag l i).Kind=2
  · rw [if_pos k2,if_pos k2]
    show some (_,(⟨⟨l,aj (((i:Nat):Int)+1),⟨0,0⟩⟩,(o:Int)⟩:aS))=_
    rw [cO hi hl]; rfl
  rw [if_neg k2,if_neg k2,FN hi hl,aa]
  dsimp only
  cases au (ag l i) tJ with
  | true=>rfl
  | false=>
   rw [cond_false,cond_false,if_neg (by decide),Iy hi,aa]
   dsimp only
   cases hn:(decide ((ag l i).Kind=1)&& !eM (ag l i).Text) with
   | true=>
    rw [Bool.and_eq_true,decide_eq_true_eq,Bool.not_eq_true'] at hn
    rw [cond_true,cond_true,OP hi hl hn.1 hn.2,aa]
   | false=>
    rw [cond_false,cond_false,FN hi hl,aa]
    dsimp only
    cases au (ag l i) lX with
    | true=>rfl
    | false=>
     rw [cond_false,cond_false,if_neg (by decide),DC hi,aa]
 have g0: ∀ self,kT self (rs l i o)=(if (ag l i).Kind=2 then
  some (an.mk 1 (ag l i).N [] [] (ag l i).At,rs l (i+1) o) else
  bif au (ag l i) tJ then some (an.mk 3 0 [] [] (ag l i).At,rs l (i+1) o) else
  bif au (ag l i) lX then
  (jV (rs l (i+1) o) gM).bind fun r3=>
  if r3.bad.Code≠0 then
  some (an.mk 0 0 [] [] 0,r3) else
  (iG r3.l r3.ah).bind fun r4=>
  bif !r4 then
  (qU r3).bind fun r5=>
  some (an.mk r5.1.Kind r5.1.N r5.1.Name r5.1.Kids r5.1.At,r5.2) else
  if 0≤r3.ah then
  if r3.ah<(r3.l.length:Int) then
  (jV (bf.mk r3.l (aj (r3.ah+1)) r3.bG r3.bad) iu).bind fun r6=>
  some (an.mk 4 0 ((r3.l.getD r3.ah.toNat ai.z).Text) [] (ag l i).At,r6) else none else none else
  bif au (ag l i) gM then
  (jU (rs l i o)).bind fun r8=>
  bif !r8.1 then
  some (an.mk 0 0 [] [] 0,r8.2) else
  (self r8.2 1).bind fun r9=>
  (jV r9.2 iu).bind fun aJ=>
  some (an.mk r9.1.Kind r9.1.N r9.1.Name r9.1.Kids r9.1.At,bf.mk aJ.l aJ.ah (aj (aJ.bG - 1)) aJ.bad) else
  bif decide ((ag l i).Kind=1)&& !eM (ag l i).Text then
  some (an.mk 2 0 (ag l i).Text [] (ag l i).At,rs l (i+1) o) else
  some (an.mk 0 0 [] [] 0,bf.mk l (i:Int) (o:Int) (gO (ag l i)))):=fun self=>by
  unfold kT
  have DW:bf.mk l (aj ((i:Int)+1)) (o:Int) ⟨0,0⟩=rs l (i+1) o:=by rw [cO hi hl]; rfl
  have q1:(rs l i o).ah=(i:Int):=rfl
  have q2:(rs l i o).l=l:=rfl
  have q3:(rs l i o).bG=(o:Int):=rfl
  have q4:(rs l i o).bad=⟨0,0⟩:=rfl
  rw [q1,q2,q3,q4,et,DW,if_pos a2,if_pos a1,qZ hi,aa]
  by_cases k2:(ag l i).Kind=2
  · rw [if_pos k2,if_pos k2]
  rw [if_neg k2,if_neg k2]
  dsimp only
  rw [q1,q2,q3,q4,DW]
  cases au (ag l i) tJ with
  | true=>rfl
  | false=>
   rw [cond_false,cond_false,qZ hi,aa]
   dsimp only
   rw [q1,q2,q3,q4,DW]
   cases au (ag l i) lX with
   | true=>rfl
   | false=>
    rw [cond_false,cond_false,qZ hi,aa]
    dsimp only
    cases au (ag l i) gM with
    | true=>rfl
    | false=>
     rw [cond_false,cond_false,q1,q2,q3,q4,DW,oe hi,aa,J4 hi,aa]
 by_cases k2:(ag l i).Kind=2
 · refine .inl ⟨an.mk 1 (ag l i).N [] [] (ag l i).At,i+1,0,Nat.le_refl _,more (by omega),Fd.leaf rfl,fun k _ _ _=> ?_,fun k _ _ _=> ?_⟩
   · (try dsimp only); rw [f0,if_pos k2]
   · (try dsimp only); rw [g0,if_pos k2]
 cases hd:au (ag l i) tJ with
 | true=>
  have hk:=(of_decide_eq_true hd).1
  refine .inl ⟨an.mk 3 0 [] [] (ag l i).At,i+1,0,Nat.le_refl _,more (by omega),Fd.leaf rfl,fun k _ _ _=> ?_,fun k _ _ _=> ?_⟩
  · (try dsimp only); rw [f0,if_neg k2,hd,cond_true]
  · (try dsimp only); rw [g0,if_neg k2,hd,cond_true]
 | false=>
  cases hn:(decide ((ag l i).Kind=1)&& !eM (ag l i).Text) with
  | true=>
   have hn':=hn
   rw [Bool.and_eq_true,decide_eq_true_eq,Bool.not_eq_true'] at hn'
   have n1:au (ag l i) lX=false:=by
    unfold au; rw [decide_eq_false_iff_not]; rintro ⟨_,q⟩; rw [q] at hn'; exact absurd hn'.2 (by decide)
   have n2:au (ag l i) gM=false:=by
    unfold au; rw [decide_eq_false_iff_not]; rintro ⟨_,q⟩; exact (H.word i hn'.1).1 q
   refine .inl ⟨an.mk 2 0 (ag l i).Text [] (ag l i).At,i+1,0,Nat.le_refl _,more (by omega),Fd.leaf rfl,fun k _ _ _=> ?_,fun k _ _ _=> ?_⟩
   · (try dsimp only); rw [f0,if_neg k2,hd,cond_false,hn,cond_true]
   · (try dsimp only); rw [g0,if_neg k2,hd,cond_false,n1,cond_false,n2,cond_false,hn,cond_true]
  | false=>
   cases hin:au (ag l i) lX with
   | true=>
    have hk:=(of_decide_eq_true hin).1
    have hm:=more (by omega)
    cases h_:au (ag l (i+1)) gM with
    | false=>
     refine j5 0 (e:=an.mk 4 0 [] [] (ag l i).At) (s:=aS.mk (aU.mk l ((i+1:Nat):Int) (gO (ag l (i+1)))) (o:Int)) (e':=an.mk 0 0 [] [] 0) (s':=bf.mk l ((i+1:Nat):Int) (o:Int) (gO (ag l (i+1)))) (oM _) rfl (fun k _ _ _=> ?_) (fun k _ _ _=> ?_)
     · (try dsimp only); rw [f0,if_neg k2,hd,cond_false,hn,cond_false,hin,cond_true,KC hm hl h_,aa,Zm (oM _),aa]
       dsimp only
       rw [KB (oM _),aa]
     · (try dsimp only); rw [g0,if_neg k2,hd,cond_false,hin,cond_true,J3 hm h_,aa,if_pos (oM _)]
    | true=>
     have hk':=(of_decide_eq_true h_).1
     have hm2:=H.more (i+1) hm (by omega)
     have b1:(rs l (i+1) o).bad.Code=0:=rfl
     have b2:(rs l (i+1) o).l=l:=rfl
     have b3:(rs l (i+1) o).ah=((i+1:Nat):Int):=rfl
     cases hnm:(decide ((ag l (i+1+1)).Kind=1)&& !eM (ag l (i+1+1)).Text) with
     | false=>
      refine j5 0 (e:=an.mk 4 0 [] [] (ag l i).At) (s:=aS.mk (aU.mk l ((i+1+1:Nat):Int) (gO (ag l (i+1+1)))) (o:Int)) (e':=an.mk 0 0 [] [] 0) (s':=bf.mk l ((i+1+1:Nat):Int) (o:Int) (gO (ag l (i+1+1)))) (oM _) rfl (fun k _ _ _=> ?_) (fun k _ _ _=> ?_)
      · (try dsimp only); rw [f0,if_neg k2,hd,cond_false,hn,cond_false,hin,cond_true,FV hm hl h_,aa]
        have hname:n7 (st l (i+1+1) o)=some ([],aS.mk (aU.mk l ((i+1+1:Nat):Int) (gO (ag l (i+1+1)))) (o:Int)):=by
         unfold n7
         rw [Iy hm2,aa,hnm]
         dsimp only [Bool.not_false,cond_true]
         rw [KG hm2,aa]
         rfl
        rw [hname,aa]
        dsimp only
        rw [KB (oM _),aa]
      · (try dsimp only); rw [g0,if_neg k2,hd,cond_false,hin,cond_true,E9 hm hl h_,aa,if_neg (by intro q; exact q rfl)]
        show (iG l ((i+1+1:Nat):Int)).bind _=_
        rw [oe hm2,hnm,aa]
        rw [Bool.not_false,cond_true]
        rw [J4 hm2,aa]
     | true=>
      have H8:=hnm
      rw [Bool.and_eq_true,decide_eq_true_eq,Bool.not_eq_true'] at H8
      have iT:=H.more (i+1+1) hm2 (by omega)
      have oU: ∀ self,nO self (st l i o)=(kj (st l (i+1+1+1) o) iu).bind fun r8=>some (an.mk 4 0 (ag l (i+1+1)).Text [] (ag l i).At,r8):=fun self=>by
       rw [f0,if_neg k2,hd,cond_false,hn,cond_false,hin,cond_true,FV hm hl h_,aa,OP hm2 hl H8.1 H8.2,aa]
      have oV: ∀ self,kT self (rs l i o)=(jV (rs l (i+1+1+1) o) iu).bind fun r6=>some (an.mk 4 0 (ag l (i+1+1)).Text [] (ag l i).At,r6):=fun self=>by
       rw [g0,if_neg k2,hd,cond_false,hin,cond_true,E9 hm hl h_,aa,if_neg (by intro q; exact q rfl)]
       show (iG l ((i+1+1:Nat):Int)).bind _=_
       rw [oe hm2,hnm,aa]
       rw [Bool.not_true,cond_false]
       rw [if_pos (by show (0:Int)≤((i+1+1:Nat):Int); omega),if_pos (by show ((i+1+1:Nat):Int)<(l.length:Int); omega)]
       show (jV (bf.mk l (aj (((i+1+1:Nat):Int)+1)) (o:Int) ⟨0,0⟩) iu).bind _=_
       rw [cO hm2 hl]
       rfl
      cases jm:au (ag l (i+1+1+1)) iu with
      | false=>
       refine j5 0 (e:=an.mk 4 0 (ag l (i+1+1)).Text [] (ag l i).At) (s:=aS.mk (aU.mk l ((i+1+1+1:Nat):Int) (gO (ag l (i+1+1+1)))) (o:Int)) (e':=an.mk 4 0 (ag l (i+1+1)).Text [] (ag l i).At) (s':=bf.mk l ((i+1+1+1:Nat):Int) (o:Int) (gO (ag l (i+1+1+1)))) (oM _) rfl (fun k _ _ _=> ?_) (fun k _ _ _=> ?_)
       · (try dsimp only); rw [oU,KC iT hl jm,aa]
       · (try dsimp only); rw [oV,J3 iT jm,aa]
      | true=>
       have XH:=(of_decide_eq_true jm).1
       refine .inl ⟨an.mk 4 0 (ag l (i+1+1)).Text [] (ag l i).At,i+1+1+1+1,0,by omega,H.more _ iT (by omega),Fd.leaf rfl,fun k _ _ _=> ?_,fun k _ _ _=> ?_⟩
       · (try dsimp only); rw [oU,FV iT hl jm,aa]
       · (try dsimp only); rw [oV,E9 iT hl jm,aa]
   | false=>
    cases h_:au (ag l i) gM with
    | false=>
     refine j5 0 (e:=an.mk 0 0 [] [] 0) (s:=aS.mk (aU.mk l (i:Int) (gO (ag l i))) (o:Int)) (e':=an.mk 0 0 [] [] 0) (s':=bf.mk l (i:Int) (o:Int) (gO (ag l i))) (oM _) rfl (fun k _ _ _=> ?_) (fun k _ _ _=> ?_)
     · (try dsimp only); rw [f0,if_neg k2,hd,cond_false,hn,cond_false,hin,cond_false,h_,Bool.not_false,cond_true,KG hi,aa]
     · (try dsimp only); rw [g0,if_neg k2,hd,cond_false,hin,cond_false,h_,cond_false,hn,cond_false]
    | true=>
     have hk:=(of_decide_eq_true h_).1
     have hm:=more (by omega)
     have oU: ∀ self,nO self (st l i o)=_:=fun self=>by
      rw [f0,if_neg k2,hd,cond_false,hn,cond_false,hin,cond_false,h_,Bool.not_true,cond_false]
     have oV: ∀ self,kT self (rs l i o)=_:=fun self=>by
      rw [g0,if_neg k2,hd,cond_false,hin,cond_false,h_,cond_true]
     by_cases h12:o=12
     · subst h12
       refine j5 0 (e:=an.mk 0 0 [] [] 0) (s:=aS.mk (aU.mk l (i:Int) ⟨14,(ag l i).At⟩) 12) (e':=an.mk 0 0 [] [] 0) (s':=bf.mk l (i:Int) 12 ⟨14,(ag l i).At⟩) (by show (14:Int)≠0; decide) rfl (fun k _ _ _=> ?_) (fun k _ _ _=> ?_)
       · (try dsimp only); rw [oU,Mz,aa]; rfl
       · (try dsimp only); rw [oV,QU hi,aa]; rfl
     · have hw:aj (((o+1:Nat):Int) - 1)=(o:Int):=by rw [cv (by omega) (by omega)]; omega
       rcases IH (i+1) (o+1) (by omega) hm (by omega) with ⟨e,i',Z,h1,h2,h3,hf,hg⟩ | ⟨e,s,e',s',Z,h1,h2,hf,hg⟩
       · cases jm:au (ag l i') iu with
         | false=>
          refine j5 Z (e:=e) (s:=aS.mk (aU.mk l ((i':Nat):Int) (gO (ag l i'))) (aj (((o+1:Nat):Int) - 1))) (e':=e) (s':=bf.mk l ((i':Nat):Int) (aj (((o+1:Nat):Int) - 1)) (gO (ag l i'))) (oM _) rfl (fun k hk _ hk2=> ?_) (fun k hk _ hk2=> ?_)
          · have hf':=hf k hk _ hk2
            dsimp only at hf' ⊢; rw [oU,Ai hi hl (by omega),aa]
            dsimp only [Bool.not_true,cond_false]
            rw [hf',aa,KC h2 hl jm,aa,eta]
            rfl
          · have hg':=hg k hk _ hk2
            dsimp only at hg' ⊢; rw [oV,Ca hi hl (by omega),aa]
            dsimp only [Bool.not_true,cond_false]
            rw [hg',aa,J3 h2 jm,aa,eta]
            rfl
         | true=>
          have XH:=(of_decide_eq_true jm).1
          refine .inl ⟨e,i'+1,Z,by omega,H.more _ h2 (by omega),h3,fun k hk _ hk2=> ?_,fun k hk _ hk2=> ?_⟩
          · have hf':=hf k hk _ hk2
            dsimp only at hf' ⊢; rw [oU,Ai hi hl (by omega),aa]
            dsimp only [Bool.not_true,cond_false]
            rw [hf',aa,FV h2 hl jm,aa,eta]
            show some (e,(⟨⟨l,((i'+1:Nat):Int),⟨0,0⟩⟩,aj (((o+1:Nat):Int) - 1)⟩:aS))=_
            rw [hw]; rfl
          · have hg':=hg k hk _ hk2
            dsimp only at hg' ⊢; rw [oV,Ca hi hl (by omega),aa]
            dsimp only [Bool.not_true,cond_false]
            rw [hg',aa,E9 h2 hl jm,aa,eta]
            show some (e,(⟨l,((i'+1:Nat):Int),aj (((o+1:Nat):Int) - 1),⟨0,0⟩⟩:bf))=_
            rw [hw]; rfl
       · refine j5 Z (e:=e) (s:=aS.mk s.Row (aj (s.bG - 1))) (e':=e') (s':=bf.mk s'.l s'.ah (aj (s'.bG - 1)) s'.bad) h1 h2 (fun k hk _ hk2=> ?_) (fun k hk _ hk2=> ?_)
         · have hf':=hf k hk _ hk2
           dsimp only at hf' ⊢; rw [oU,Ai hi hl (by omega),aa]
           dsimp only [Bool.not_true,cond_false]
           rw [hf',aa,KB h1,aa,eta]
           rfl
         · have hg':=hg k hk _ hk2
           dsimp only at hg' ⊢; rw [oV,Ca hi hl (by omega),aa]
           dsimp only [Bool.not_true,cond_false]
           rw [hg',aa,adp (by rw [h2]; exact h1),aa,eta]
           rfl
theorem Tn {i o:Nat} (hi:i<l.length) (ho:o≤12) (IH: ∀ j o',i<j→j<l.length→o'≤12→R l 1 j o') (IS: ∀ j o',i<j→j<l.length→o'≤12→SG l j o'):SG l i o:=by
 have hl:=H.len
 have a1:((i:Nat):Int)<(l.length:Int):=by omega
 have a2:0≤((i:Nat):Int):=by omega
 have et:l.getD ((i:Nat):Int).toNat ai.z=ag l i:=by rw [Int.toNat_natCast]; rfl
 have q1:(rs l i o).ah=(i:Int):=rfl
 have q2:(rs l i o).l=l:=rfl
 have fb: ∀ self k2,lF self (k2+1) (st l i o)=(bif au (ag l i) gW then
  (kL (st l i o) (ag l i).At).bind fun r3=>
  bif !r3.1 then
  some (an.mk 0 0 [] [] 0,r3.2) else
  (lF self k2 r3.2).bind fun r4=>
  some (an.mk 5 0 [] [an.mk r4.1.Kind r4.1.N r4.1.Name r4.1.Kids r4.1.At] (ag l i).At,aS.mk r4.2.Row (aj (r4.2.bG - 1))) else
  bif au (ag l i) pQ then
  (kL (st l i o) (ag l i).At).bind fun r3=>
  bif !r3.1 then
  some (an.mk 0 0 [] [] 0,r3.2) else
  (lF self k2 r3.2).bind fun r4=>
  some (an.mk 6 0 [] [an.mk r4.1.Kind r4.1.N r4.1.Name r4.1.Kids r4.1.At] (ag l i).At,aS.mk r4.2.Row (aj (r4.2.bG - 1))) else
  nO self (st l i o)):=fun self k2=>by
  show Dd (lF self k2) self k2 (st l i o)=_
  unfold Dd
  rw [sU hi,aa]
  dsimp only
  rw [DC hi,aa]
  dsimp only
  cases au (ag l i) gW with
  | true=>rfl
  | false=>
   rw [cond_false,cond_false,DC hi,aa]
   dsimp only
   cases au (ag l i) pQ with
   | true=>rfl
   | false=>
    rw [cond_false,cond_false]
    cases nO self (st l i o) with
    | none=>rfl
    | some r=>rw [aa,eta]
 have gb: ∀ self k2,mV self (k2+1) (rs l i o)=(bif au (ag l i) gW then
  (jU (rs l i o)).bind fun r3=>
  bif !r3.1 then
  some (an.mk 0 0 [] [] 0,r3.2) else
  (mV self k2 r3.2).bind fun r4=>
  some (an.mk 5 0 [] [an.mk r4.1.Kind r4.1.N r4.1.Name r4.1.Kids r4.1.At] (ag l i).At,bf.mk r4.2.l r4.2.ah (aj (r4.2.bG - 1)) r4.2.bad) else
  bif au (ag l i) pQ then
  (jU (rs l i o)).bind fun r3=>
  bif !r3.1 then
  some (an.mk 0 0 [] [] 0,r3.2) else
  (mV self k2 r3.2).bind fun r4=>
  some (an.mk 6 0 [] [an.mk r4.1.Kind r4.1.N r4.1.Name r4.1.Kids r4.1.At] (ag l i).At,bf.mk r4.2.l r4.2.ah (aj (r4.2.bG - 1)) r4.2.bad) else
  kT self (rs l i o)):=fun self k2=>by
  show ET (mV self k2) self k2 (rs l i o)=_
  unfold ET
  rw [qZ hi,aa]
  dsimp only
  cases hm:au (ag l i) gW with
  | true=>
   have hb:au (ag l i) pQ=false:=by
    have :=(of_decide_eq_true hm).2
    unfold au; rw [decide_eq_false_iff_not]; rintro ⟨_,q⟩; rw [this] at q; cases q
   rw [cond_true,cond_true,qZ hi,aa]
   dsimp only
   rw [hb,cond_false,if_neg (by decide),q1,q2,et,if_pos a2,if_pos a1]
  | false=>
   rw [cond_false,cond_false,qZ hi,aa]
   dsimp only
   cases au (ag l i) pQ with
   | true=>
    rw [cond_true,cond_true,if_neg (by decide),q1,q2,et,if_pos a2,if_pos a1]
   | false=>
    rw [cond_false,cond_false,if_pos rfl]
    cases kT self (rs l i o) with
    | none=>rfl
    | some r=>rw [aa,eta]
 have Rv: ∀ K:Int,((ag l i).Kind=3∨(ag l i).Kind=1)→
  (∀ self k2,lF self (k2+1) (st l i o)=(kL (st l i o) (ag l i).At).bind fun r3=>
   bif !r3.1 then
   some (an.mk 0 0 [] [] 0,r3.2) else
   (lF self k2 r3.2).bind fun r4=>
   some (an.mk K 0 [] [an.mk r4.1.Kind r4.1.N r4.1.Name r4.1.Kids r4.1.At] (ag l i).At,aS.mk r4.2.Row (aj (r4.2.bG - 1))))→
  (∀ self k2,mV self (k2+1) (rs l i o)=(jU (rs l i o)).bind fun r3=>
   bif !r3.1 then
   some (an.mk 0 0 [] [] 0,r3.2) else
   (mV self k2 r3.2).bind fun r4=>
   some (an.mk K 0 [] [an.mk r4.1.Kind r4.1.N r4.1.Name r4.1.Kids r4.1.At] (ag l i).At,bf.mk r4.2.l r4.2.ah (aj (r4.2.bG - 1)) r4.2.bad))→SG l i o:=fun K hk fb gb=>by
  have hm:=H.more i hi (by omega)
  by_cases h12:o=12
  · subst h12
    refine j5 1 (e:=an.mk 0 0 [] [] 0) (s:=aS.mk (aU.mk l (i:Int) ⟨14,(ag l i).At⟩) 12) (e':=an.mk 0 0 [] [] 0) (s':=bf.mk l (i:Int) 12 ⟨14,(ag l i).At⟩) (by show (14:Int)≠0; decide) rfl (fun k hk k2 hk2=> ?_) (fun k hk k2 hk2=> ?_)
    · obtain ⟨k2,rfl⟩: ∃ j,k2=j+1:=⟨k2 - 1,by omega⟩
      rw [fb,Mz,aa]; rfl
    · obtain ⟨k2,rfl⟩: ∃ j,k2=j+1:=⟨k2 - 1,by omega⟩
      rw [gb,QU hi,aa]; rfl
  · have hw:aj (((o+1:Nat):Int) - 1)=(o:Int):=by rw [cv (by omega) (by omega)]; omega
    rcases IS (i+1) (o+1) (by omega) hm (by omega) with ⟨e,i',Z,h1,h2,h3,hf,hg⟩ | ⟨e,s,e',s',Z,h1,h2,hf,hg⟩
    · refine .inl ⟨an.mk K 0 [] [e] (ag l i).At,i',Z+1,by omega,h2,Fd.one rfl h3,fun k hk k2 hk2=> ?_,fun k hk k2 hk2=> ?_⟩
      · obtain ⟨k2,rfl⟩: ∃ j,k2=j+1:=⟨k2 - 1,by omega⟩
        have hf':=hf k (by omega) k2 (by omega)
        dsimp only at hf' ⊢
        rw [fb,Ai hi hl (by omega),aa]
        dsimp only [Bool.not_true,cond_false]
        rw [hf',aa,eta]
        show some (_,(⟨⟨l,((i':Nat):Int),⟨0,0⟩⟩,aj (((o+1:Nat):Int) - 1)⟩:aS))=_
        rw [hw]; rfl
      · obtain ⟨k2,rfl⟩: ∃ j,k2=j+1:=⟨k2 - 1,by omega⟩
        have hg':=hg k (by omega) k2 (by omega)
        dsimp only at hg' ⊢
        rw [gb,Ca hi hl (by omega),aa]
        dsimp only [Bool.not_true,cond_false]
        rw [hg',aa,eta]
        show some (_,(⟨l,((i':Nat):Int),aj (((o+1:Nat):Int) - 1),⟨0,0⟩⟩:bf))=_
        rw [hw]; rfl
    · refine j5 (Z+1) (e:=an.mk K 0 [] [e] (ag l i).At) (s:=aS.mk s.Row (aj (s.bG - 1))) (e':=an.mk K 0 [] [e'] (ag l i).At) (s':=bf.mk s'.l s'.ah (aj (s'.bG - 1)) s'.bad) h1 h2 (fun k hk k2 hk2=> ?_) (fun k hk k2 hk2=> ?_)
      · obtain ⟨k2,rfl⟩: ∃ j,k2=j+1:=⟨k2 - 1,by omega⟩
        have hf':=hf k (by omega) k2 (by omega)
        dsimp only at hf' ⊢
        rw [fb,Ai hi hl (by omega),aa]
        dsimp only [Bool.not_true,cond_false]
        rw [hf',aa,eta]
        rfl
      · obtain ⟨k2,rfl⟩: ∃ j,k2=j+1:=⟨k2 - 1,by omega⟩
        have hg':=hg k (by omega) k2 (by omega)
        dsimp only at hg' ⊢
        rw [gb,Ca hi hl (by omega),aa]
        dsimp only [Bool.not_true,cond_false]
        rw [hg',aa,eta]
        rfl
 cases hm:au (ag l i) gW with
 | true=>exact Rv 5 (of_decide_eq_true hm).1 (fun self k2=>by rw [fb,hm,cond_true]) (fun self k2=>by rw [gb,hm,cond_true])
 | false=>
  cases hb:au (ag l i) pQ with
  | true=>exact Rv 6 (of_decide_eq_true hb).1 (fun self k2=>by rw [fb,hm,cond_false,hb,cond_true]) (fun self k2=>by rw [gb,hm,cond_false,hb,cond_true])
  | false=>
   have fc: ∀ self k2,lF self (k2+1) (st l i o)=nO self (st l i o):=fun self k2=>by rw [fb,hm,cond_false,hb,cond_false]
   have gc: ∀ self k2,mV self (k2+1) (rs l i o)=kT self (rs l i o):=fun self k2=>by rw [gb,hm,cond_false,hb,cond_false]
   rcases PR H hi ho IH with ⟨e,i',Z,h1,h2,h3,hf,hg⟩ | ⟨e,s,e',s',Z,h1,h2,hf,hg⟩
   · refine .inl ⟨e,i',Z+1,h1,h2,h3,fun k hk k2 hk2=> ?_,fun k hk k2 hk2=> ?_⟩
     · obtain ⟨k2,rfl⟩: ∃ j,k2=j+1:=⟨k2 - 1,by omega⟩
       dsimp only; rw [fc]; exact hf k (by omega) k (by omega)
     · obtain ⟨k2,rfl⟩: ∃ j,k2=j+1:=⟨k2 - 1,by omega⟩
       dsimp only; rw [gc]; exact hg k (by omega) k (by omega)
   · refine j5 (e:=e) (s:=s) (e':=e') (s':=s') (Z+1) h1 h2 (fun k hk k2 hk2=> ?_) (fun k hk k2 hk2=> ?_)
     · obtain ⟨k2,rfl⟩: ∃ j,k2=j+1:=⟨k2 - 1,by omega⟩
       rw [fc]; exact hf k (by omega) k (by omega)
     · obtain ⟨k2,rfl⟩: ∃ j,k2=j+1:=⟨k2 - 1,by omega⟩
       rw [gc]; exact hg k (by omega) k (by omega)
omit H in
theorem R6 {i o:Nat} (h:SG l i o):R l 6 i o:=by
 have p6: ∀ k,gS (k+1) (rs l i o) 6=(yy (gS k) (rs l i o)).bind fun r1=>some (an.mk r1.1.Kind r1.1.N r1.1.Name r1.1.Kids r1.1.At,r1.2):=fun k=>by
  show tw (gS k) k _ 6=_
  unfold tw
  rw [if_pos rfl]
 rcases h with ⟨e,i',Z,h1,h2,h3,hf,hg⟩ | ⟨e,s,e',s',Z,h1,h2,hf,hg⟩
 · refine .inl ⟨e,i',Z+1,h1,h2,h3,fun k hk k2 hk2=> ?_,fun k hk k2 hk2=> ?_⟩
   · obtain ⟨k,rfl⟩: ∃ j,k=j+1:=⟨k - 1,by omega⟩
     dsimp only
     rw [I6,show uR (fO k) (st l i o)=some (e,st l i' o) from br Z fun j hj=>hf k (by omega) j hj,aa,eta]
   · obtain ⟨k,rfl⟩: ∃ j,k=j+1:=⟨k - 1,by omega⟩
     dsimp only
     rw [p6,show yy (gS k) (rs l i o)=some (e,rs l i' o) from br Z fun j hj=>hg k (by omega) j hj,aa,eta]
 · refine j5 (e:=e) (s:=s) (e':=e') (s':=s') (Z+1) h1 h2 (fun k hk k2 hk2=> ?_) (fun k hk k2 hk2=> ?_)
   · obtain ⟨k,rfl⟩: ∃ j,k=j+1:=⟨k - 1,by omega⟩
     rw [I6,show uR (fO k) (st l i o)=some (e,s) from br Z fun j hj=>hf k (by omega) j hj,aa,eta]
   · obtain ⟨k,rfl⟩: ∃ j,k=j+1:=⟨k - 1,by omega⟩
     rw [p6,show yy (gS k) (rs l i o)=some (e',s') from br Z fun j hj=>hg k (by omega) j hj,aa,eta]
end
theorem Ol {m:Int} (hm:1≤m) (gC:m≤5) (s:List UInt8):BT m s=some (if (dI s).2=m then (dI s).1 else 0):=by
 have dL: ∀ own kd:Int,(jt m own kd).bind (fun r=>some r)=some (if own=m then kd else 0):=fun own kd=>by
  unfold jt
  by_cases h:m=own
  · rw [if_pos h,aa,if_pos h.symm]
  · rw [if_neg h,aa,if_neg (fun q=>h q.symm)]
 unfold BT
 simp only [dL]
 by_cases u5:s=iJ
 · subst u5
   rw [show dI iJ=(19,1) from by decide]
   simp
 rw [if_neg u5]
 by_cases uZ:s=iH
 · subst uZ
   rw [show dI iH=(18,2) from by decide]
   simp
 rw [if_neg uZ]
 by_cases u_:s=tL
 · subst u_
   rw [show dI tL=(12,3) from by decide]
   simp
 rw [if_neg u_]
 by_cases vc:s=iM
 · subst vc
   rw [show dI iM=(13,3) from by decide]
   simp
 rw [if_neg vc]
 by_cases u7:s=tK
 · subst u7
   rw [show dI tK=(14,3) from by decide]
   simp
 rw [if_neg u7]
 by_cases u9:s=iL
 · subst u9
   rw [show dI iL=(15,3) from by decide]
   simp
 rw [if_neg u9]
 by_cases u6:s=iK
 · subst u6
   rw [show dI iK=(16,3) from by decide]
   simp
 rw [if_neg u6]
 by_cases u0:s=iI
 · subst u0
   rw [show dI iI=(17,3) from by decide]
   simp
 rw [if_neg u0]
 by_cases vg:s=ey
 · subst vg
   rw [show dI ey=(10,4) from by decide]
   simp
 rw [if_neg vg]
 by_cases ve:s=gW
 · subst ve
   rw [show dI gW=(11,4) from by decide]
   simp
 rw [if_neg ve]
 by_cases vi:s=tP
 · subst vi
   rw [show dI tP=(7,5) from by decide]
   simp
 rw [if_neg vi]
 by_cases vh:s=tO
 · subst vh
   rw [show dI tO=(8,5) from by decide]
   simp
 rw [if_neg vh]
 by_cases vf:s=tN
 · subst vf
   rw [show dI tN=(9,5) from by decide]
   simp
 rw [if_neg vf]
 rw [show dI s=(0,0) from by
  unfold dI y5
  simp only [List.find?_cons,List.find?_nil,show (iJ == s)=false from beq_false_of_ne (Ne.symm u5),show (iH == s)=false from beq_false_of_ne (Ne.symm uZ),show (tL == s)=false from beq_false_of_ne (Ne.symm u_),show (iM == s)=false from beq_false_of_ne (Ne.symm vc),show (tK == s)=false from beq_false_of_ne (Ne.symm u7),show (iL == s)=false from beq_false_of_ne (Ne.symm u9),show (iK == s)=false from beq_false_of_ne (Ne.symm u6),show (iI == s)=false from beq_false_of_ne (Ne.symm u0),show (ey == s)=false from beq_false_of_ne (Ne.symm vg),show (gW == s)=false from beq_false_of_ne (Ne.symm ve),show (tP == s)=false from beq_false_of_ne (Ne.symm vi),show (tO == s)=false from beq_false_of_ne (Ne.symm vh),show (tN == s)=false from beq_false_of_ne (Ne.symm vf)]]
 rw [if_neg (by show ¬ (0:Int)=m; omega)]
theorem ady {s:List UInt8} (h:(dI s).2≠0):(dI s).1≠0:=by
 unfold dI at h ⊢
 cases hf:y5.find? (fun p=>p.1 == s) with
 | none=>rw [hf] at h; exact absurd rfl h
 | some p=>
  have hm:=List.mem_of_find?_eq_some hf
  simp only [y5,List.mem_cons,List.not_mem_nil,or_false] at hm
  dsimp only
  rcases hm with rfl | rfl | rfl | rfl | rfl | rfl | rfl | rfl | rfl | rfl | rfl | rfl | rfl <;> decide
noncomputable def tH (k k':Nat) (l:List ai) (i o:Nat) (m:Int) (e:an):Option (an×bf):=
 qT (gS k) k' l ((i:Nat):Int) ((o:Nat):Int) 0 0 m 0 0 [] [] 0 e.Kind e.N e.Name e.Kids e.At
theorem Q8 (k:Nat) {l:List ai} {i o:Nat} {m:Int} (hm:1≤m) (gC:m≤5) {e:an} {i':Nat} (h:gS k (rs l i o) (m+1)=some (e,rs l i' o)):
 gS (k+1) (rs l i o) m=tH k k l i' o m e:=by
 show tw (gS k) k (rs l i o) m=_
 unfold tw
 rw [if_neg (by omega),cv (by omega) (by omega),h,aa]
 rfl
theorem ac2 (k:Nat) {l:List ai} {i o:Nat} {m:Int} (hm:1≤m) (gC:m≤5) {e:an} {s:bf} (hs:s.bad.Code≠0) (hk:1≤k) (h:gS k (rs l i o) (m+1)=some (e,s)):
 gS (k+1) (rs l i o) m=some (e,s):=by
 show tw (gS k) k (rs l i o) m=_
 unfold tw
 rw [if_neg (by omega),cv (by omega) (by omega),h,aa]
 obtain ⟨k',rfl⟩: ∃ j,k=j+1:=⟨k - 1,by omega⟩
 rw [qT.eq_2,if_neg hs,QX,eta]
theorem ZN {k:Nat} {l:List ai} {i o:Nat} {m:Int} (h1:1≤m) (h5:m≤5) {e:an} {s:aS} (hs:s.Row.av.Code≠0) (hk:1≤k) (h:fO k (st l i o) (m+1)=some (e,s)):fO (k+1) (st l i o) m=some (e,s):=by
 show sK (fO k) k (st l i o) m=_
 unfold sK
 rw [if_neg (by omega),cv (by omega) (by omega),h,aa]
 obtain ⟨k',rfl⟩: ∃ j,k=j+1:=⟨k - 1,by omega⟩
 simp only [qv]
 rw [MR,Bc hs,aa,sign_eq,aa]
 dsimp only
 rw [if_pos (by decide),eta]
theorem Y_ (k k':Nat) {l:List ai} (hl:l.length≤100000) (i o:Nat) {m:Int} (hm:1≤m) (gC:m≤5) (hi:i<l.length) (h3:(ag l i).Kind=3) (hg:(dI (ag l i).Text).2=m) (e:an) {y:an} {s:aS} (hs:s.Row.av.Code≠0)
 (hy:fO k (st l (i+1) o) (m+1)=some (y,s)):
 loop k (k'+2) l i o m e=some (an.mk (dI (ag l i).Text).1 0 [] [e,y] (ag l i).At,s):=by
 unfold loop
 rw [qv.eq_2]
 rw [show (aS.mk (aU.mk l ((i:Nat):Int) (az.mk 0 0)) ((o:Nat):Int))=st l i o from rfl,sU hi,aa,sign_eq,aa,eta]
 dsimp only
 rw [if_neg (by simp [h3]),if_neg (by simp [hg])]
 rw [show (aS.mk (aU.mk (st l i o).Row.L (aj ((st l i o).Row.At+1)) (st l i o).Row.av) (st l i o).bG)=st l (i+1) o from by
  show (⟨⟨l,aj (((i:Nat):Int)+1),⟨0,0⟩⟩,(o:Int)⟩:aS)=_
  rw [cO hi hl]; rfl]
 rw [cv (by omega) (by omega),hy,aa]
 simp only [eta]
 by_cases iT:m=3
 · rw [if_pos iT]
 · rw [if_neg iT,qv.eq_2,MR,Bc hs,aa,sign_eq,aa]
   dsimp only
   rw [if_pos (by decide)]
theorem ac0 (k k':Nat) {l:List ai} (i o:Nat) {m:Int} (hm:1≤m) (gC:m≤5) (hi:i<l.length) (hs:rL (ag l i)≠m) (e:an):tH k (k'+2) l i o m e=some (e,rs l i o):=by
 unfold tH
 have et:l.getD ((i:Nat):Int).toNat ai.z=ag l i:=by rw [Int.toNat_natCast]; rfl
 rw [qT.eq_2,if_pos rfl,if_pos (by omega),if_pos (by omega),if_pos (by omega),et,eta]
 unfold rL at hs
 by_cases h3:(ag l i).Kind=3
 · rw [if_pos h3] at hs
   rw [if_pos h3,ER.eq_2,if_pos (by omega),if_pos (by omega),et,Ol hm gC,aa,if_neg hs,if_pos rfl,eta]
   rfl
 · rw [if_neg h3]; rfl
theorem QZ (k k':Nat) {l:List ai} (hl:l.length≤100000) (i o:Nat) {m:Int} (hm:1≤m) (gC:m≤5) (hi:i<l.length) (h3:(ag l i).Kind=3) (hg:(dI (ag l i).Text).2=m) (e:an) {y:an} {s:bf}
 (hy:gS k (rs l (i+1) o) (m+1)=some (y,s)):
 tH k (k'+2) l i o m e=if m=3 then some (an.mk (dI (ag l i).Text).1 0 [] [e,y] (ag l i).At,s) else
  qT (gS k) k' s.l s.ah s.bG s.bad.Code s.bad.At m 0 0 [] [] 0 (dI (ag l i).Text).1 0 [] [e,y] (ag l i).At:=by
 unfold tH
 have et:l.getD ((i:Nat):Int).toNat ai.z=ag l i:=by rw [Int.toNat_natCast]; rfl
 rw [qT.eq_2,if_pos rfl,if_pos (by omega),if_pos (by omega),if_pos (by omega),et,if_pos h3,ER.eq_2,if_pos (by omega),if_pos (by omega),et,Ol hm gC,aa,if_pos hg]
 rw [if_neg (ady (by omega)),if_pos (by omega),if_pos (by omega),cO hi hl,cv (by omega) (by omega)]
 rw [show bf.mk l ((i+1:Nat):Int) ((o:Nat):Int) (az.mk 0 0)=rs l (i+1) o from rfl,hy,aa]
 simp only [eta]
theorem LP {l:List ai} (H:Ok l) {i o:Nat} {m:Int} (hm:1≤m) (gC:m≤5) (ho:o≤12) (IH: ∀ j,i<j→j<l.length→R l (m+1) j o):
 ∀ (r i':Nat) (e:an),l.length≤i'+r→i≤i'→i'<l.length→Fd e→Out l i' o (fun k k2=>loop k k2 l i' o m e) (fun k k2=>tH k k2 l i' o m e)
 | 0,i',e,hr,_,hi,_=>by omega
 | r+1,i',e,hr,h0,hi,qz=>by
  by_cases hs:rL (ag l i')=m
  case neg=>
   refine .inl ⟨e,i',2,Nat.le_refl _,hi,qz,fun k hk k2 hk2=> ?_,fun k hk k2 hk2=> ?_⟩
   · exact OI k k2 l i' o hm hi hs e (by omega)
   · obtain ⟨k2,rfl⟩: ∃ j,k2=j+2:=⟨k2 - 2,by omega⟩
     exact ac0 k k2 i' o hm gC hi hs e
  have h3:(ag l i').Kind=3:=by
   unfold rL at hs
   by_cases h3:(ag l i').Kind=3
   · exact h3
   · rw [if_neg h3] at hs; omega
  have hg:(dI (ag l i').Text).2=m:=by unfold rL at hs; rwa [if_pos h3] at hs
  have Dw:=H.more i' hi (by omega)
  rcases IH (i'+1) (by omega) Dw with ⟨y,xE,Z,h1,h2,NR,hf,hg'⟩ | ⟨y,s,y',s',Z,h1,h2,hf,hg'⟩
  · have hstep: ∀ k k2,Z≤k→loop k (k2+1) l i' o m e=if m=3 then some (an.mk (dI (ag l i').Text).1 0 [] [e,y] (ag l i').At,st l xE o) else loop k k2 l xE o m (an.mk (dI (ag l i').Text).1 0 [] [e,y] (ag l i').At):=fun k k2 hk=>by
     have hy:=hf k hk k hk
     dsimp only at hy
     have ht:strip (ag l i')=(3,(ag l i').Text,(ag l i').N):=by unfold strip; rw [h3]
     unfold loop
     rw [qv.eq_2]
     rw [show (aS.mk (aU.mk l ((i':Nat):Int) (az.mk 0 0)) ((o:Nat):Int))=st l i' o from rfl,sU hi,aa,sign_eq,aa,eta]
     dsimp only
     rw [if_neg (by simp [h3]),if_neg (by simp [hg])]
     rw [show (aS.mk (aU.mk (st l i' o).Row.L (aj ((st l i' o).Row.At+1)) (st l i' o).Row.av) (st l i' o).bG)=st l (i'+1) o from by
      show (⟨⟨l,aj (((i':Nat):Int)+1),⟨0,0⟩⟩,(o:Int)⟩:aS)=_
      rw [cO hi H.len]; rfl]
     rw [cv (by omega) (by omega),hy,aa]
     simp only [eta]
     rfl
    have JX: ∀ k k2,Z≤k→tH k (k2+2) l i' o m e=if m=3 then some (an.mk (dI (ag l i').Text).1 0 [] [e,y] (ag l i').At,rs l xE o) else tH k k2 l xE o m (an.mk (dI (ag l i').Text).1 0 [] [e,y] (ag l i').At):=fun k k2 hk=>
     QZ k k2 H.len i' o hm gC hi h3 hg e (hg' k hk k hk)
    by_cases iT:m=3
    · refine .inl ⟨an.mk (dI (ag l i').Text).1 0 [] [e,y] (ag l i').At,xE,Z+2,by omega,h2,Fd.two rfl qz NR,fun k hk k2 hk2=> ?_,fun k hk k2 hk2=> ?_⟩
      · obtain ⟨k2,rfl⟩: ∃ j,k2=j+1:=⟨k2 - 1,by omega⟩
        dsimp only; rw [hstep k k2 (by omega),if_pos iT]
      · obtain ⟨k2,rfl⟩: ∃ j,k2=j+2:=⟨k2 - 2,by omega⟩
        dsimp only; rw [JX k k2 (by omega),if_pos iT]
    · rcases LP H hm gC ho IH r xE (an.mk (dI (ag l i').Text).1 0 [] [e,y] (ag l i').At) (by omega) (by omega) h2 (Fd.two rfl qz NR) with ⟨e2,j,Z2,j1,j2,j3,jf,jg⟩ | ⟨e2,s,Hh,s',Z2,j1,j2,jf,jg⟩
      · refine .inl ⟨e2,j,Z+Z2+2,by omega,j2,j3,fun k hk k2 hk2=> ?_,fun k hk k2 hk2=> ?_⟩
        · obtain ⟨k2,rfl⟩: ∃ j,k2=j+1:=⟨k2 - 1,by omega⟩
          dsimp only; rw [hstep k k2 (by omega),if_neg iT]; exact jf k (by omega) k2 (by omega)
        · obtain ⟨k2,rfl⟩: ∃ j,k2=j+2:=⟨k2 - 2,by omega⟩
          dsimp only; rw [JX k k2 (by omega),if_neg iT]; exact jg k (by omega) k2 (by omega)
      · refine j5 (e:=e2) (s:=s) (e':=Hh) (s':=s') (Z+Z2+2) j1 j2 (fun k hk k2 hk2=> ?_) (fun k hk k2 hk2=> ?_)
        · obtain ⟨k2,rfl⟩: ∃ j,k2=j+1:=⟨k2 - 1,by omega⟩
          rw [hstep k k2 (by omega),if_neg iT]; exact jf k (by omega) k2 (by omega)
        · obtain ⟨k2,rfl⟩: ∃ j,k2=j+2:=⟨k2 - 2,by omega⟩
          rw [JX k k2 (by omega),if_neg iT]; exact jg k (by omega) k2 (by omega)
  · refine j5 (e:=an.mk (dI (ag l i').Text).1 0 [] [e,y] (ag l i').At) (s:=s) (e':=an.mk (dI (ag l i').Text).1 0 [] [e,y'] (ag l i').At) (s':=s') (Z+3) h1 h2 (fun k hk k2 hk2=> ?_) (fun k hk k2 hk2=> ?_)
    · obtain ⟨k2,rfl⟩: ∃ j,k2=j+2:=⟨k2 - 2,by omega⟩
      exact Y_ k k2 H.len i' o hm gC hi h3 hg e h1 (hf k (by omega) k (by omega))
    · obtain ⟨k2,rfl⟩: ∃ j,k2=j+3:=⟨k2 - 3,by omega⟩
      rw [QZ k (k2+1) H.len i' o hm gC hi h3 hg e (hg' k (by omega) k (by omega))]
      by_cases iT:m=3
      · rw [if_pos iT]
      · rw [if_neg iT,qT.eq_2,if_neg (by rw [h2]; exact h1),QX]
theorem Tj {l:List ai} (H:Ok l) {i o:Nat} {m:Int} (hm:1≤m) (gC:m≤5) (hi:i<l.length) (ho:o≤12) (IH: ∀ j,i<j→j<l.length→R l (m+1) j o) (h:R l (m+1) i o):R l m i o:=by
 rcases h with ⟨e,i',Z,h1,h2,qz,hf,hg⟩ | ⟨e,s,e',s',Z,h1,h2,hf,hg⟩
 · rcases LP H hm gC ho IH l.length i' e (by omega) (by omega) h2 qz with ⟨e2,j,Z2,j1,j2,j3,jf,jg⟩ | ⟨e2,s,Hh,s',Z2,j1,j2,jf,jg⟩
   · refine .inl ⟨e2,j,Z+Z2+1,by omega,j2,j3,fun k hk k2 hk2=> ?_,fun k hk k2 hk2=> ?_⟩
     · obtain ⟨k,rfl⟩: ∃ j,k=j+1:=⟨k - 1,by omega⟩
       dsimp only; rw [I8 k l i o hm gC (hf k (by omega) k (by omega))]; exact jf k (by omega) k (by omega)
     · obtain ⟨k,rfl⟩: ∃ j,k=j+1:=⟨k - 1,by omega⟩
       dsimp only; rw [Q8 k hm gC (hg k (by omega) k (by omega))]; exact jg k (by omega) k (by omega)
   · refine j5 (e:=e2) (s:=s) (e':=Hh) (s':=s') (Z+Z2+1) j1 j2 (fun k hk k2 hk2=> ?_) (fun k hk k2 hk2=> ?_)
     · obtain ⟨k,rfl⟩: ∃ j,k=j+1:=⟨k - 1,by omega⟩
       rw [I8 k l i o hm gC (hf k (by omega) k (by omega))]; exact jf k (by omega) k (by omega)
     · obtain ⟨k,rfl⟩: ∃ j,k=j+1:=⟨k - 1,by omega⟩
       rw [Q8 k hm gC (hg k (by omega) k (by omega))]; exact jg k (by omega) k (by omega)
 · refine j5 (e:=e) (s:=s) (e':=e') (s':=s') (Z+2) h1 h2 (fun k hk k2 hk2=> ?_) (fun k hk k2 hk2=> ?_)
   · obtain ⟨k,rfl⟩: ∃ j,k=j+1:=⟨k - 1,by omega⟩
     exact ZN hm gC h1 (by omega) (hf k (by omega) k (by omega))
   · obtain ⟨k,rfl⟩: ∃ j,k=j+1:=⟨k - 1,by omega⟩
     exact ac2 k hm gC (by rw [h2]; exact h1) (by omega) (hg k (by omega) k (by omega))
theorem both {l:List ai} (H:Ok l): ∀ (n i o:Nat),l.length≤i+n→i<l.length→o≤12→SG l i o∧ ∀ (j:Nat) (m:Int),m=6 - (j:Int)→1≤m→R l m i o
 | 0,i,o,hn,hi,_=>by omega
 | n+1,i,o,hn,hi,ho=>by
  have IH: ∀ j o',i<j→j<l.length→o'≤12→SG l j o'∧ ∀ (q:Nat) (m:Int),m=6 - (q:Int)→1≤m→R l m j o':=fun j o' h1 h2 h3=>both H n j o' (by omega) h2 h3
  have hS:=Tn H hi ho (fun j o' h1 h2 h3=>(IH j o' h1 h2 h3).2 5 1 rfl (by decide)) (fun j o' h1 h2 h3=>(IH j o' h1 h2 h3).1)
  refine ⟨hS,fun j=> ?_⟩
  induction j with
  | zero=>
   intro m hm h1
   have :m=6:=by omega
   subst this
   exact R6 hS
  | succ j ih=>
   intro m hm h1
   exact Tj H h1 (by omega) hi ho (fun q h2 h3=>(IH q o h2 h3 ho).2 j (m+1) (by omega) (by omega)) (ih (m+1) (by omega) (by omega))
end Go.Sy.Ex
namespace Go.Sy.Ex
open Go.Sy
def Wd (x:ai):Prop:=x.Kind=1→x.Text≠gM∧x.Text≠fY
theorem aeR (t:List UInt8) (n:Nat):Wd (ff t n).1:=by
 unfold ff
 split
 · dsimp only
   split <;> (intro h; revert h; dsimp only; intro h; cases h)
 · split
   · split
     · intro h; cases h
     · intro _
       refine ⟨fun h=> ?_,fun h=> ?_⟩
       · have hm:(40:UInt8) ∈ (t.drop n).takeWhile nm:=by
          have h':(t.drop n).takeWhile nm= [40]:=h
          rw [h']; simp
         have :=Ct nm (t.drop n) 40 hm
         revert this; decide
       · have hm:(93:UInt8) ∈ (t.drop n).takeWhile nm:=by
          have h':(t.drop n).takeWhile nm= [93]:=h
          rw [h']; simp
         have :=Ct nm (t.drop n) 93 hm
         revert this; decide
   · split <;> (intro h; cases h)
theorem Lp (t:List UInt8): ∀ (k:Nat) (l:List ai) (n:Nat),n≤t.length→t.length<n+k→(iz k t l n).2.Code=0→(∀ x ∈ l,Wd x)→ ∃ L z,(iz k t l n).1=L++ [z]∧z.Kind=4∧ ∀ x ∈ L,Wd x
 | 0,l,n,h1,h2,_,_=>by omega
 | k+1,l,n,h1,h2,h3,h4=>by
  simp only [iz] at h3 ⊢
  by_cases hn:n<t.length
  · rw [if_pos hn] at h3 ⊢
    by_cases hz:(ff t n).2≠0
    · rw [if_pos hz] at h3; exact absurd h3 hz
    · rw [if_neg hz] at h3 ⊢
      obtain ⟨e,he,h5,h6,_⟩:=FO t n hn (Classical.not_not.1 hz)
      rw [he,Int.toNat_natCast] at h3 ⊢
      have hg:=tR (t.drop e) false e
      rw [List.length_drop] at hg
      refine Lp t k _ _ (by omega) (by omega) h3 fun x hx=> ?_
      rw [List.mem_append,List.mem_singleton] at hx
      rcases hx with hx | rfl
      · exact h4 x hx
      · exact aeR t n
  · rw [if_neg hn]
    exact ⟨l,_,rfl,rfl,h4⟩
theorem Uj {t:List UInt8} (h:(iA t).2.Code=0):Ok (iA t).1∧0<(iA t).1.length:=by
 have hlen:=Ui t
 obtain ⟨L,z,h1,h2,h3⟩: ∃ L z,(iA t).1=L++ [z]∧z.Kind=4∧ ∀ x ∈ L,Wd x:=by
  unfold iA at h ⊢
  by_cases hl:16384<t.length
  · rw [if_pos hl] at h; exact absurd h (by decide)
  · rw [if_neg hl] at h ⊢
    have hg:=tR t false 0
    exact Lp t _ [] _ (by omega) (by omega) h (fun x hx=>by cases hx)
 rw [h1] at hlen ⊢
 rw [List.length_append,List.length_singleton] at hlen
 refine ⟨⟨by rw [List.length_append,List.length_singleton]; omega,fun i hk=> ?_,fun i hi hk=> ?_⟩,by simp⟩
 · unfold ag at hk ⊢
   by_cases hi:i<(L++ [z]).length
   · rw [cz _ hi] at hk ⊢
     by_cases hi2:i<L.length
     · rw [List.getElem_append_left hi2] at hk ⊢
       exact h3 _ (List.getElem_mem hi2) hk
     · rw [List.getElem_append_right (by omega)] at hk
       simp only [List.getElem_singleton] at hk
       rw [h2] at hk; cases hk
   · rw [List.getD_eq_getElem?_getD,List.getElem?_eq_none (by omega)] at hk
     cases hk
 · rw [List.length_append,List.length_singleton] at hi ⊢
   by_cases hi2:i<L.length
   · omega
   · exfalso; apply hk
     unfold ag
     rw [cz _ (by rw [List.length_append,List.length_singleton]; omega),List.getElem_append_right (by omega)]
     simp only [List.getElem_singleton]
     exact h2
end Go.Sy.Ex
namespace Go.Sy.Ex
open Go.Sy
def at' (l:List ai) (i o:Nat):aK:=⟨⟨l,(i:Int),⟨0,0⟩⟩,(o:Int)⟩
section
variable {l:List ai} {i o:Nat}
theorem mu:kS (at' l i o)=some (true,at' l i o):=rfl
theorem ql (hi:i<l.length):jq (at' l i o)=some (ag l i,at' l i o):=by
 unfold jq
 rw [mu,aa]
 have h1: ¬ ((i:Nat):Int)<0:=by omega
 have h2: ¬ (l.length:Int)≤((i:Nat):Int):=by omega
 have h3:0≤((i:Nat):Int):=by omega
 have h4:((i:Nat):Int)<(l.length:Int):=by omega
 simp only [Bool.not_true,cond_false,at',Int.toNat_natCast,h1,h2,h3,h4,if_true,if_false]; rfl
theorem qk (hi:i<l.length) (s:List UInt8):kR (at' l i o) s=some (au (ag l i) s,at' l i o):=by
 unfold kR au
 rw [ql hi,aa]
 dsimp only
 by_cases h3:(ag l i).Kind=3
 · rw [if_pos h3]; congr 2; rw [decide_eq_decide]; simp [h3]
 · rw [if_neg h3]
   by_cases h1:(ag l i).Kind=1
   · rw [if_pos h1]; congr 2; rw [decide_eq_decide]; simp [h1]
   · rw [if_neg h1]
     congr 2
     symm
     rw [decide_eq_false_iff_not]
     rintro ⟨h | h,_⟩ <;> contradiction
theorem ji (hi:i<l.length) (hl:l.length≤100000) (s:List UInt8):iX (at' l i o) s=some (au (ag l i) s,if au (ag l i) s=true then at' l (i+1) o else at' l i o):=by
 unfold iX
 rw [qk hi,aa]
 dsimp only
 cases h:au (ag l i) s with
 | true=>
  rw [cond_true,if_pos rfl]
  show some (true,(⟨⟨l,aj (((i:Nat):Int)+1),⟨0,0⟩⟩,(o:Int)⟩:aK))=_
  rw [cO hi hl]; rfl
 | false=>rw [cond_false,if_neg (by simp)]
theorem wS (hi:i<l.length) (hl:l.length≤100000) {s:List UInt8} (h:au (ag l i) s=true):dZ (at' l i o) s=some (at' l (i+1) o):=by
 unfold dZ
 rw [ji hi hl,aa,h]; rfl
theorem CQ (hi:i<l.length):qN (at' l i o)=some (decide ((ag l i).Kind=1)&& !eM (ag l i).Text,at' l i o):=by
 unfold qN
 rw [ql hi,aa]
 dsimp only
 by_cases h1:(ag l i).Kind=1
 · rw [if_pos h1,DQ,aa,decide_eq_true h1]; rfl
 · rw [if_neg h1,decide_eq_false h1]; rfl
theorem Lq (hi:i<l.length) (hl:l.length≤100000) (h1:(ag l i).Kind=1) (h2:eM (ag l i).Text=false):ic (at' l i o)=some ((ag l i).Text,at' l (i+1) o):=by
 unfold ic
 rw [CQ hi,aa]
 dsimp only
 rw [decide_eq_true h1,h2]
 show (if 0≤aj (aj (((i:Nat):Int)+1) - 1) then if aj (aj (((i:Nat):Int)+1) - 1)<(l.length:Int) then some ((l.getD (aj (aj (((i:Nat):Int)+1) - 1)).toNat ai.z).Text,(⟨⟨l,aj (((i:Nat):Int)+1),⟨0,0⟩⟩,(o:Int)⟩:aK)) else none else none)=_
 rw [cO hi hl,show aj (((i+1:Nat):Int) - 1)=((i:Nat):Int) from by rw [cv (by omega) (by omega)]; omega,if_pos (by omega),if_pos (by omega),Int.toNat_natCast]
 rfl
end
structure H where
 kind:Int
 name:List UInt8
 ev:List UInt8
 x:Option T
 n:Int
inductive B where
 | nil | cons (h:H) (th el rest:B)
def xok (x:Option T):Prop:=match x with
 | none=>True
 | some t=>t.ok∧o7 t 1≤12
def H.ok (h:H) (th el:B):Prop:=xok h.x∧
 ((h.kind=1∧nW h.name=true∧h.ev= []∧h.x≠none∧h.n=0∧th= .nil∧el= .nil)∨
  (h.kind=2∧h.name= []∧nW h.ev=true∧h.n=0∧th= .nil∧el= .nil)∨
  (h.kind=3∧nW h.name=true∧nW h.ev=true∧h.n=0∧th= .nil∧el= .nil)∨
  (h.kind=4∧nW h.name=true∧h.ev= []∧h.x≠none∧h.n=0∧th= .nil∧el= .nil)∨
  (h.kind=5∧nW h.name=true∧h.ev= []∧h.x=none∧h.n=0∧th= .nil∧el= .nil)∨
  (h.kind=6∧h.name= []∧h.ev= []∧h.x≠none∧h.n=0)∨
  (h.kind=7∧h.name= []∧h.ev= []∧h.x=none∧0≤h.n∧h.n≤9223372036854775807∧el= .nil))
def B.ok:B→Prop
 | .nil=>True
 | .cons h th el rest=>h.ok th el∧th.ok∧el.ok∧rest.ok
def B.isNil:B→Bool
 | .nil=>true
 | _=>false
end Go.Sy.Ex
namespace Go.Sy.Ex
open Go.Sy
end Go.Sy.Ex
namespace Go.Sy.Ex
open Go.Sy
end Go.Sy.Ex
namespace Go.Sy.Ex
open Go.Sy
theorem uD (a:ak):ak.mk a.Kind a.Name a.Event a.X a.N a.gh a.fG a.At=a:=by cases a; rfl
def B.sz:B→Nat
 | .nil=>1
 | .cons _ th el rest=>th.sz+el.sz+rest.sz+1
end Go.Sy.Ex
namespace Go.Sy.Ex
open Go.Sy
end Go.Sy.Ex
namespace Go.Sy.Ex
open Go.Sy
abbrev b1:B:= .cons ⟨2,[],[101],some (.num 1),0⟩ .nil .nil (.cons ⟨7,[],[],none,2⟩ .nil .nil .nil)
def bd (t:ai):az:=if t.Kind=4 then ⟨12,t.At⟩ else ⟨11,t.At⟩
theorem iC (t:ai):(bd t).Code≠0:=by unfold bd; split <;> (dsimp only; decide)
theorem zW {l:List ai} {i o:Nat} (hi:i<l.length) (hl:l.length≤100000) {s:List UInt8} (h:au (ag l i) s=false):dZ (at' l i o) s=some (aK.mk (aU.mk l (i:Int) (bd (ag l i))) (o:Int)):=by
 unfold dZ
 rw [ji hi hl,aa,h,Bool.not_false,cond_true,if_neg (by decide)]
 have hw:js (at' l i o)=some (aK.mk (aU.mk l (i:Int) (bd (ag l i))) (o:Int)):=by
  unfold js
  rw [ql hi,aa]
  dsimp only
  unfold bd
  by_cases h4:(ag l i).Kind=4
  · rw [if_pos h4,if_pos h4]
    unfold iE
    rw [mu,aa]
    rfl
  · rw [if_neg h4,if_neg h4]
    unfold iE
    rw [mu,aa]
    rfl
 dsimp only
 rw [hw,aa]
section
variable {s:aK} (h:s.Row.av.Code≠0)
include h
theorem zT:kS s=some (false,s):=by unfold kS; rw [decide_eq_false h]
theorem Gu:jq s=some (ai.mk 4 0 0 [] 0,s):=by
 unfold jq; rw [zT h,aa]; rfl
theorem Gt (x:List UInt8):kR s x=some (false,s):=by
 unfold kR; rw [Gu h,aa]; rfl
theorem GD (x:List UInt8):iX s x=some (false,s):=by
 unfold iX; rw [Gt h,aa]; rfl
theorem Uf (c a:Int):iE s c a=some s:=by
 unfold iE; rw [zT h,aa]; rfl
theorem Lz:js s=some s:=by
 unfold js; rw [Gu h,aa]
 dsimp only
 rw [if_pos rfl,Uf h,aa]
theorem uE (x:List UInt8):dZ s x=some s:=by
 unfold dZ; rw [GD h,aa]
 rw [Bool.not_false,cond_true]
 dsimp only
 rw [Lz h,aa]
theorem CR (self:aK→Option (List ak×aK)) (k:Nat) (acc:List ak):kH self (k+1) s.Row.L s.Row.At s.Row.av.Code s.Row.av.At s.bG acc=some (acc,aK.mk s.Row (aj (s.bG - 1))):=by
 rw [kH.eq_2]
 rw [show aK.mk (aU.mk s.Row.L s.Row.At (az.mk s.Row.av.Code s.Row.av.At)) s.bG=s from by cases s; rename_i r o; cases r; rename_i l a f; cases f; rfl,zT h,aa,cond_false]
end
end Go.Sy.Ex
namespace Go.Sy.Ex
open Go.Sy
def uo {α:Type} (Q:α→Prop) (l:List ai) (i o:Nat) (f:Option (α×aK)) (g:Option (α×Int×az)):Prop:=
 (∃ v j,i≤j∧j<l.length∧Q v∧f=some (v,at' l j o)∧g=some (v,((j:Nat):Int),⟨0,0⟩))∨
 (∃ v s v' j',s.Row.av.Code≠0∧f=some (v,s)∧g=some (v',j',s.Row.av))
def gZ (X:List an):Prop:=X.length≤1∧ ∀ e ∈ X,Fd e
def ug (a:ak):Prop:=gZ a.X∧a.gh= []∧a.fG= []
theorem gZ.nil:gZ []:=⟨Nat.zero_le _,fun e h=>by cases h⟩
theorem gZ.one {e:an} (h:Fd e):gZ [e]:=⟨Nat.le_refl _,fun x hx=>by rw [List.mem_singleton] at hx; subst hx; exact h⟩
theorem fQ {l:List ai} {i:Nat} (hi:i<l.length) (s:List UInt8):dj l ((i:Nat):Int) s=some (au (ag l i) s):=by
 have h:=qZ (o:=0) hi s
 unfold lU at h
 have e1:(rs l i 0).l=l:=rfl
 have e2:(rs l i 0).ah=(i:Int):=rfl
 rw [e1,e2] at h
 cases hq:dj l (i:Int) s with
 | none=>rw [hq] at h; cases h
 | some b=>rw [hq,aa] at h; cases h; rfl
theorem dh {l:List ai} (H:Ok l) {i:Nat} (hi:i<l.length) {s:List UInt8} (h:au (ag l i) s=true):i+1<l.length:=
 H.more i hi (by have :=(of_decide_eq_true h).1; omega)
theorem Cw {l:List ai} (H:Ok l) {i:Nat} (hi:i<l.length) {s:List UInt8} (h:au (ag l i) s=true):kn l (i:Int) s=some (((i+1:Nat):Int),⟨0,0⟩):=by
 unfold kn
 rw [fQ hi,aa,h,Bool.not_true,cond_false,cO hi H.len]
theorem FU {l:List ai} {i:Nat} (hi:i<l.length) {s:List UInt8} (h:au (ag l i) s=false):kn l (i:Int) s=some (0,bd (ag l i)):=by
 unfold kn
 rw [fQ hi,aa,h,Bool.not_false,cond_true,kf hi,aa]; rfl
theorem GF {l:List ai} {i o:Nat} (hi:i<l.length):js (at' l i o)=some (aK.mk (aU.mk l (i:Int) (bd (ag l i))) (o:Int)):=by
 unfold js
 rw [ql hi,aa]
 dsimp only
 unfold bd
 by_cases h4:(ag l i).Kind=4
 · rw [if_pos h4,if_pos h4]
   unfold iE
   rw [mu,aa]
   rfl
 · rw [if_neg h4,if_neg h4]
   unfold iE
   rw [mu,aa]
   rfl
theorem Un {s:aK} (h:s.Row.av.Code≠0):ic s=some ([],s):=by
 unfold ic
 have hn:qN s=some (false,s):=by unfold qN; rw [Gu h,aa]; rfl
 rw [hn,aa,Bool.not_false,cond_true]
 dsimp only
 rw [Lz h,aa]
theorem Bf {l:List ai} (H:Ok l) {i o:Nat} (hi:i<l.length):uo (fun _=>True) l (i+1) o (ic (at' l i o)) (ig l (i:Int)):=by
 cases hn:(decide ((ag l i).Kind=1)&& !eM (ag l i).Text) with
 | true=>
  have hn':=hn
  rw [Bool.and_eq_true,decide_eq_true_eq,Bool.not_eq_true'] at hn'
  refine .inl ⟨(ag l i).Text,i+1,Nat.le_refl _,H.more i hi (by omega),trivial,Lq hi H.len hn'.1 hn'.2, ?_⟩
  unfold ig
  rw [oe hi,aa,hn,Bool.not_true,cond_false,if_pos (by omega),if_pos (by omega),cO hi H.len,Int.toNat_natCast]
  rfl
 | false=>
  refine .inr ⟨[],aK.mk (aU.mk l (i:Int) (bd (ag l i))) (o:Int),[],0,iC _, ?_, ?_⟩
  · unfold ic
    rw [CQ hi,aa,hn,Bool.not_false,cond_true]
    dsimp only
    rw [GF hi,aa]
  · unfold ig
    rw [oe hi,aa,hn,Bool.not_false,cond_true,kf hi,aa]
    rfl
theorem O9 {l:List ai} (H:Ok l) {i:Nat} (hi:i<l.length):
 (∃ e j,i+1≤j∧j<l.length∧Fd e∧nM l (i:Int)=some (e,((j:Nat):Int),⟨0,0⟩)∧jT l (i:Int)=some (e,((j:Nat):Int),⟨0,0⟩))∨
 (∃ f,f.Code≠0∧nM l (i:Int)=some (an.mk 0 0 [] [] 0,0,f)∧jT l (i:Int)=some (an.mk 0 0 [] [] 0,0,f)):=by
 rcases (both H l.length i 0 (by omega) hi (by decide)).2 5 1 rfl (by decide) with ⟨e,i',Z,h1,h2,qz,hf,hg⟩ | ⟨e,s,e',s',Z,h1,h2,hf,hg⟩
 · refine .inl ⟨e,i',h1,h2,qz, ?_, ?_⟩
   · unfold nM
     rw [show Ao (aS.mk (aU.mk l (i:Int) (az.mk 0 0)) 0) 1=some (e,st l i' 0) from br Z fun k hk=>hf k hk k hk,aa,Bh,aa,Bool.not_true,cond_false,eta]
     rfl
   · unfold jT
     rw [show BU (bf.mk l (i:Int) 0 (az.mk 0 0)) 1=some (e,rs l i' 0) from br Z fun k hk=>hg k hk k hk,aa,if_neg (by intro q; exact q rfl),eta]
     rfl
 · refine .inr ⟨s.Row.av,h1, ?_, ?_⟩
   · unfold nM
     rw [show Ao (aS.mk (aU.mk l (i:Int) (az.mk 0 0)) 0) 1=some (e,s) from br Z fun k hk=>hf k hk k hk,aa,IX h1,aa,Bool.not_false,cond_true]
   · unfold jT
     rw [show BU (bf.mk l (i:Int) 0 (az.mk 0 0)) 1=some (e',s') from br Z fun k hk=>hg k hk k hk,aa,h2,if_pos h1]
theorem MZ {l:List ai} (H:Ok l) {i o:Nat} (hi:i<l.length):
 (∃ e j,i+1≤j∧j<l.length∧Fd e∧lq (at' l i o)=some ([e],at' l j o)∧jT l (i:Int)=some (e,((j:Nat):Int),⟨0,0⟩))∨
 (∃ X s,s.Row.av.Code≠0∧lq (at' l i o)=some (X,s)∧jT l (i:Int)=some (an.mk 0 0 [] [] 0,0,s.Row.av)):=by
 have hu:lq (at' l i o)=(nM l (i:Int)).bind fun r2=>
  (iE (at' l i o) r2.2.2.Code r2.2.2.At).bind fun r3=>
  some ([an.mk r2.1.Kind r2.1.N r2.1.Name r2.1.Kids r2.1.At],aK.mk (aU.mk r3.Row.L r2.2.1 r3.Row.av) r3.bG):=by
  unfold lq
  rw [mu,aa,Bool.not_true,cond_false]
  rfl
 rcases O9 H hi with ⟨e,j,h1,h2,h3,h4,h5⟩ | ⟨f,h1,h2,h3⟩
 · refine .inl ⟨e,j,h1,h2,h3, ?_,h5⟩
   rw [hu,h4,aa]
   dsimp only
   unfold iE
   rw [mu,aa,cond_true,aa,eta]
   rfl
 · refine .inr ⟨[an.mk 0 0 [] [] 0],aK.mk (aU.mk l 0 f) (o:Int),h1, ?_,h3⟩
   rw [hu,h2,aa]
   dsimp only
   unfold iE
   rw [mu,aa,cond_true,aa]
   rfl
theorem Gs {s:aK} (h:s.Row.av.Code≠0):lq s=some ([],s):=by
 unfold lq
 rw [zT h,aa,Bool.not_false,cond_true]
theorem GL {l:List ai} (H:Ok l) {i o:Nat} (hi:i<l.length):uo gZ l (i+1) o (j4 (at' l i o)) (lV l (i:Int)):=by
 cases h_:au (ag l i) gM with
 | false=>
  refine .inr ⟨[],aK.mk (aU.mk l (i:Int) (bd (ag l i))) (o:Int),[],0,iC _, ?_, ?_⟩
  · unfold j4
    rw [zW hi H.len h_,aa,Gs (iC _),aa]
    dsimp only
    rw [uE (iC _),aa]
  · unfold lV
    rw [FU hi h_,aa,if_pos (iC _)]
 | true=>
  have hm:=dh H hi h_
  have f0:j4 (at' l i o)=(lq (at' l (i+1) o)).bind fun r2=>(dZ r2.2 iu).bind fun r3=>some (r2.1,r3):=by
   unfold j4
   rw [wS hi H.len h_,aa]
  have g0:lV l (i:Int)=(jT l ((i+1:Nat):Int)).bind fun r2=>
   if r2.2.2.Code≠0 then
   some ([],0,r2.2.2) else
   (kn l r2.2.1 iu).bind fun r3=>
   some ([an.mk r2.1.Kind r2.1.N r2.1.Name r2.1.Kids r2.1.At],r3.1,r3.2):=by
   unfold lV
   rw [Cw H hi h_,aa,if_neg (by simp)]
  rcases MZ (o:=o) H hm with ⟨e,j,h1,h2,h3,h4,h5⟩ | ⟨X,s,h1,h2,h3⟩
  · cases jm:au (ag l j) iu with
    | true=>
     refine .inl ⟨[e],j+1,by omega,dh H h2 jm,gZ.one h3, ?_, ?_⟩
     · rw [f0,h4,aa]
       dsimp only
       rw [wS h2 H.len jm,aa]
     · rw [g0,h5,aa]
       dsimp only
       rw [if_neg (by simp),Cw H h2 jm,aa,eta]
    | false=>
     refine .inr ⟨[e],aK.mk (aU.mk l (j:Int) (bd (ag l j))) (o:Int),[e],0,iC _, ?_, ?_⟩
     · rw [f0,h4,aa]
       dsimp only
       rw [zW h2 H.len jm,aa]
     · rw [g0,h5,aa]
       dsimp only
       rw [if_neg (by simp),FU h2 jm,aa,eta]
  · refine .inr ⟨X,s,[],0,h1, ?_, ?_⟩
    · rw [f0,h2,aa]
      dsimp only
      rw [uE h1,aa]
    · rw [g0,h3,aa]
      dsimp only
      rw [if_pos h1]
theorem OK {l:List ai} (H:Ok l) {i o:Nat} (hi:i<l.length):uo gZ l i o (oK (at' l i o)) (qV l (i:Int)):=by
 unfold oK qV
 rw [qk hi,aa,fQ hi,aa]
 dsimp only
 cases h_:au (ag l i) gM with
 | false=>exact .inl ⟨[],i,Nat.le_refl _,hi,gZ.nil,rfl,rfl⟩
 | true=>
  rw [Bool.not_true,cond_false,cond_false]
  rcases GL (o:=o) H hi with ⟨v,j,h1,h2,hq,h3,h4⟩ | ⟨v,s,v',j',h1,h2,h3⟩
  · exact .inl ⟨v,j,by omega,h2,hq,by rw [h3,aa],by rw [h4,aa]⟩
  · exact .inr ⟨v,s,v',j',h1,by rw [h2,aa],by rw [h3,aa]⟩
end Go.Sy.Ex
namespace Go.Sy.Ex
open Go.Sy
noncomputable def ku (l:List ai) (a:ak) (p:Int) (f:az):Option (ak×Int×az):=
 if f.Code≠0 then some (ak.mk 0 [] [] [] 0 [] [] 0,0,f) else (kn l p bD).bind fun r=>some (a,r.1,r.2)
theorem UR (k:Nat) (l:List ai) (p:Int) (K:Int) (N E:List UInt8) (X:List an) (n:Int) (T L:List ak) (A c fa:Int):lW (k+1) l p 0 [] [] [] 0 [] [] 0 0 0 K N E X n T L A c fa=ku l (ak.mk K N E X n T L A) p ⟨c,fa⟩:=by
 rw [lW.eq_2]; rfl
theorem Cd {l:List ai} (H:Ok l) {i j o:Nat} (hij:i≤j) (hj:j<l.length) (a:ak) (hQ:ug a):uo ug l i o ((dZ (at' l j o) bD).bind fun r=>some (a,r)) (ku l a ((j:Nat):Int) ⟨0,0⟩):=by
 unfold ku
 rw [if_neg (by simp)]
 cases h:au (ag l j) bD with
 | true=>exact .inl ⟨a,j+1,by omega,dh H hj h,hQ,by rw [wS hj H.len h,aa],by rw [Cw H hj h,aa]⟩
 | false=>exact .inr ⟨a,aK.mk (aU.mk l (j:Int) (bd (ag l j))) (o:Int),a,0,iC _,by rw [zW hj H.len h,aa],by rw [FU hj h,aa]⟩
theorem ov {l:List ai} {i o:Nat} {s:aK} (h:s.Row.av.Code≠0) (a a':ak) (p:Int):uo ug l i o ((dZ s bD).bind fun r=>some (a,r)) (ku l a' p s.Row.av):=by
 unfold ku
 rw [if_pos h]
 exact .inr ⟨a,s,_,_,h,by rw [uE h,aa],rfl⟩
theorem Gv {s:aK} (h:s.Row.av.Code≠0):oK s=some ([],s):=by
 unfold oK
 rw [Gt h,aa,Bool.not_false,cond_true]
theorem Uh {s:aK} (h:s.Row.av.Code≠0):j4 s=some ([],s):=by
 unfold j4
 rw [uE h,aa,Gs h,aa]
 dsimp only
 rw [uE h,aa]
theorem lZ {l : List ai} {i : Nat} (hi : i < l.length) (hl : l.length ≤ 100000) (r : Option (ak × Int × az)) (h : (bif au (ag l i) nc then
      (ig l ((i+1:Nat):Int)).bind fun r2=>
      if r2.2.2.Code=0 then (qV l r2.2.1).bind fun r3=>ku l (ak.mk 2 [] r2.1 r3.1 0 [] [] (ag l i).At) r3.2.1 ⟨r3.2.2.Code,r3.2.2.At⟩
      else ku l (ak.mk 2 [] r2.1 [] 0 [] [] (ag l i).At) r2.2.1 ⟨r2.2.2.Code,r2.2.2.At⟩
 else bif au (ag l i) ng then
  (ig l ((i+1:Nat):Int)).bind fun r5=>
  if r5.2.2.Code=0 then
   (ig l r5.2.1).bind fun r6=>
   if r6.2.2.Code=0 then (qV l r6.2.1).bind fun r7=>ku l (ak.mk 3 r5.1 r6.1 r7.1 0 [] [] (ag l i).At) r7.2.1 ⟨r7.2.2.Code,r7.2.2.At⟩
   else ku l (ak.mk 3 r5.1 r6.1 [] 0 [] [] (ag l i).At) r6.2.1 ⟨r6.2.2.Code,r6.2.2.At⟩
  else ku l (ak.mk 3 r5.1 [] [] 0 [] [] (ag l i).At) r5.2.1 ⟨r5.2.2.Code,r5.2.2.At⟩
 else bif au (ag l i) m_ then
  (ig l ((i+1:Nat):Int)).bind fun aJ=>
  if aJ.2.2.Code=0 then (lV l aJ.2.1).bind fun bu=>ku l (ak.mk 4 aJ.1 [] bu.1 0 [] [] (ag l i).At) bu.2.1 ⟨bu.2.2.Code,bu.2.2.At⟩
  else ku l (ak.mk 4 aJ.1 [] [] 0 [] [] (ag l i).At) aJ.2.1 ⟨aJ.2.2.Code,aJ.2.2.At⟩
 else bif au (ag l i) om then
  (ig l ((i+1:Nat):Int)).bind fun bp=>ku l (ak.mk 5 bp.1 [] [] 0 [] [] (ag l i).At) bp.2.1 ⟨bp.2.2.Code,bp.2.2.At⟩
 else (qW l (i:Int)).bind fun bC=>ku l (ak.mk bC.1.Kind bC.1.Name bC.1.Event bC.1.X bC.1.N bC.1.gh bC.1.fG bC.1.At) bC.2.1 ⟨bC.2.2.Code,bC.2.2.At⟩)=r) (hr:r≠none):qX l (i:Int)=r:=by
 cases hr':r with
 | none=>exact absurd hr' hr
 | some v=>
  rw [← hr']
  subst hr'
  refine br 1 fun k hk=> ?_
  obtain ⟨k,rfl⟩: ∃ j,k=j+1:=⟨k - 1,by omega⟩
  show EX (k+1) l (i:Int)=some v
  rw [← h]
  unfold EX
  have et:l.getD ((i:Nat):Int).toNat ai.z=ag l i:=by rw [Int.toNat_natCast]; rfl
  rw [if_pos (by omega),if_pos (by omega),fQ hi,aa,cO hi hl,et]
  simp only [UR]
  cases au (ag l i) nc with
  | true=>rfl
  | false=>
   rw [cond_false,cond_false,fQ hi,aa]
   cases au (ag l i) ng with
   | true=>
    rw [cond_true,cond_true]
    cases ig l ((i+1:Nat):Int) with
    | none=>rfl
    | some r5=>
     rw [aa,aa]
     by_cases c5:r5.2.2.Code=0
     · rw [if_pos c5,if_pos c5]
     · rw [if_neg c5,if_neg c5,if_neg c5]
   | false=>
    rw [cond_false,cond_false,fQ hi,aa]
    cases au (ag l i) m_ with
    | true=>rfl
    | false=>
     rw [cond_false,cond_false,fQ hi,aa]
theorem Gp {l : List ai} {i o : Nat} (hi : i < l.length) (hl : l.length ≤ 100000) (hif : au (ag l i) kX = false) (hlo : au (ag l i) kq = false) (self : aK → Option (List ak × aK)) : jH self (at' l i o) = (bif decide ((ag l i).Kind = 1) && !eM (ag l i).Text then
      (ic (at' l i o)).bind fun r3=>
      (dZ r3.2 pS).bind fun r4=>
      (lq r4).bind fun r5=>
      (dZ r5.2 bD).bind fun r6=>
      some (ak.mk 1 r3.1 [] r5.1 0 [] [] (ag l i).At,r6) else
      bif au (ag l i) nc then
      (ic (at' l (i+1) o)).bind fun r8=>
      (oK r8.2).bind fun r9=>
      (dZ r9.2 bD).bind fun aJ=>
      some (ak.mk 2 [] r8.1 r9.1 0 [] [] (ag l i).At,aJ) else
      bif au (ag l i) ng then
      (ic (at' l (i+1) o)).bind fun bg=>
      (ic bg.2).bind fun bp=>
      (oK bp.2).bind fun bC=>
      (dZ bC.2 bD).bind fun dN=>
      some (ak.mk 3 bg.1 bp.1 bC.1 0 [] [] (ag l i).At,dN) else
      bif au (ag l i) m_ then
      (ic (at' l (i+1) o)).bind fun gE=>
      (j4 gE.2).bind fun dF=>
      (dZ dF.2 bD).bind fun mN=>
      some (ak.mk 4 gE.1 [] dF.1 0 [] [] (ag l i).At,mN) else
      bif au (ag l i) om then
      (ic (at' l (i+1) o)).bind fun s9=>
      (dZ s9.2 bD).bind fun xS=>
      some (ak.mk 5 s9.1 [] [] 0 [] [] (ag l i).At,xS) else
      (js (at' l i o)).bind fun Jh=>
      (dZ Jh bD).bind fun Ji=>
      some (ak.mk 0 [] [] [] 0 [] [] (ag l i).At,Ji)):=by
 unfold jH
 rw [ql hi,aa]
 dsimp only
 rw [CQ hi,aa]
 dsimp only
 cases (decide ((ag l i).Kind=1)&& !eM (ag l i).Text) with
 | true=>rfl
 | false=>
  rw [cond_false,cond_false,ji hi hl,aa]
  dsimp only
  cases au (ag l i) nc with
  | true=>rfl
  | false=>
   rw [cond_false,cond_false,if_neg (by decide),ji hi hl,aa]
   dsimp only
   cases au (ag l i) ng with
   | true=>rfl
   | false=>
    rw [cond_false,cond_false,if_neg (by decide),ji hi hl,aa]
    dsimp only
    cases au (ag l i) m_ with
    | true=>rfl
    | false=>
     rw [cond_false,cond_false,if_neg (by decide),ji hi hl,aa]
     dsimp only
     cases au (ag l i) om with
     | true=>rfl
     | false=>
      rw [cond_false,cond_false,if_neg (by decide),qk hi,aa,hif,cond_false]
      dsimp only
      rw [qk hi,aa,hlo,cond_false]
theorem Ud {l:List ai} (H:Ok l) {i o:Nat} (hi:i<l.length) (hif:au (ag l i) kX=false) (hlo:au (ag l i) kq=false) (self:aK→Option (List ak×aK)):uo ug l (i+1) o (jH self (at' l i o)) (qX l (i:Int)):=by
 have hl:=H.len
 have f0:=Gp (o:=o) hi hl hif hlo self
 have nm: ∀ s,eM s=true→au (ag l i) s=true→(decide ((ag l i).Kind=1)&& !eM (ag l i).Text)=false:=fun s hs h=>by
  have :=(of_decide_eq_true h).2
  rw [this,hs]; simp
 rw [f0]
 cases eX:au (ag l i) nc with
 | true=>
  have hm:=dh H hi eX
  rw [nm nc (by decide) eX,cond_false,cond_true]
  rcases Bf (o:=o) H hm with ⟨v,j,h1,h2, -,h3,h4⟩ | ⟨v,s,v',j',h1,h2,h3⟩
  · rcases OK (o:=o) H h2 with ⟨X,j2,g1,g2,gx,g3,g4⟩ | ⟨X,s,X',j',g1,g2,g3⟩
    · have key:=Cd (o:=o) H (i:=i+1) (show i+1≤j2 by omega) g2 (ak.mk 2 [] v X 0 [] [] (ag l i).At) ⟨gx,rfl,rfl⟩
      rw [h3,aa,g3,aa]
      rw [lZ hi hl _ (by rw [eX,cond_true,h4,aa,if_pos rfl,g4,aa]) (by rcases key with ⟨_,_,_,_,_,_,q⟩ | ⟨_,_,_,_,_,_,q⟩ <;> (intro e; exact absurd (q.symm.trans e) (by simp)))]
      exact key
    · have key:=ov (l:=l) (i:=i+1) (o:=o) g1 (ak.mk 2 [] v X 0 [] [] (ag l i).At) (ak.mk 2 [] v X' 0 [] [] (ag l i).At) j'
      rw [h3,aa,g2,aa]
      rw [lZ hi hl _ (by rw [eX,cond_true,h4,aa,if_pos rfl,g3,aa]) (by rcases key with ⟨_,_,_,_,_,_,q⟩ | ⟨_,_,_,_,_,_,q⟩ <;> (intro e; exact absurd (q.symm.trans e) (by simp)))]
      exact key
  · have key:=ov (l:=l) (i:=i+1) (o:=o) h1 (ak.mk 2 [] v [] 0 [] [] (ag l i).At) (ak.mk 2 [] v' [] 0 [] [] (ag l i).At) j'
    rw [h2,aa]
    dsimp only
    rw [Gv h1,aa]
    rw [lZ hi hl _ (by rw [eX,cond_true,h3,aa,if_neg h1]) (by rcases key with ⟨_,_,_,_,_,_,q⟩ | ⟨_,_,_,_,_,_,q⟩ <;> (intro e; exact absurd (q.symm.trans e) (by simp)))]
    exact key
 | false=>
 rw [cond_false]
 cases dX:au (ag l i) ng with
 | true=>
  have hm:=dh H hi dX
  rw [nm ng (by decide) dX,cond_false,cond_true]
  rcases Bf (o:=o) H hm with ⟨v,j,h1,h2, -,h3,h4⟩ | ⟨v,s,v',j',h1,h2,h3⟩
  · rcases Bf (o:=o) H h2 with ⟨u,j1,k1,k2, -,k3,k4⟩ | ⟨u,s,u',j',k1,k2,k3⟩
    · rcases OK (o:=o) H k2 with ⟨X,j2,g1,g2,gx,g3,g4⟩ | ⟨X,s,X',j',g1,g2,g3⟩
      · have key:=Cd (o:=o) H (i:=i+1) (show i+1≤j2 by omega) g2 (ak.mk 3 v u X 0 [] [] (ag l i).At) ⟨gx,rfl,rfl⟩
        rw [h3,aa]
        dsimp only
        rw [k3,aa,g3,aa]
        rw [lZ hi hl _ (by rw [eX,cond_false,dX,cond_true,h4,aa,if_pos rfl,k4,aa,if_pos rfl,g4,aa]) (by rcases key with ⟨_,_,_,_,_,_,q⟩ | ⟨_,_,_,_,_,_,q⟩ <;> (intro e; exact absurd (q.symm.trans e) (by simp)))]
        exact key
      · have key:=ov (l:=l) (i:=i+1) (o:=o) g1 (ak.mk 3 v u X 0 [] [] (ag l i).At) (ak.mk 3 v u X' 0 [] [] (ag l i).At) j'
        rw [h3,aa]
        dsimp only
        rw [k3,aa,g2,aa]
        rw [lZ hi hl _ (by rw [eX,cond_false,dX,cond_true,h4,aa,if_pos rfl,k4,aa,if_pos rfl,g3,aa]) (by rcases key with ⟨_,_,_,_,_,_,q⟩ | ⟨_,_,_,_,_,_,q⟩ <;> (intro e; exact absurd (q.symm.trans e) (by simp)))]
        exact key
    · have key:=ov (l:=l) (i:=i+1) (o:=o) k1 (ak.mk 3 v u [] 0 [] [] (ag l i).At) (ak.mk 3 v u' [] 0 [] [] (ag l i).At) j'
      rw [h3,aa]
      dsimp only
      rw [k2,aa]
      dsimp only
      rw [Gv k1,aa]
      rw [lZ hi hl _ (by rw [eX,cond_false,dX,cond_true,h4,aa,if_pos rfl,k3,aa,if_neg k1]) (by rcases key with ⟨_,_,_,_,_,_,q⟩ | ⟨_,_,_,_,_,_,q⟩ <;> (intro e; exact absurd (q.symm.trans e) (by simp)))]
      exact key
  · have key:=ov (l:=l) (i:=i+1) (o:=o) h1 (ak.mk 3 v [] [] 0 [] [] (ag l i).At) (ak.mk 3 v' [] [] 0 [] [] (ag l i).At) j'
    rw [h2,aa]
    dsimp only
    rw [Un h1,aa]
    dsimp only
    rw [Gv h1,aa]
    rw [lZ hi hl _ (by rw [eX,cond_false,dX,cond_true,h3,aa,if_neg h1]) (by rcases key with ⟨_,_,_,_,_,_,q⟩ | ⟨_,_,_,_,_,_,q⟩ <;> (intro e; exact absurd (q.symm.trans e) (by simp)))]
    exact key
 | false=>
 rw [cond_false]
 cases har:au (ag l i) m_ with
 | true=>
  have hm:=dh H hi har
  rw [nm m_ (by decide) har,cond_false,cond_true]
  rcases Bf (o:=o) H hm with ⟨v,j,h1,h2, -,h3,h4⟩ | ⟨v,s,v',j',h1,h2,h3⟩
  · rcases GL (o:=o) H h2 with ⟨X,j2,g1,g2,gx,g3,g4⟩ | ⟨X,s,X',j',g1,g2,g3⟩
    · have key:=Cd (o:=o) H (i:=i+1) (show i+1≤j2 by omega) g2 (ak.mk 4 v [] X 0 [] [] (ag l i).At) ⟨gx,rfl,rfl⟩
      rw [h3,aa]
      dsimp only
      rw [g3,aa]
      rw [lZ hi hl _ (by rw [eX,cond_false,dX,cond_false,har,cond_true,h4,aa,if_pos rfl,g4,aa]) (by rcases key with ⟨_,_,_,_,_,_,q⟩ | ⟨_,_,_,_,_,_,q⟩ <;> (intro e; exact absurd (q.symm.trans e) (by simp)))]
      exact key
    · have key:=ov (l:=l) (i:=i+1) (o:=o) g1 (ak.mk 4 v [] X 0 [] [] (ag l i).At) (ak.mk 4 v [] X' 0 [] [] (ag l i).At) j'
      rw [h3,aa]
      dsimp only
      rw [g2,aa]
      rw [lZ hi hl _ (by rw [eX,cond_false,dX,cond_false,har,cond_true,h4,aa,if_pos rfl,g3,aa]) (by rcases key with ⟨_,_,_,_,_,_,q⟩ | ⟨_,_,_,_,_,_,q⟩ <;> (intro e; exact absurd (q.symm.trans e) (by simp)))]
      exact key
  · have key:=ov (l:=l) (i:=i+1) (o:=o) h1 (ak.mk 4 v [] [] 0 [] [] (ag l i).At) (ak.mk 4 v' [] [] 0 [] [] (ag l i).At) j'
    rw [h2,aa]
    dsimp only
    rw [Uh h1,aa]
    rw [lZ hi hl _ (by rw [eX,cond_false,dX,cond_false,har,cond_true,h3,aa,if_neg h1]) (by rcases key with ⟨_,_,_,_,_,_,q⟩ | ⟨_,_,_,_,_,_,q⟩ <;> (intro e; exact absurd (q.symm.trans e) (by simp)))]
    exact key
 | false=>
 rw [cond_false]
 cases hca:au (ag l i) om with
 | true=>
  have hm:=dh H hi hca
  rw [nm om (by decide) hca,cond_false,cond_true]
  rcases Bf (o:=o) H hm with ⟨v,j,h1,h2, -,h3,h4⟩ | ⟨v,s,v',j',h1,h2,h3⟩
  · have key:=Cd (o:=o) H (i:=i+1) (show i+1≤j by omega) h2 (ak.mk 5 v [] [] 0 [] [] (ag l i).At) ⟨gZ.nil,rfl,rfl⟩
    rw [h3,aa]
    rw [lZ hi hl _ (by rw [eX,cond_false,dX,cond_false,har,cond_false,hca,cond_true,h4,aa]) (by rcases key with ⟨_,_,_,_,_,_,q⟩ | ⟨_,_,_,_,_,_,q⟩ <;> (intro e; exact absurd (q.symm.trans e) (by simp)))]
    exact key
  · have key:=ov (l:=l) (i:=i+1) (o:=o) h1 (ak.mk 5 v [] [] 0 [] [] (ag l i).At) (ak.mk 5 v' [] [] 0 [] [] (ag l i).At) j'
    rw [h2,aa]
    rw [lZ hi hl _ (by rw [eX,cond_false,dX,cond_false,har,cond_false,hca,cond_true,h3,aa]) (by rcases key with ⟨_,_,_,_,_,_,q⟩ | ⟨_,_,_,_,_,_,q⟩ <;> (intro e; exact absurd (q.symm.trans e) (by simp)))]
    exact key
 | false=>
 rw [cond_false]
 have et:l.getD ((i:Nat):Int).toNat ai.z=ag l i:=by rw [Int.toNat_natCast]; rfl
 have sq: ∀ (r:Option (ak×Int×az)),((qW l (i:Int)).bind fun bC=>ku l (ak.mk bC.1.Kind bC.1.Name bC.1.Event bC.1.X bC.1.N bC.1.gh bC.1.fG bC.1.At) bC.2.1 ⟨bC.2.2.Code,bC.2.2.At⟩)=r→r≠none→qX l (i:Int)=r:=fun r h hr=>lZ hi hl r (by rw [eX,cond_false,dX,cond_false,har,cond_false,hca,cond_false]; exact h) hr
 cases hn:(decide ((ag l i).Kind=1)&& !eM (ag l i).Text) with
 | false=>
  have key:=ov (l:=l) (i:=i+1) (o:=o) (s:=aK.mk (aU.mk l (i:Int) (bd (ag l i))) (o:Int)) (iC _) (ak.mk 0 [] [] [] 0 [] [] (ag l i).At) (ak.mk 1 [] [] [] 0 [] [] (ag l i).At) 0
  rw [cond_false,GF hi,aa]
  have s0:qW l (i:Int)=some (ak.mk 1 [] [] [] 0 [] [] (ag l i).At,0,bd (ag l i)):=by
   unfold qW ig
   rw [if_pos (by omega),if_pos (by omega),oe hi,aa,hn,Bool.not_false,cond_true,kf hi,aa,aa,et]
   dsimp only
   rw [if_pos (oM _)]
   rfl
  rw [sq _ (by rw [s0,aa]) (by rcases key with ⟨_,_,_,_,_,_,q⟩ | ⟨_,_,_,_,_,_,q⟩ <;> (intro e; exact absurd (q.symm.trans e) (by simp)))]
  exact key
 | true=>
  have hn':=hn
  rw [Bool.and_eq_true,decide_eq_true_eq,Bool.not_eq_true'] at hn'
  have hm:=H.more i hi (by omega)
  have s0:qW l (i:Int)=(kn l ((i+1:Nat):Int) pS).bind fun r2=>
   if r2.2.Code≠0 then
   some (ak.mk 1 (ag l i).Text [] [] 0 [] [] (ag l i).At,0,r2.2) else
   (jT l r2.1).bind fun r3=>
   some (ak.mk 1 (ag l i).Text [] [an.mk r3.1.Kind r3.1.N r3.1.Name r3.1.Kids r3.1.At] 0 [] [] (ag l i).At,r3.2.1,r3.2.2):=by
   unfold qW ig
   rw [if_pos (by omega),if_pos (by omega),oe hi,aa,hn,Bool.not_true,cond_false,if_pos (by omega),if_pos (by omega),cO hi hl,et,aa]
   dsimp only
   rw [if_neg (by simp)]
  rw [cond_true,Lq hi hl hn'.1 hn'.2,aa]
  dsimp only
  cases heq:au (ag l (i+1)) pS with
  | false=>
   have key:=ov (l:=l) (i:=i+1) (o:=o) (s:=aK.mk (aU.mk l ((i+1:Nat):Int) (bd (ag l (i+1)))) (o:Int)) (iC _) (ak.mk 1 (ag l i).Text [] [] 0 [] [] (ag l i).At) (ak.mk 1 (ag l i).Text [] [] 0 [] [] (ag l i).At) 0
   rw [zW hm hl heq,aa,Gs (iC _),aa]
   rw [sq _ (by rw [s0,FU hm heq,aa,if_pos (iC _),aa]) (by rcases key with ⟨_,_,_,_,_,_,q⟩ | ⟨_,_,_,_,_,_,q⟩ <;> (intro e; exact absurd (q.symm.trans e) (by simp)))]
   exact key
  | true=>
   have hm2:=dh H hm heq
   rw [wS hm hl heq,aa]
   rcases MZ (o:=o) H hm2 with ⟨e,j,h1,h2,h3,h4,h5⟩ | ⟨X,s,h1,h2,h3⟩
   · have key:=Cd (o:=o) H (i:=i+1) (show i+1≤j by omega) h2 (ak.mk 1 (ag l i).Text [] [e] 0 [] [] (ag l i).At) ⟨gZ.one h3,rfl,rfl⟩
     rw [h4,aa]
     rw [sq _ (by rw [s0,Cw H hm heq,aa,if_neg (by simp),h5,aa,aa,eta]) (by rcases key with ⟨_,_,_,_,_,_,q⟩ | ⟨_,_,_,_,_,_,q⟩ <;> (intro e; exact absurd (q.symm.trans e) (by simp)))]
     exact key
   · have key:=ov (l:=l) (i:=i+1) (o:=o) h1 (ak.mk 1 (ag l i).Text [] X 0 [] [] (ag l i).At) (ak.mk 1 (ag l i).Text [] [an.mk 0 0 [] [] 0] 0 [] [] (ag l i).At) 0
     rw [h2,aa]
     rw [sq _ (by rw [s0,Cw H hm heq,aa,if_neg (by simp),h3,aa,aa]) (by rcases key with ⟨_,_,_,_,_,_,q⟩ | ⟨_,_,_,_,_,_,q⟩ <;> (intro e; exact absurd (q.symm.trans e) (by simp)))]
     exact key
end Go.Sy.Ex
namespace Go.Sy.Ex
open Go.Sy
def Fl:Nat→List ak→Prop
 | 0,_=>False
 | n+1,l=>l.length≤100000∧ ∀ a ∈ l,gZ a.X∧Fl n a.gh∧Fl n a.fG
def FL (l:List ak):Prop:= ∃ n,Fl n l
theorem Fl.up: ∀ {n m:Nat} {l:List ak},Fl n l→n≤m→Fl m l
 | 0,_,_,h,_=>h.elim
 | n+1,0,_,_,h=>by omega
 | n+1,m+1,l,⟨h1,h2⟩,h=>⟨h1,fun a ha=>⟨(h2 a ha).1,Fl.up (h2 a ha).2.1 (by omega),Fl.up (h2 a ha).2.2 (by omega)⟩⟩
theorem FL.nil:FL []:=⟨1,Nat.zero_le _,fun a ha=>by cases ha⟩
def AF (a:ak):Prop:=gZ a.X∧FL a.gh∧FL a.fG
theorem ug.af {a:ak} (h:ug a):AF a:=⟨h.1,by rw [h.2.1]; exact FL.nil,by rw [h.2.2]; exact FL.nil⟩
theorem FL.push {l:List ak} {a:ak} (h:FL l) (ha:AF a) (hl:l.length<100000):FL (l++ [a]):=by
 obtain ⟨n,hn⟩:=h
 obtain ⟨hx,⟨m,hm⟩,⟨p,hp⟩⟩:=ha
 cases n with
 | zero=>exact hn.elim
 | succ n=>
  refine ⟨max n (max m p)+1,by rw [List.length_append,List.length_singleton]; omega,fun b hb=> ?_⟩
  rw [List.mem_append,List.mem_singleton] at hb
  rcases hb with hb | rfl
  · exact ⟨(hn.2 b hb).1,Fl.up (hn.2 b hb).2.1 (by omega),Fl.up (hn.2 b hb).2.2 (by omega)⟩
  · exact ⟨hx,Fl.up hm (by omega),Fl.up hp (by omega)⟩
def BS (l:List ai) (i d:Nat):Prop:=
 (∃ v j Z,i+1≤j∧j<l.length∧FL v∧(∀ k,Z≤k→fN k (at' l i d)=some (v,at' l j d))∧ ∀ k,Z≤k→gT k l (i:Int) (d:Int)=some (v,((j:Nat):Int),⟨0,0⟩))∨
 (∃ v s Z,s.Row.av.Code≠0∧(∀ k,Z≤k→fN k (at' l i d)=some (v,s))∧ ∀ k,Z≤k→gT k l (i:Int) (d:Int)=some ([],0,s.Row.av))
noncomputable def gI (k:Nat) (l:List ai) (i d:Nat):Option (ak×Int×az):=
 bif au (ag l i) kX then BW (gT k) l (i:Int) ((d+1:Nat):Int) else bif au (ag l i) kq then BY (gT k) l (i:Int) ((d+1:Nat):Int) else qX l (i:Int)
def IT (l:List ai) (i d:Nat):Prop:=
 (∃ a j Z,i+1≤j∧j<l.length∧AF a∧(∀ k,Z≤k→jH (fN k) (at' l i (d+1))=some (a,at' l j (d+1)))∧ ∀ k,Z≤k→gI k l i d=some (a,((j:Nat):Int),⟨0,0⟩))∨
 (∃ a s a' p Z,s.Row.av.Code≠0∧(∀ k,Z≤k→jH (fN k) (at' l i (d+1))=some (a,s))∧ ∀ k,Z≤k→gI k l i d=some (a',p,s.Row.av))
theorem xF {t:ai} {s s':List UInt8} (h:au t s=true) (hne:s≠s'):au t s'=false:=by
 unfold au; rw [decide_eq_false_iff_not]; rintro ⟨_,q⟩; exact hne ((of_decide_eq_true h).2.symm.trans q)
theorem Lo {l:List ai} {i o:Nat} (hi:i<l.length) (hl:l.length≤100000) {w:List UInt8} (hw:au (ag l i) w=true) (hc:w=kX∨w=kq) (self:aK→Option (List ak×aK)):
 jH self (at' l i o)=uB self (at' l i o) (ak.mk 0 [] [] [] 0 [] [] (ag l i).At):=by
 have be: ∀ x:Option (ak×aK),(x.bind fun r=>some (ak.mk r.1.Kind r.1.Name r.1.Event r.1.X r.1.N r.1.gh r.1.fG r.1.At,r.2))=x:=fun x=>by
  cases x with
  | none=>rfl
  | some r=>rw [aa,uD]
 have hn:(decide ((ag l i).Kind=1)&& !eM (ag l i).Text)=false:=by
  rw [(of_decide_eq_true hw).2]
  rcases hc with rfl | rfl
  · rw [show eM kX=true from by decide]; simp
  · rw [show eM kq=true from by decide]; simp
 unfold jH
 rw [ql hi,aa]
 dsimp only
 rw [CQ hi,aa,hn,cond_false]
 dsimp only
 rw [ji hi hl,aa,xF hw (by rcases hc with rfl | rfl <;> decide),cond_false,if_neg (by decide)]
 dsimp only
 rw [ji hi hl,aa,xF hw (by rcases hc with rfl | rfl <;> decide),cond_false,if_neg (by decide)]
 dsimp only
 rw [ji hi hl,aa,xF hw (by rcases hc with rfl | rfl <;> decide),cond_false,if_neg (by decide)]
 dsimp only
 rw [ji hi hl,aa,xF hw (by rcases hc with rfl | rfl <;> decide),cond_false,if_neg (by decide)]
 dsimp only
 rw [qk hi,aa]
 dsimp only
 rcases hc with rfl | rfl
 · rw [hw,cond_true,cond_true,be]
 · rw [xF hw (by decide),cond_false,qk hi,aa]
   dsimp only
   rw [hw,cond_true,be]
theorem LI {s:aK} (h:s.Row.av.Code≠0): ∃ s',s'.Row=s.Row∧ ∀ k,fN (k+3) s=some ([],s'):=by
 refine ⟨aK.mk s.Row (aj (aj (s.bG+1) - 1)),rfl,fun k=> ?_⟩
 show oJ (fN (k+2)) (k+2) s=_
 unfold oJ
 rw [Gt h,aa,cond_false,sx.eq_2]
 rw [show aK.mk (aU.mk s.Row.L s.Row.At (az.mk s.Row.av.Code s.Row.av.At)) s.bG=s from by cases s; rename_i r o; cases r; rename_i l a f; cases f; rfl,uE h,aa]
 exact CR (s:=aK.mk s.Row (aj (s.bG+1))) h _ k []
theorem Yx {l:List ai} (H:Ok l) {i d:Nat} (hi:i<l.length) (hd:d≤10) (IH: ∀ j,i<j→j<l.length→BS l j (d+1)):IT l i d:=by
 have hl:=H.len
 have et:l.getD ((i:Nat):Int).toNat ai.z=ag l i:=by rw [Int.toNat_natCast]; rfl
 cases hif:au (ag l i) kX with
 | true=>
  have hm:=dh H hi hif
  have hlo:au (ag l i) kq=false:=xF hif (by decide)
  have f0: ∀ self,jH self (at' l i (d+1))=(j4 (at' l (i+1) (d+1))).bind fun r5=>
   (self r5.2).bind fun r6=>
   (iX r6.2 ry).bind fun r7=>
   bif r7.1 then
   (self r7.2).bind fun r8=>
   some (ak.mk 6 [] [] r5.1 0 r6.1 r8.1 (ag l i).At,r8.2) else
   some (ak.mk 6 [] [] r5.1 0 r6.1 [] (ag l i).At,r7.2):=fun self=>by
   rw [Lo hi hl hif (.inl rfl)]
   unfold uB
   rw [ji hi hl,aa,hlo,cond_false,if_neg (by decide)]
   dsimp only
   rw [wS hi hl hif,aa]
  have g0: ∀ k,gI k l i d=(lV l ((i+1:Nat):Int)).bind fun r1=>
   if r1.2.2.Code≠0 then
   some (ak.mk 6 [] [] [] 0 [] [] (ag l i).At,0,r1.2.2) else
   (gT k l r1.2.1 ((d+1:Nat):Int)).bind fun r2=>
   if r2.2.2.Code=0 then
   (dj l r2.2.1 ry).bind fun r3=>
   bif r3 then
   (gT k l (aj (r2.2.1+1)) ((d+1:Nat):Int)).bind fun r4=>
   some (ak.mk 6 [] [] r1.1 0 r2.1 r4.1 (ag l i).At,r4.2.1,r4.2.2) else
   some (ak.mk 6 [] [] r1.1 0 r2.1 [] (ag l i).At,r2.2.1,r2.2.2) else
   some (ak.mk 6 [] [] r1.1 0 r2.1 [] (ag l i).At,r2.2.1,r2.2.2):=fun k=>by
   unfold gI BW
   rw [hif,cond_true,if_pos (by omega),if_pos (by omega),cO hi hl,et]
  rcases GL (o:=d+1) H hm with ⟨X,j,h1,h2,hX,h3,h4⟩ | ⟨X,s,X',j',h1,h2,h3⟩
  · rcases IH j (by omega) h2 with ⟨v,j2,Z,k1,k2,k3,k4,k5⟩ | ⟨v,s,Z,k1,k2,k3⟩
    · cases hel:au (ag l j2) ry with
      | true=>
       have hm2:=dh H k2 hel
       rcases IH (j2+1) (by omega) hm2 with ⟨w,j3,Z2,m1,m2,m3,m4,m5⟩ | ⟨w,s,Z2,m1,m2,m3⟩
       · refine .inl ⟨ak.mk 6 [] [] X 0 v w (ag l i).At,j3,Z+Z2,by omega,m2,⟨hX,k3,m3⟩,fun k hk=> ?_,fun k hk=> ?_⟩
         · rw [f0,h3,aa]
           dsimp only
           rw [k4 k (by omega),aa]
           dsimp only
           rw [ji k2 hl,aa,hel,cond_true,if_pos rfl]
           dsimp only
           rw [m4 k (by omega),aa]
         · rw [g0,h4,aa]
           dsimp only
           rw [if_neg (by simp),k5 k (by omega),aa]
           dsimp only
           rw [if_pos rfl,fQ k2,aa,hel,cond_true,cO k2 hl,m5 k (by omega),aa]
       · refine .inr ⟨ak.mk 6 [] [] X 0 v w (ag l i).At,s,ak.mk 6 [] [] X 0 v [] (ag l i).At,0,Z+Z2,m1,fun k hk=> ?_,fun k hk=> ?_⟩
         · rw [f0,h3,aa]
           dsimp only
           rw [k4 k (by omega),aa]
           dsimp only
           rw [ji k2 hl,aa,hel,cond_true,if_pos rfl]
           dsimp only
           rw [m2 k (by omega),aa]
         · rw [g0,h4,aa]
           dsimp only
           rw [if_neg (by simp),k5 k (by omega),aa]
           dsimp only
           rw [if_pos rfl,fQ k2,aa,hel,cond_true,cO k2 hl,m3 k (by omega),aa]
      | false=>
       refine .inl ⟨ak.mk 6 [] [] X 0 v [] (ag l i).At,j2,Z,by omega,k2,⟨hX,k3,FL.nil⟩,fun k hk=> ?_,fun k hk=> ?_⟩
       · rw [f0,h3,aa]
         dsimp only
         rw [k4 k hk,aa]
         dsimp only
         rw [ji k2 hl,aa,hel,cond_false,if_neg (by decide)]
       · rw [g0,h4,aa]
         dsimp only
         rw [if_neg (by simp),k5 k hk,aa]
         dsimp only
         rw [if_pos rfl,fQ k2,aa,hel,cond_false]
    · refine .inr ⟨ak.mk 6 [] [] X 0 v [] (ag l i).At,s,ak.mk 6 [] [] X 0 [] [] (ag l i).At,0,Z,k1,fun k hk=> ?_,fun k hk=> ?_⟩
      · rw [f0,h3,aa]
        dsimp only
        rw [k2 k hk,aa]
        dsimp only
        rw [GD k1,aa,cond_false]
      · rw [g0,h4,aa]
        dsimp only
        rw [if_neg (by simp),k3 k hk,aa]
        dsimp only
        rw [if_neg k1]
  · obtain ⟨s',hs',hb⟩:=LI h1
    have h1':s'.Row.av.Code≠0:=by rw [hs']; exact h1
    refine .inr ⟨ak.mk 6 [] [] X 0 [] [] (ag l i).At,s',ak.mk 6 [] [] [] 0 [] [] (ag l i).At,0,3,h1',fun k hk=> ?_,fun k hk=> ?_⟩
    · obtain ⟨k,rfl⟩: ∃ j,k=j+3:=⟨k - 3,by omega⟩
      rw [f0,h2,aa]
      dsimp only
      rw [hb k,aa]
      dsimp only
      rw [GD h1',aa,cond_false]
    · rw [g0,h3,aa]
      dsimp only
      rw [if_pos h1,hs']
 | false=>
 cases hlo:au (ag l i) kq with
 | true=>
  have hm:=dh H hi hlo
  have f0: ∀ self,jH self (at' l i (d+1))=(td (at' l (i+1) (d+1))).bind fun r2=>
   (self r2.2).bind fun r3=>
   some (ak.mk 7 [] [] [] r2.1 r3.1 [] (ag l i).At,r3.2):=fun self=>by
   rw [Lo hi hl hlo (.inr rfl)]
   unfold uB
   rw [ji hi hl,aa,hlo,cond_true,if_pos rfl]
  have Wl:l.getD ((i+1:Nat):Int).toNat ai.z=ag l (i+1):=by rw [Int.toNat_natCast]; rfl
  have g0: ∀ k,gI k l i d=if (ag l (i+1)).Kind≠2 then
   some (ak.mk 7 [] [] [] 0 [] [] (ag l i).At,0,bd (ag l (i+1))) else
   (gT k l (aj (((i+1:Nat):Int)+1)) ((d+1:Nat):Int)).bind fun r2=>
   some (ak.mk 7 [] [] [] (ag l (i+1)).N r2.1 [] (ag l i).At,r2.2.1,r2.2.2):=fun k=>by
   unfold gI BY
   rw [hif,cond_false,hlo,cond_true,if_pos (by omega),if_pos (by omega),cO hi hl,et,Wl,if_pos (by omega),if_pos (by omega)]
   by_cases q:(ag l (i+1)).Kind≠2
   · rw [if_pos q,if_pos q,kf hm,aa]; rfl
   · rw [if_neg q,if_neg q,if_pos (by omega),if_pos (by omega)]
  by_cases hk2:(ag l (i+1)).Kind=2
  · have hm2:=H.more (i+1) hm (by omega)
    have Dx:td (at' l (i+1) (d+1))=some ((ag l (i+1)).N,at' l (i+1+1) (d+1)):=by
     unfold td
     rw [ql hm,aa]
     dsimp only
     rw [if_neg (by simp [hk2])]
     show some ((ag l (i+1)).N,(⟨⟨l,aj (((i+1:Nat):Int)+1),⟨0,0⟩⟩,((d+1:Nat):Int)⟩:aK))=_
     rw [cO hm hl]; rfl
    rcases IH (i+1+1) (by omega) hm2 with ⟨v,j,Z,k1,k2,k3,k4,k5⟩ | ⟨v,s,Z,k1,k2,k3⟩
    · refine .inl ⟨ak.mk 7 [] [] [] (ag l (i+1)).N v [] (ag l i).At,j,Z,by omega,k2,⟨gZ.nil,k3,FL.nil⟩,fun k hk=> ?_,fun k hk=> ?_⟩
      · rw [f0,Dx,aa]
        dsimp only
        rw [k4 k hk,aa]
      · rw [g0,if_neg (by simp [hk2]),cO hm hl,k5 k hk,aa]
    · refine .inr ⟨ak.mk 7 [] [] [] (ag l (i+1)).N v [] (ag l i).At,s,ak.mk 7 [] [] [] (ag l (i+1)).N [] [] (ag l i).At,0,Z,k1,fun k hk=> ?_,fun k hk=> ?_⟩
      · rw [f0,Dx,aa]
        dsimp only
        rw [k2 k hk,aa]
      · rw [g0,if_neg (by simp [hk2]),cO hm hl,k3 k hk,aa]
  · have Dx:td (at' l (i+1) (d+1))=some (0,aK.mk (aU.mk l ((i+1:Nat):Int) (bd (ag l (i+1)))) ((d+1:Nat):Int)):=by
     unfold td
     rw [ql hm,aa]
     dsimp only
     rw [if_pos hk2,GF hm,aa]
    obtain ⟨s',hs',hb⟩:=LI (s:=aK.mk (aU.mk l ((i+1:Nat):Int) (bd (ag l (i+1)))) ((d+1:Nat):Int)) (iC _)
    refine .inr ⟨ak.mk 7 [] [] [] 0 [] [] (ag l i).At,s',ak.mk 7 [] [] [] 0 [] [] (ag l i).At,0,3,by rw [hs']; exact iC _,fun k hk=> ?_,fun k hk=> ?_⟩
    · obtain ⟨k,rfl⟩: ∃ j,k=j+3:=⟨k - 3,by omega⟩
      rw [f0,Dx,aa]
      dsimp only
      rw [hb k,aa]
    · rw [g0,if_pos hk2,hs']
 | false=>
  have gs: ∀ k,gI k l i d=qX l (i:Int):=fun k=>by unfold gI; rw [hif,cond_false,hlo,cond_false]
  have key: ∀ self,uo ug l (i+1) (d+1) (jH self (at' l i (d+1))) (qX l (i:Int)):=fun self=>Ud H hi hif hlo self
  have Oj: ∀ self self',jH self (at' l i (d+1))=jH self' (at' l i (d+1)):=fun self self'=>(Gp hi hl hif hlo self).trans (Gp hi hl hif hlo self').symm
  rcases key (fN 0) with ⟨a,j,h1,h2,h3,h4,h5⟩ | ⟨a,s,a',p,h1,h2,h3⟩
  · exact .inl ⟨a,j,0,h1,h2,h3.af,fun k _=>by rw [Oj _ (fN 0)]; exact h4,fun k _=>by rw [gs]; exact h5⟩
  · exact .inr ⟨a,s,a',p,0,h1,fun k _=>by rw [Oj _ (fN 0)]; exact h2,fun k _=>by rw [gs]; exact h3⟩
end Go.Sy.Ex
namespace Go.Sy.Ex
open Go.Sy
theorem QV {l:List ai} (H:Ok l) {i0 d:Nat} (hd:d≤10) (IH: ∀ i,i0≤i→i<l.length→IT l i d): ∀ (r i:Nat) (acc:List ak),l.length≤i+r→i0≤i→i<l.length→acc.length≤i→FL acc→
 (∃ v j Z,i+1≤j∧j<l.length∧FL v∧(∀ k,Z≤k→ ∀ k',Z≤k'→kH (fN k) k' l (i:Int) 0 0 ((d+1:Nat):Int) acc=some (v,at' l j d))∧ ∀ k,Z≤k→ ∀ k',Z≤k'→mW (gT k) k' l (i:Int) (d:Int) 0 0 acc=some (v,((j:Nat):Int),⟨0,0⟩))∨
 (∃ v s Z,s.Row.av.Code≠0∧(∀ k,Z≤k→ ∀ k',Z≤k'→kH (fN k) k' l (i:Int) 0 0 ((d+1:Nat):Int) acc=some (v,s))∧ ∀ k,Z≤k→ ∀ k',Z≤k'→mW (gT k) k' l (i:Int) (d:Int) 0 0 acc=some ([],0,s.Row.av))
 | 0,i,acc,hr,_,hi,_,_=>by omega
 | r+1,i,acc,hr,h0,hi,hacc,hfl=>by
  have hl:=H.len
  have hw:aj (((d+1:Nat):Int) - 1)=(d:Int):=by rw [cv (by omega) (by omega)]; omega
  have Yd:aj ((d:Int)+1)=((d+1:Nat):Int):=by rw [cv (by omega) (by omega)]; omega
  have dL:aK.mk (aU.mk l (i:Int) (az.mk 0 0)) ((d+1:Nat):Int)=at' l i (d+1):=rfl
  cases hrb:au (ag l i) fh with
  | true=>
   refine .inl ⟨acc,i+1,1,Nat.le_refl _,dh H hi hrb,hfl,fun k hk k' hk'=> ?_,fun k hk k' hk'=> ?_⟩
   · obtain ⟨k',rfl⟩: ∃ j,k'=j+1:=⟨k' - 1,by omega⟩
     rw [kH.eq_2,dL,mu,aa,cond_true]
     dsimp only
     rw [ji hi hl,aa,hrb,Bool.not_true,cond_false,if_pos rfl]
     show some (acc,(⟨⟨l,((i+1:Nat):Int),⟨0,0⟩⟩,aj (((d+1:Nat):Int) - 1)⟩:aK))=_
     rw [hw]; rfl
   · obtain ⟨k',rfl⟩: ∃ j,k'=j+1:=⟨k' - 1,by omega⟩
     rw [mW.eq_2,fQ hi,aa,hrb,Bool.not_true,cond_false,cO hi hl]
  | false=>
   have HB: ∀ k k',kH (fN k) (k'+1) l (i:Int) 0 0 ((d+1:Nat):Int) acc=(jH (fN k) (at' l i (d+1))).bind fun r7=>
    if (acc.length+ [r7.1].length)*128≤140737488355328 then
    kH (fN k) k' r7.2.Row.L r7.2.Row.At r7.2.Row.av.Code r7.2.Row.av.At r7.2.bG (acc++ [r7.1]) else none:=fun k k'=>by
    rw [kH.eq_2,dL,mu,aa,cond_true]
    dsimp only
    rw [ji hi hl,aa,hrb,Bool.not_false,cond_true,if_neg (by decide)]
   have HC: ∀ k k',mW (gT k) (k'+1) l (i:Int) (d:Int) 0 0 acc=(gI k l i d).bind fun r5=>
    if r5.2.2.Code≠0 then
    some ([],0,r5.2.2) else
    if (acc.length+ [r5.1].length)*128≤140737488355328 then
    mW (gT k) k' l r5.2.1 (d:Int) 0 0 (acc++ [r5.1]) else none:=fun k k'=>by
    rw [mW.eq_2,fQ hi,aa,hrb,Bool.not_false,cond_true,fQ hi,aa,Yd]
    unfold gI
    simp only [uD]
    cases au (ag l i) kX with
    | true=>rfl
    | false=>
     rw [cond_false,cond_false,fQ hi,aa]
     cases au (ag l i) kq with
     | true=>rfl
     | false=>rfl
   rcases IH i h0 hi with ⟨a,j,Z,h1,h2,h3,h4,h5⟩ | ⟨a,s,a',p,Z,h1,h2,h3⟩
   · rcases QV H hd IH r j (acc++ [a]) (by omega) (by omega) h2 (by rw [List.length_append,List.length_singleton]; omega) (hfl.push h3 (by omega)) with ⟨v,j2,Z2,k1,k2,k3,k4,k5⟩ | ⟨v,s,Z2,k1,k2,k3⟩
     · refine .inl ⟨v,j2,Z+Z2+1,by omega,k2,k3,fun k hk k' hk'=> ?_,fun k hk k' hk'=> ?_⟩
       · obtain ⟨k',rfl⟩: ∃ j,k'=j+1:=⟨k' - 1,by omega⟩
         rw [HB,h4 k (by omega),aa,if_pos (by simp only [List.length_singleton]; omega)]
         exact k4 k (by omega) k' (by omega)
       · obtain ⟨k',rfl⟩: ∃ j,k'=j+1:=⟨k' - 1,by omega⟩
         rw [HC,h5 k (by omega),aa,if_neg (by simp),if_pos (by simp only [List.length_singleton]; omega)]
         exact k5 k (by omega) k' (by omega)
     · refine .inr ⟨v,s,Z+Z2+1,k1,fun k hk k' hk'=> ?_,fun k hk k' hk'=> ?_⟩
       · obtain ⟨k',rfl⟩: ∃ j,k'=j+1:=⟨k' - 1,by omega⟩
         rw [HB,h4 k (by omega),aa,if_pos (by simp only [List.length_singleton]; omega)]
         exact k2 k (by omega) k' (by omega)
       · obtain ⟨k',rfl⟩: ∃ j,k'=j+1:=⟨k' - 1,by omega⟩
         rw [HC,h5 k (by omega),aa,if_neg (by simp),if_pos (by simp only [List.length_singleton]; omega)]
         exact k3 k (by omega) k' (by omega)
   · refine .inr ⟨acc++ [a],aK.mk s.Row (aj (s.bG - 1)),Z+2,h1,fun k hk k' hk'=> ?_,fun k hk k' hk'=> ?_⟩
     · obtain ⟨k',rfl⟩: ∃ j,k'=j+2:=⟨k' - 2,by omega⟩
       rw [HB,h2 k (by omega),aa,if_pos (by simp only [List.length_singleton]; omega)]
       exact CR h1 _ k' _
     · obtain ⟨k',rfl⟩: ∃ j,k'=j+1:=⟨k' - 1,by omega⟩
       rw [HC,h3 k (by omega),aa,if_pos h1]
theorem LJ {l:List ai} (H:Ok l): ∀ (n i d:Nat),l.length≤i+n→i<l.length→d≤4→BS l i d
 | 0,i,d,hn,hi,_=>by omega
 | n+1,i,d,hn,hi,hd=>by
  have hl:=H.len
  have et:l.getD ((i:Nat):Int).toNat ai.z=ag l i:=by rw [Int.toNat_natCast]; rfl
  cases hlb:au (ag l i) ew with
  | false=>
   have hw:dZ (at' l i d) ew=_:=zW hi hl hlb
   refine .inr ⟨[],aK.mk (aU.mk l (i:Int) (bd (ag l i))) (aj (aj ((d:Int)+1) - 1)),3,iC _,fun k hk=> ?_,fun k hk=> ?_⟩
   · obtain ⟨k,rfl⟩: ∃ j,k=j+3:=⟨k - 3,by omega⟩
     show oJ (fN (k+2)) (k+2) (at' l i d)=_
     unfold oJ
     rw [qk hi,aa]
     dsimp only
     rw [hlb,cond_false,sx.eq_2]
     rw [show aK.mk (aU.mk (at' l i d).Row.L (at' l i d).Row.At (az.mk (at' l i d).Row.av.Code (at' l i d).Row.av.At)) (at' l i d).bG=at' l i d from rfl,hw,aa]
     exact CR (s:=aK.mk (aU.mk l (i:Int) (bd (ag l i))) (aj ((d:Int)+1))) (iC _) _ k []
   · obtain ⟨k,rfl⟩: ∃ j,k=j+1:=⟨k - 1,by omega⟩
     show pM (gT k) k l (i:Int) (d:Int)=_
     unfold pM
     rw [fQ hi,aa,hlb,Bool.not_false,cond_true,kf hi,aa]
     rfl
  | true=>
   have hm:=dh H hi hlb
   by_cases h4:d=4
   · subst h4
     have hk: ∃ k s n,strip (ag l i)=(k,s,n):=⟨_,_,_,rfl⟩
     refine .inr ⟨[],aK.mk (aU.mk l (i:Int) ⟨14,(ag l i).At⟩) (aj (aj (((4:Nat):Int)+1) - 1)),3,by show (14:Int)≠0; decide,fun k hk=> ?_,fun k hk=> ?_⟩
     · obtain ⟨k,rfl⟩: ∃ j,k=j+3:=⟨k - 3,by omega⟩
       show oJ (fN (k+2)) (k+2) (at' l i 4)=_
       unfold oJ
       rw [qk hi,aa]
       dsimp only
       rw [hlb,cond_true,if_pos (by rfl),ql hi,aa]
       dsimp only
       rw [show iE (at' l i 4) 14 (ag l i).At=some (aK.mk (aU.mk l (i:Int) ⟨14,(ag l i).At⟩) ((4:Nat):Int)) from by
        unfold iE; rw [mu,aa]; rfl,aa,sx.eq_2]
       dsimp only
       have Xf:(aK.mk (aU.mk l (i:Int) ⟨14,(ag l i).At⟩) ((4:Nat):Int)).Row.av.Code≠0:=by show (14:Int)≠0; decide
       rw [uE Xf,aa]
       have key: ∀ (self:aK→Option (List ak×aK)) (a w:Int),kH self (k+1) l (i:Int) 14 a w []=some ([],aK.mk (aU.mk l (i:Int) ⟨14,a⟩) (aj (w - 1))):=fun self a w=>CR (s:=aK.mk (aU.mk l (i:Int) ⟨14,a⟩) w) (by show (14:Int)≠0; decide) self k []
       exact key _ _ _
     · obtain ⟨k,rfl⟩: ∃ j,k=j+1:=⟨k - 1,by omega⟩
       show pM (gT k) k l (i:Int) ((4:Nat):Int)=_
       unfold pM
       rw [fQ hi,aa,hlb,Bool.not_true,cond_false,if_pos (by rfl),if_pos (by omega),if_pos (by omega),et]
   · have Ta: ∀ j,i+1≤j→j<l.length→IT l j d:=fun j h1 h2=>Yx H h2 (by omega) fun q h3 WX=>LJ H n q (d+1) (by omega) WX (by omega)
     have oU: ∀ k,fN (k+2) (at' l i d)=kH (fN (k+1)) k l ((i+1:Nat):Int) 0 0 ((d+1:Nat):Int) []:=fun k=>by
      show oJ (fN (k+1)) (k+1) (at' l i d)=_
      unfold oJ
      rw [qk hi,aa]
      dsimp only
      rw [hlb,cond_true,if_neg (by show ¬ ((d:Nat):Int)=4; omega),sx.eq_2]
      rw [show aK.mk (aU.mk (at' l i d).Row.L (at' l i d).Row.At (az.mk (at' l i d).Row.av.Code (at' l i d).Row.av.At)) (at' l i d).bG=at' l i d from rfl,wS hi hl hlb,aa]
      show kH (fN (k+1)) k l ((i+1:Nat):Int) 0 0 (aj (((d:Nat):Int)+1)) []=_
      rw [show aj (((d:Nat):Int)+1)=((d+1:Nat):Int) from by rw [cv (by omega) (by omega)]; omega]
     have oV: ∀ k,gT (k+1) l (i:Int) (d:Int)=mW (gT k) k l ((i+1:Nat):Int) (d:Int) 0 0 []:=fun k=>by
      show pM (gT k) k l (i:Int) (d:Int)=_
      unfold pM
      rw [fQ hi,aa,hlb,Bool.not_true,cond_false,if_neg (by omega),cO hi hl]
     rcases QV H (by omega) Ta l.length (i+1) [] (by omega) (Nat.le_refl _) hm (Nat.zero_le _) FL.nil with ⟨v,j,Z,k1,k2,k3,k4,k5⟩ | ⟨v,s,Z,k1,k2,k3⟩
     · refine .inl ⟨v,j,Z+2,by omega,k2,k3,fun k hk=> ?_,fun k hk=> ?_⟩
       · obtain ⟨k,rfl⟩: ∃ j,k=j+2:=⟨k - 2,by omega⟩
         rw [oU]; exact k4 (k+1) (by omega) k (by omega)
       · obtain ⟨k,rfl⟩: ∃ j,k=j+1:=⟨k - 1,by omega⟩
         rw [oV]; exact k5 k (by omega) k (by omega)
     · refine .inr ⟨v,s,Z+2,k1,fun k hk=> ?_,fun k hk=> ?_⟩
       · obtain ⟨k,rfl⟩: ∃ j,k=j+2:=⟨k - 2,by omega⟩
         rw [oU]; exact k2 (k+1) (by omega) k (by omega)
       · obtain ⟨k,rfl⟩: ∃ j,k=j+1:=⟨k - 1,by omega⟩
         rw [oV]; exact k3 k (by omega) k (by omega)
end Go.Sy.Ex
namespace Go.Sy.Ex
open Go.Sy
theorem fR {n:Nat} (h:n<1000000000):aj ((n:Int)+1)=((n+1:Nat):Int):=by rw [cv (by omega) (by omega)]; omega
theorem Pt: ∀ (n:Nat) (e:an),Fe n e→ ∀ k,n+4≤k→v_ k e e=some true
 | 0,e,h,_,_=>h.elim
 | n+1,e,⟨h1,h4⟩,k,hk=>by
  obtain ⟨k,rfl⟩: ∃ j,k=j+1:=⟨k - 1,by omega⟩
  show EO (v_ k) k e e=_
  unfold EO
  rw [if_neg (fun q=>q rfl),if_neg (fun q=>q rfl),if_neg (fun q=>q rfl),if_neg (fun q=>q rfl)]
  have loop: ∀ m i,i+m=e.Kids.length→ ∀ k',m+1≤k'→yx (v_ k) k' e.Kind e.N e.Name e.Kids e.At e.Kind e.N e.Name e.Kids e.At ((i:Nat):Int)=some true:=by
   intro m
   induction m with
   | zero=>
    intro i h k' hk'
    obtain ⟨k',rfl⟩: ∃ j,k'=j+1:=⟨k' - 1,by omega⟩
    rw [yx.eq_2,if_neg (by omega)]
   | succ m ih=>
    intro i h k' hk'
    obtain ⟨k',rfl⟩: ∃ j,k'=j+1:=⟨k' - 1,by omega⟩
    have hi:i<e.Kids.length:=by omega
    rw [yx.eq_2,if_pos (by omega),if_pos (by omega),if_pos (by omega),if_pos (by omega),if_pos (by omega),Int.toNat_natCast,cz _ hi,Pt n _ (h4 _ (List.getElem_mem hi)) k (by omega),aa,Bool.not_true,cond_false,fR (by omega)]
    exact ih (i+1) (by omega) k' (by omega)
  exact loop e.Kids.length 0 (by omega) k (by omega)
theorem Z4 {e:an} (h:Fd e):EN e e=some true:=by
 obtain ⟨n,hn⟩:=h
 exact br (n+4) fun k hk=>Pt n e hn k hk
theorem O1 {X:List an} (h:gZ X):yu X X=some true:=br 2 fun k hk=>by
 obtain ⟨k,rfl⟩: ∃ j,k=j+2:=⟨k - 2,by omega⟩
 show EL (k+2) X X=_
 unfold EL
 rw [if_neg (fun q=>q rfl)]
 match X,h with
 | [],_=>rw [yw.eq_2,if_neg (by simp)]
 | [e],h=>
  rw [yw.eq_2,if_pos (by simp),if_pos (by decide),if_pos (by simp),if_pos (by decide),if_pos (by simp),show [e].getD (0:Int).toNat an.z=e from rfl,Z4 (h.2 e (by simp)),aa,Bool.not_true,cond_false,show aj ((0:Int)+1)=1 from by rw [cv (by decide) (by decide)]; rfl,yw.eq_2,if_neg (by simp)]
 | _::_::_,h=>exact absurd h.1 (by simp)
theorem J5: ∀ (n:Nat) (l:List ak),Fl n l→ ∀ k,n+100002≤k→we k l l=some true
 | 0,l,h,_,_=>h.elim
 | n+1,l,⟨h1,h4⟩,k,hk=>by
  obtain ⟨k,rfl⟩: ∃ j,k=j+1:=⟨k - 1,by omega⟩
  show EU (we k) k l l=_
  unfold EU
  rw [if_neg (fun q=>q rfl)]
  have loop: ∀ m i,i+m=l.length→ ∀ k',m+1≤k'→yA (we k) k' l l ((i:Nat):Int)=some true:=by
   intro m
   induction m with
   | zero=>
    intro i h k' hk'
    obtain ⟨k',rfl⟩: ∃ j,k'=j+1:=⟨k' - 1,by omega⟩
    rw [yA.eq_2,if_neg (by omega)]
   | succ m ih=>
    intro i h k' hk'
    obtain ⟨k',rfl⟩: ∃ j,k'=j+1:=⟨k' - 1,by omega⟩
    have hi:i<l.length:=by omega
    obtain ⟨g1,g2,g3⟩:=h4 _ (List.getElem_mem hi)
    rw [yA.eq_2,if_pos (by omega),if_pos (by omega),if_pos (by omega),if_pos (by omega),if_pos (by omega),Int.toNat_natCast,cz _ hi,if_neg (fun q=>q rfl),if_neg (fun q=>q rfl),if_neg (fun q=>q rfl),if_neg (fun q=>q rfl),O1 g1,aa,Bool.not_true,cond_false,J5 n _ g2 k (by omega),aa,Bool.not_true,cond_false,J5 n _ g3 k (by omega),aa,Bool.not_true,cond_false,fR (by omega)]
    exact ih (i+1) (by omega) k' (by omega)
  exact loop l.length 0 (by omega) k (by omega)
theorem adq {n:Nat} {l:List ak} (h:Fl n l):tA l l=some true:=br (n+100002) fun k hk=>J5 n l h k hk
end Go.Sy.Ex
namespace Go.Sy.Ex
open Go.Sy
def ct (l:List ai) (i:Nat):aE:=⟨⟨l,(i:Int),⟨0,0⟩⟩⟩
def rt (l:List ai) (i:Nat):aB:=⟨l,(i:Int),⟨0,0⟩⟩
def cb (l:List ai) (i:Nat):aE:=⟨⟨l,(i:Int),bd (ag l i)⟩⟩
def rb (l:List ai) (i:Nat):aB:=⟨l,(i:Int),bd (ag l i)⟩
def gp (t:ai):Bool:=decide (t.Kind=1)&& !eM t.Text
section
variable {l:List ai} {i:Nat}
theorem Rc:aB.mk (rt l i).l (rt l i).ah (az.mk (rt l i).bad.Code (rt l i).bad.At)=rt l i:=rfl
theorem uP:mR (ct l i)=some (true,ct l i):=rfl
theorem oQ (hi:i<l.length):gr (ct l i)=some (ag l i,ct l i):=by
 unfold gr
 rw [uP,aa]
 have h1: ¬ ((i:Nat):Int)<0:=by omega
 have h2: ¬ (l.length:Int)≤((i:Nat):Int):=by omega
 have h3:0≤((i:Nat):Int):=by omega
 have h4:((i:Nat):Int)<(l.length:Int):=by omega
 simp only [Bool.not_true,cond_false,ct,Int.toNat_natCast,h1,h2,h3,h4,if_true,if_false]; rfl
theorem uO (hi:i<l.length) (s:List UInt8):gG (ct l i) s=some (au (ag l i) s,ct l i):=by
 unfold gG au
 rw [oQ hi,aa]
 dsimp only
 by_cases h3:(ag l i).Kind=3
 · rw [if_pos h3]; congr 2; rw [decide_eq_decide]; simp [h3]
 · rw [if_neg h3]
   by_cases h1:(ag l i).Kind=1
   · rw [if_pos h1]; congr 2; rw [decide_eq_decide]; simp [h1]
   · rw [if_neg h1]
     congr 2
     symm
     rw [decide_eq_false_iff_not]
     rintro ⟨h | h,_⟩ <;> contradiction
theorem mD (hi:i<l.length) (hl:l.length≤100000) (s:List UInt8):dY (ct l i) s=some (au (ag l i) s,bif au (ag l i) s then ct l (i+1) else ct l i):=by
 unfold dY
 rw [uO hi,aa]
 dsimp only
 cases h:au (ag l i) s with
 | true=>
  rw [cond_true,cond_true]
  show some (true,(⟨⟨l,aj (((i:Nat):Int)+1),⟨0,0⟩⟩⟩:aE))=_
  rw [cO hi hl]; rfl
 | false=>rfl
theorem G8 (hi:i<l.length):n9 (ct l i)=some (cb l i):=by
 unfold n9
 rw [oQ hi,aa]
 dsimp only
 unfold cb bd
 by_cases h4:(ag l i).Kind=4
 · rw [if_pos h4,if_pos h4]
   unfold kg
   rw [uP,aa]
   rfl
 · rw [if_neg h4,if_neg h4]
   unfold kg
   rw [uP,aa]
   rfl
theorem G6 (hi:i<l.length) (hl:l.length≤100000) {s:List UInt8} (h:au (ag l i) s=true):cL (ct l i) s=some (ct l (i+1)):=by
 unfold cL
 rw [mD hi hl,aa,h]; rfl
theorem Mt (hi:i<l.length) (hl:l.length≤100000) {s:List UInt8} (h:au (ag l i) s=false):cL (ct l i) s=some (cb l i):=by
 unfold cL
 rw [mD hi hl,aa,h,Bool.not_false,cond_true,cond_false,G8 hi,aa]
theorem Mf (hi:i<l.length):vB (ct l i)=some (gp (ag l i),ct l i):=by
 unfold vB gp
 rw [oQ hi,aa]
 dsimp only
 by_cases h1:(ag l i).Kind=1
 · rw [if_pos h1,DQ,aa,decide_eq_true h1]; rfl
 · rw [if_neg h1,decide_eq_false h1]; rfl
theorem Mj (hi:i<l.length) (hl:l.length≤100000) (h:gp (ag l i)=true):fD (ct l i)=some ((ag l i).Text,ct l (i+1)):=by
 unfold fD
 rw [Mf hi,aa,h]
 show (if 0≤aj (aj (((i:Nat):Int)+1) - 1) then if aj (aj (((i:Nat):Int)+1) - 1)<(l.length:Int) then some ((l.getD (aj (aj (((i:Nat):Int)+1) - 1)).toNat ai.z).Text,(⟨⟨l,aj (((i:Nat):Int)+1),⟨0,0⟩⟩⟩:aE)) else none else none)=_
 rw [cO hi hl,show aj (((i+1:Nat):Int) - 1)=((i:Nat):Int) from by rw [cv (by omega) (by omega)]; omega,if_pos (by omega),if_pos (by omega),Int.toNat_natCast]
 rfl
theorem Mi (hi:i<l.length) (h:gp (ag l i)=false):fD (ct l i)=some ([],cb l i):=by
 unfold fD
 rw [Mf hi,aa,h,Bool.not_false,cond_true,G8 hi,aa]
theorem VQ (hi:i<l.length) (hl:l.length≤100000) (h:(ag l i).Kind=2):ki (ct l i)=some ((ag l i).N,ct l (i+1)):=by
 unfold ki
 rw [oQ hi,aa,if_neg (fun q=>q h)]
 show some ((ag l i).N,(⟨⟨l,aj (((i:Nat):Int)+1),⟨0,0⟩⟩⟩:aE))=_
 rw [cO hi hl]; rfl
theorem VP (hi:i<l.length) (h:(ag l i).Kind≠2):ki (ct l i)=some (0,cb l i):=by
 unfold ki
 rw [oQ hi,aa,if_pos h,G8 hi,aa]
theorem lO:dO (rt l i)=some (true,rt l i):=rfl
theorem D_:dO (rb l i)=some (false,rb l i):=by unfold dO rb; rw [decide_eq_false (iC _)]
theorem gF (hi:i<l.length) (s:List UInt8):b_ (rt l i) s=some (au (ag l i) s,rt l i):=by
 unfold b_
 rw [lO,aa,cond_true]
 show (dj l ((i:Nat):Int) s).bind _=_
 rw [fQ hi,aa]
theorem nZ (hi:i<l.length) (hl:l.length≤100000):aB.mk (rt l i).l (aj ((rt l i).ah+1)) (rt l i).bad=rt l (i+1):=by
 show (⟨l,aj (((i:Nat):Int)+1),⟨0,0⟩⟩:aB)=_
 rw [cO hi hl]; rfl
theorem Jl (hi:i<l.length) (hl:l.length≤100000) {s:List UInt8} (h:au (ag l i) s=true):cu (rt l i) s=some (rt l (i+1)):=by
 unfold cu
 rw [lO,aa,cond_true]
 show (dj l ((i:Nat):Int) s).bind _=_
 rw [fQ hi,aa,h,Bool.not_true,cond_false,lO,aa,cond_true,nZ hi hl]
theorem Z_ (hi:i<l.length) {s:List UInt8} (h:au (ag l i) s=false):cu (rt l i) s=some (rb l i):=by
 unfold cu
 rw [lO,aa,cond_true]
 show (dj l ((i:Nat):Int) s).bind _=_
 rw [fQ hi,aa,h,Bool.not_false,cond_true]
 show (dG l ((i:Nat):Int)).bind _=_
 rw [kf hi,aa]
 show (dO (rb l i)).bind _=_
 rw [D_,aa]; rfl
theorem Pv (hi:i<l.length) (hl:l.length≤100000) (h:gp (ag l i)=true):fJ (rt l i)=some ((ag l i).Text,rt l (i+1)):=br 1 fun k hk=>by
 obtain ⟨k,rfl⟩: ∃ j,k=j+1:=⟨k - 1,by omega⟩
 show tE (k+1) (rt l i)=_
 unfold tE
 rw [lO,aa,cond_true]
 show (iG l ((i:Nat):Int)).bind _=_
 rw [oe hi,aa,show (decide ((ag l i).Kind=1)&& !eM (ag l i).Text)=true from h,Bool.not_true,cond_false,wh.eq_2]
 rw [Rc,lO,aa,Bool.not_true,cond_false,nZ hi hl]
 show (if 0≤aj (aj (((i:Nat):Int)+1) - 1) then if aj (aj (((i:Nat):Int)+1) - 1)<(l.length:Int) then some ((l.getD (aj (aj (((i:Nat):Int)+1) - 1)).toNat ai.z).Text,rt l (i+1)) else none else none)=_
 rw [cO hi hl,show aj (((i+1:Nat):Int) - 1)=((i:Nat):Int) from by rw [cv (by omega) (by omega)]; omega,if_pos (by omega),if_pos (by omega),Int.toNat_natCast]
 rfl
theorem Pu (hi:i<l.length) (h:gp (ag l i)=false):fJ (rt l i)=some ([],rb l i):=br 1 fun k hk=>by
 obtain ⟨k,rfl⟩: ∃ j,k=j+1:=⟨k - 1,by omega⟩
 show tE (k+1) (rt l i)=_
 unfold tE
 rw [lO,aa,cond_true]
 show (iG l ((i:Nat):Int)).bind _=_
 rw [oe hi,aa,show (decide ((ag l i).Kind=1)&& !eM (ag l i).Text)=false from h,Bool.not_false,cond_true]
 show (dG l ((i:Nat):Int)).bind _=_
 rw [kf hi,aa,wh.eq_2]
 show (dO (rb l i)).bind _=_
 rw [D_,aa]; rfl
theorem Z9 (hi:i<l.length) (hl:l.length≤100000) (h:(ag l i).Kind=2):kV (rt l i)=some ((ag l i).N,rt l (i+1)):=br 1 fun k hk=>by
 obtain ⟨k,rfl⟩: ∃ j,k=j+1:=⟨k - 1,by omega⟩
 show tF (k+1) (rt l i)=_
 unfold tF
 rw [lO,aa,cond_true]
 show (if 0≤((i:Nat):Int) then if ((i:Nat):Int)<(l.length:Int) then if (l.getD ((i:Nat):Int).toNat ai.z).Kind≠2 then _ else _ else none else none)=_
 rw [if_pos (by omega),if_pos (by omega),Int.toNat_natCast,if_neg (fun q=>q h),wj.eq_2]
 rw [Rc,lO,aa,Bool.not_true,cond_false,nZ hi hl]
 show (if 0≤aj (aj (((i:Nat):Int)+1) - 1) then if aj (aj (((i:Nat):Int)+1) - 1)<(l.length:Int) then some ((l.getD (aj (aj (((i:Nat):Int)+1) - 1)).toNat ai.z).N,rt l (i+1)) else none else none)=_
 rw [cO hi hl,show aj (((i+1:Nat):Int) - 1)=((i:Nat):Int) from by rw [cv (by omega) (by omega)]; omega,if_pos (by omega),if_pos (by omega),Int.toNat_natCast]
 rfl
theorem Z8 (hi:i<l.length) (h:(ag l i).Kind≠2):kV (rt l i)=some (0,rb l i):=br 1 fun k hk=>by
 obtain ⟨k,rfl⟩: ∃ j,k=j+1:=⟨k - 1,by omega⟩
 show tF (k+1) (rt l i)=_
 unfold tF
 rw [lO,aa,cond_true]
 show (if 0≤((i:Nat):Int) then if ((i:Nat):Int)<(l.length:Int) then if (l.getD ((i:Nat):Int).toNat ai.z).Kind≠2 then _ else _ else none else none)=_
 rw [if_pos (by omega),if_pos (by omega),Int.toNat_natCast,if_pos (show (l.getD i ai.z).Kind≠2 from h)]
 show (dG l ((i:Nat):Int)).bind _=_
 rw [kf hi,aa,wj.eq_2]
 show (dO (rb l i)).bind _=_
 rw [D_,aa]; rfl
end
section
variable {s:aE} (h:s.Row.av.Code≠0)
include h
theorem Mn:mR s=some (false,s):=by unfold mR; rw [decide_eq_false h]
theorem C5:gr s=some (ai.mk 4 0 0 [] 0,s):=by unfold gr; rw [Mn h,aa]; rfl
theorem C4 (x:List UInt8):gG s x=some (false,s):=by unfold gG; rw [C5 h,aa]; rfl
theorem oR (x:List UInt8):dY s x=some (false,s):=by unfold dY; rw [C4 h,aa]; rfl
theorem U7 (c a:Int):kg s c a=some s:=by unfold kg; rw [Mn h,aa]; rfl
theorem G7:n9 s=some s:=by
 unfold n9; rw [C5 h,aa]
 dsimp only
 rw [if_pos rfl,U7 h,aa]
theorem jM (x:List UInt8):cL s x=some s:=by
 unfold cL; rw [oR h,aa,Bool.not_false,cond_true]
 dsimp only
 rw [G7 h,aa]
theorem VO:fD s=some ([],s):=by
 unfold fD
 rw [show vB s=some (false,s) from by unfold vB; rw [C5 h,aa]; rfl,aa,Bool.not_false,cond_true]
 dsimp only
 rw [G7 h,aa]
theorem G3:ki s=some (0,s):=by
 unfold ki
 rw [C5 h,aa]
 dsimp only
 rw [if_pos (by decide)]
 rw [G7 h,aa]
end
section
variable {r:aB} (h:r.bad.Code≠0)
include h
theorem pq:dO r=some (false,r):=by unfold dO; rw [decide_eq_false h]
theorem mO (x:List UInt8):b_ r x=some (false,r):=by unfold b_; rw [pq h,aa]; rfl
theorem ke (x:List UInt8):cu r x=some r:=by
 unfold cu; rw [pq h,aa,cond_false]
 dsimp only
 rw [pq h,aa]; rfl
theorem Z7:fJ r=some ([],r):=br 1 fun k hk=>by
 obtain ⟨k,rfl⟩: ∃ j,k=j+1:=⟨k - 1,by omega⟩
 show tE (k+1) r=_
 unfold tE
 rw [pq h,aa,cond_false]
 dsimp only
 rw [wh.eq_2]
 show (dO r).bind _=_
 rw [pq h,aa]; rfl
theorem Jk:kV r=some (0,r):=br 1 fun k hk=>by
 obtain ⟨k,rfl⟩: ∃ j,k=j+1:=⟨k - 1,by omega⟩
 show tF (k+1) r=_
 unfold tF
 rw [pq h,aa,cond_false]
 dsimp only
 rw [wj.eq_2]
 show (dO r).bind _=_
 rw [pq h,aa]; rfl
theorem Z5:jW r=some ([],r):=by unfold jW; rw [pq h,aa]; rfl
end
end Go.Sy.Ex
namespace Go.Sy.Ex
open Go.Sy
def Bd (s:aE) (r:aB):Prop:=s.Row.av.Code≠0∧r.bad=s.Row.av
theorem Bd.r {s:aE} {r:aB} (h:Bd s r):r.bad.Code≠0:=by rw [h.2]; exact h.1
theorem Bd.mk (l:List ai) (i:Nat):Bd (cb l i) (rb l i):=⟨iC _,rfl⟩
def OE {α:Type} (Q:α→Prop) (l:List ai) (i:Nat) (f:Nat→Nat→Option (α×aE)) (g:Nat→Nat→Option (α×aB)):Prop:=
 (∃ v j Z,i≤j∧j<l.length∧Q v∧ ∀ k,Z≤k→ ∀ m,Z≤m→f k m=some (v,ct l j)∧g k m=some (v,rt l j))∨
 (∃ v s v' r Z,Bd s r∧ ∀ k,Z≤k→ ∀ m,Z≤m→f k m=some (v,s)∧g k m=some (v',r))
section
variable {α β:Type} {Q:α→Prop} {Q':β→Prop} {l:List ai} {i:Nat}
theorem OE.ok {v:α} {j:Nat} (h1:i≤j) (h2:j<l.length) (h3:Q v):OE Q l i (fun _ _=>some (v,ct l j)) (fun _ _=>some (v,rt l j)):= .inl ⟨v,j,0,h1,h2,h3,fun _ _ _ _=>⟨rfl,rfl⟩⟩
theorem OE.no {v v':α} {s:aE} {r:aB} (h:Bd s r):OE Q l i (fun _ _=>some (v,s)) (fun _ _=>some (v',r)):= .inr ⟨v,s,v',r,0,h,fun _ _ _ _=>⟨rfl,rfl⟩⟩
theorem OE.mono {i':Nat} {f g} (h:OE Q l i' f g) (hi:i≤i'):OE Q l i f g:=by
 rcases h with ⟨v,j,Z,h1,h2,h3,h4⟩ | h
 · exact .inl ⟨v,j,Z,by omega,h2,h3,h4⟩
 · exact .inr h
theorem OE.imp {Q2:α→Prop} {f g} (h:OE Q l i f g) (hq: ∀ v,Q v→Q2 v):OE Q2 l i f g:=by
 rcases h with ⟨v,j,Z,h1,h2,h3,h4⟩ | h
 · exact .inl ⟨v,j,Z,h1,h2,hq v h3,h4⟩
 · exact .inr h
theorem OE.bind {f g} {F:Nat→Nat→α×aE→Option (β×aE)} {G:Nat→Nat→α×aB→Option (β×aB)} (h:OE Q l i f g)
 (ok: ∀ v j,i≤j→j<l.length→Q v→OE Q' l i (fun k m=>F k m (v,ct l j)) (fun k m=>G k m (v,rt l j)))
 (bad: ∀ v s v' r,Bd s r→OE Q' l i (fun k m=>F k m (v,s)) (fun k m=>G k m (v',r))):OE Q' l i (fun k m=>(f k m).bind (F k m)) (fun k m=>(g k m).bind (G k m)):=by
 rcases h with ⟨v,j,Z,h1,h2,h3,h4⟩ | ⟨v,s,v',r,Z,h1,h4⟩
 · rcases ok v j h1 h2 h3 with ⟨w,j',Z',g1,g2,g3,g4⟩ | ⟨w,s,w',r,Z',g1,g4⟩
   · refine .inl ⟨w,j',max Z Z',g1,g2,g3,fun k hk m hm=> ?_⟩
     show (f k m).bind (F k m)=_∧(g k m).bind (G k m)=_
     rw [(h4 k (by omega) m (by omega)).1,(h4 k (by omega) m (by omega)).2]
     exact g4 k (by omega) m (by omega)
   · refine .inr ⟨w,s,w',r,max Z Z',g1,fun k hk m hm=> ?_⟩
     show (f k m).bind (F k m)=_∧(g k m).bind (G k m)=_
     rw [(h4 k (by omega) m (by omega)).1,(h4 k (by omega) m (by omega)).2]
     exact g4 k (by omega) m (by omega)
 · rcases bad v s v' r h1 with ⟨w,j',Z',g1,g2,g3,g4⟩ | ⟨w,s,w',r,Z',g1,g4⟩
   · refine .inl ⟨w,j',max Z Z',g1,g2,g3,fun k hk m hm=> ?_⟩
     show (f k m).bind (F k m)=_∧(g k m).bind (G k m)=_
     rw [(h4 k (by omega) m (by omega)).1,(h4 k (by omega) m (by omega)).2]
     exact g4 k (by omega) m (by omega)
   · refine .inr ⟨w,s,w',r,max Z Z',g1,fun k hk m hm=> ?_⟩
     show (f k m).bind (F k m)=_∧(g k m).bind (G k m)=_
     rw [(h4 k (by omega) m (by omega)).1,(h4 k (by omega) m (by omega)).2]
     exact g4 k (by omega) m (by omega)
theorem OE.from {f g} (N:Nat) {f' g'} (hf: ∀ k,N≤k→ ∀ m,N≤m→f k m=f' k m) (hg: ∀ k,N≤k→ ∀ m,N≤m→g k m=g' k m) (h:OE Q l i f' g'):OE Q l i f g:=by
 rcases h with ⟨v,j,Z,h1,h2,h3,h4⟩ | ⟨v,s,v',r,Z,h1,h4⟩
 · refine .inl ⟨v,j,max Z N,h1,h2,h3,fun k hk m hm=> ?_⟩
   rw [hf k (by omega) m (by omega),hg k (by omega) m (by omega)]; exact h4 k (by omega) m (by omega)
 · refine .inr ⟨v,s,v',r,max Z N,h1,fun k hk m hm=> ?_⟩
   rw [hf k (by omega) m (by omega),hg k (by omega) m (by omega)]; exact h4 k (by omega) m (by omega)
theorem OE.e9 {f g} (h:OE Q l i (fun k m=>f k (m+1)) (fun k m=>g k (m+1))):OE Q l i f g:=by
 rcases h with ⟨v,j,Z,h1,h2,h3,h4⟩ | ⟨v,s,v',r,Z,h1,h4⟩
 · refine .inl ⟨v,j,Z+1,h1,h2,h3,fun k hk m hm=> ?_⟩
   obtain ⟨m,rfl⟩: ∃ q,m=q+1:=⟨m - 1,by omega⟩
   exact h4 k (by omega) m (by omega)
 · refine .inr ⟨v,s,v',r,Z+1,h1,fun k hk m hm=> ?_⟩
   obtain ⟨m,rfl⟩: ∃ q,m=q+1:=⟨m - 1,by omega⟩
   exact h4 k (by omega) m (by omega)
theorem OE.bw {A B:Type} {F:Nat→Nat→A→Option (α×aE)} {G:Nat→Nat→B→Option (α×aB)} {x:A} {y:B} (h:OE Q l i (fun k m=>F k m x) (fun k m=>G k m y)):OE Q l i (fun k _=>Sy.bw (F k) x) (fun k _=>Sy.bw (G k) y):=by
 rcases h with ⟨v,j,Z,h1,h2,h3,h4⟩ | ⟨v,s,v',r,Z,h1,h4⟩
 · exact .inl ⟨v,j,Z,h1,h2,h3,fun k hk m hm=>⟨br Z fun m hm=>(h4 k hk m hm).1,br Z fun m hm=>(h4 k hk m hm).2⟩⟩
 · exact .inr ⟨v,s,v',r,Z,h1,fun k hk m hm=>⟨br Z fun m hm=>(h4 k hk m hm).1,br Z fun m hm=>(h4 k hk m hm).2⟩⟩
end
section
variable {β:Type} {Q':β→Prop} {l:List ai} {i:Nat}
theorem mc (H:Ok l) (hi:i<l.length) (w:List UInt8) {F:Nat→Nat→aE→Option (β×aE)} {G:Nat→Nat→aB→Option (β×aB)}
 (ok:i+1<l.length→au (ag l i) w=true→OE Q' l i (fun k m=>F k m (ct l (i+1))) (fun k m=>G k m (rt l (i+1)))) (bad: ∀ s r,Bd s r→OE Q' l i (fun k m=>F k m s) (fun k m=>G k m r)):
 OE Q' l i (fun k m=>(cL (ct l i) w).bind (F k m)) (fun k m=>(cu (rt l i) w).bind (G k m)):=by
 cases h:au (ag l i) w with
 | true=>rw [G6 hi H.len h,Jl hi H.len h]; exact ok (dh H hi h) h
 | false=>rw [Mt hi H.len h,Z_ hi h]; exact bad _ _ (Bd.mk l i)
theorem xI (H:Ok l) (hi:i<l.length) {F:Nat→Nat→List UInt8×aE→Option (β×aE)} {G:Nat→Nat→List UInt8×aB→Option (β×aB)}
 (ok:i+1<l.length→gp (ag l i)=true→OE Q' l i (fun k m=>F k m ((ag l i).Text,ct l (i+1))) (fun k m=>G k m ((ag l i).Text,rt l (i+1)))) (bad: ∀ v s v' r,Bd s r→OE Q' l i (fun k m=>F k m (v,s)) (fun k m=>G k m (v',r))):
 OE Q' l i (fun k m=>(fD (ct l i)).bind (F k m)) (fun k m=>(fJ (rt l i)).bind (G k m)):=by
 cases h:gp (ag l i) with
 | true=>
  rw [Mj hi H.len h,Pv hi H.len h]
  have h':=h
  unfold gp at h'
  rw [Bool.and_eq_true,decide_eq_true_eq] at h'
  exact ok (H.more i hi (by omega)) h
 | false=>rw [Mi hi h,Pu hi h]; exact bad _ _ _ _ (Bd.mk l i)
theorem DV (H:Ok l) (hi:i<l.length) {F:Nat→Nat→Int×aE→Option (β×aE)} {G:Nat→Nat→Int×aB→Option (β×aB)}
 (ok:i+1<l.length→(ag l i).Kind=2→OE Q' l i (fun k m=>F k m ((ag l i).N,ct l (i+1))) (fun k m=>G k m ((ag l i).N,rt l (i+1)))) (bad: ∀ v s v' r,Bd s r→OE Q' l i (fun k m=>F k m (v,s)) (fun k m=>G k m (v',r))):
 OE Q' l i (fun k m=>(ki (ct l i)).bind (F k m)) (fun k m=>(kV (rt l i)).bind (G k m)):=by
 by_cases h:(ag l i).Kind=2
 · rw [VQ hi H.len h,Z9 hi H.len h]; exact ok (H.more i hi (by omega)) h
 · rw [VP hi h,Z8 hi h]; exact bad _ _ _ _ (Bd.mk l i)
end
theorem Mh {l:List ai} {i:Nat} (j:Nat):nI (ct l i) (j:Int) ⟨0,0⟩=some (ct l j):=by
 unfold nI kg
 rw [uP,aa,cond_true,aa]; rfl
theorem Mg {l:List ai} {i:Nat} {f:az} (v:Int) (h:f.Code≠0): ∃ s:aE,s.Row.av=f∧nI (ct l i) v f=some s:=by
 refine ⟨⟨⟨l,v,f⟩⟩,rfl, ?_⟩
 unfold nI kg
 rw [uP,aa,cond_true,aa]; rfl
theorem Uo {l:List ai} (H:Ok l) {i:Nat} (hi:i<l.length): ∃ v j f,uw l (i:Int)=some (v,j,f)∧pL l (i:Int)=some (v,j,f)∧FL v∧(f.Code=0→f=⟨0,0⟩∧ ∃ n:Nat,j=(n:Int)∧i≤n∧n<l.length):=by
 rcases LJ H l.length i 0 (by omega) hi (by decide) with ⟨v,j,Z,h1,h2,h3,h4,h5⟩ | ⟨v,s,Z,h1,h2,h3⟩
 · refine ⟨v,(j:Int),⟨0,0⟩, ?_, ?_,h3,fun _=>⟨rfl,j,rfl,by omega,h2⟩⟩
   · unfold uw
     rw [show zS (aK.mk (aU.mk l (i:Int) (az.mk 0 0)) 0)=some (v,at' l j 0) from br Z h4,aa,mu,aa,Bool.not_true,cond_false]
     rfl
   · unfold pL
     rw [show yB l (i:Int) 0=some (v,((j:Nat):Int),⟨0,0⟩) from br Z h5,aa]
 · refine ⟨[],0,s.Row.av, ?_, ?_,FL.nil,fun q=>absurd q h1⟩
   · unfold uw
     rw [show zS (aK.mk (aU.mk l (i:Int) (az.mk 0 0)) 0)=some (v,s) from br Z h2,aa,zT h1,aa,Bool.not_false,cond_true]
   · unfold pL
     rw [show yB l (i:Int) 0=some ([],0,s.Row.av) from br Z h3,aa]
theorem ZM {l:List ai} (H:Ok l) {i:Nat} (hi:i<l.length) (hlb:au (ag l i) ew=false):pL l (i:Int)=some ([],0,bd (ag l i)):=by
 unfold pL
 rw [show yB l (i:Int) 0=some ([],0,bd (ag l i)) from br 1 fun k hk=>by
  obtain ⟨k,rfl⟩: ∃ j,k=j+1:=⟨k - 1,by omega⟩
  show pM (gT k) k l (i:Int) 0=_
  unfold pM
  rw [fQ hi,aa,hlb,Bool.not_false,cond_true,kf hi,aa]; rfl,aa]
theorem GK {l:List ai} (H:Ok l) {i:Nat} (hi:i<l.length):OE FL l i (fun _ _=>mC (ct l i)) (fun _ _=>jW (rt l i)):=by
 have hc:mC (ct l i)=(uw l ((i:Nat):Int)).bind fun r2=>(nI (ct l i) r2.2.1 r2.2.2).bind fun r3=>some (r2.1,r3):=by
  unfold mC
  rw [uP,aa]; rfl
 have hr:jW (rt l i)=(pL l ((i:Nat):Int)).bind fun r2=>(dO (aB.mk l ((i:Nat):Int) r2.2.2)).bind fun r3=>bif r3.1 then some (r2.1,aB.mk r3.2.l r2.2.1 r3.2.bad) else some (r2.1,r3.2):=by
  unfold jW
  rw [lO,aa]; rfl
 obtain ⟨v,j,f,h1,h2,h3,h4⟩:=Uo H hi
 rw [hc,hr,h1,h2,aa,aa]
 dsimp only
 by_cases hf:f.Code=0
 · obtain ⟨rfl,n,rfl,h5,h6⟩:=h4 hf
   rw [Mh,aa]
   exact OE.ok h5 h6 h3
 · obtain ⟨s,h5,h6⟩:=Mg (l:=l) (i:=i) j hf
   rw [h6,aa,pq (r:=aB.mk l ((i:Nat):Int) f) hf,aa]
   exact OE.no ⟨by rw [h5]; exact hf,h5.symm⟩
end Go.Sy.Ex
namespace Go.Sy.Ex
open Go.Sy
noncomputable section
theorem qE {t:ai} {s s':List UInt8} (h:au t s=true) (hs:s≠s'):au t s'=false:=by
 have h:=of_decide_eq_true h
 exact decide_eq_false fun q=>hs (h.2.symm.trans q.2)
def QT (t:aW):Prop:=gZ t.Guard∧FL t.uh
theorem Z6 {l:List ai} (H:Ok l) {i:Nat} (hi:i<l.length) (h:au (ag l i) ew=false):jW (rt l i)=some ([],rb l i):=by
 unfold jW
 rw [lO,aa,Bool.not_true,cond_false]
 show (pL l ((i:Nat):Int)).bind _=_
 rw [ZM H hi h,aa]
 show (dO (rb l i)).bind _=_
 rw [D_,aa]; rfl
section
variable {l:List ai} {i:Nat}
abbrev qo (m:Nat) (s:aE) (ev:List UInt8) (gd:List an) (tg:List UInt8) (A:Int):=w8 m s.Row.L s.Row.At s.Row.av.Code s.Row.av.At [] [] [] [] 0 ev gd tg [] A
abbrev qM (m:Nat) (r:aB) (ev:List UInt8) (gd:List an) (tg:List UInt8) (A:Int):=yP m r.l r.ah r.bad.Code r.bad.At [] [] [] [] 0 ev gd tg [] A
abbrev nF (m:Nat) (s:aE) (ev:List UInt8) (gd:List an) (A:Int):=w7 m s.Row.L s.Row.At s.Row.av.Code s.Row.av.At [] [] [] [] 0 ev gd [] [] A
abbrev n4 (m:Nat) (r:aB) (ev:List UInt8) (gd:List an) (A:Int):=yO m r.l r.ah r.bad.Code r.bad.At [] [] [] [] 0 ev gd [] [] A
abbrev sD (m:Nat) (s:aE) (ev:List UInt8) (A:Int):=w6 m s.Row.L s.Row.At s.Row.av.Code s.Row.av.At [] [] [] [] 0 ev [] [] [] A
abbrev s_ (m:Nat) (r:aB) (ev:List UInt8) (A:Int):=wo m r.l r.ah r.bad.Code r.bad.At [] [] [] [] 0 ev [] [] [] A
theorem K7 {s:aE} {r:aB} (h:Bd s r) (ev ev':List UInt8) (gd uU:List an) (tg Kw:List UInt8) (A A':Int):OE QT l i (fun _ m=>qo m s ev gd tg A) (fun _ m=>qM m r ev' uU Kw A'):=OE.e9 (by
 have hf: ∀ m,qo (m+1) s ev gd tg A=some (aW.mk ev gd tg [] A,s):=fun m=>by
  unfold qo; rw [w8.eq_2]
  show (gG s ew).bind _=_
  rw [C4 h.1,aa,cond_false]
  dsimp only
  rw [jM h.1,aa]
 have hg: ∀ m,qM (m+1) r ev' uU Kw A'=some (aW.mk ev' uU Kw [] A',r):=fun m=>by
  unfold qM; rw [yP.eq_2]
  show (b_ r bD).bind _=_
  rw [mO h.r,aa,cond_false]
  dsimp only
  rw [Z5 h.r,aa]
 simp only [hf,hg]
 exact OE.no h)
theorem Gg {s:aE} {r:aB} (h:Bd s r) (ev ev':List UInt8) (gd uU:List an) (A A':Int):OE QT l i (fun _ m=>nF m s ev gd A) (fun _ m=>n4 m r ev' uU A'):=OE.e9 (by
 have hf: ∀ m,nF (m+1) s ev gd A=qo m s ev gd [] A:=fun m=>by
  unfold nF; rw [w7.eq_2]
  show (dY s eN).bind _=_
  rw [oR h.1,aa,cond_false]
 have hg: ∀ m,n4 (m+1) r ev' uU A'=qM m r ev' uU [] A':=fun m=>by
  unfold n4; rw [yO.eq_2]
  show (b_ r eN).bind _=_
  rw [mO h.r,aa,cond_false]
 simp only [hf,hg]
 exact K7 h ..)
theorem Tq {s:aE} {r:aB} (h:Bd s r) (ev ev':List UInt8) (A A':Int):OE QT l i (fun _ m=>sD m s ev A) (fun _ m=>s_ m r ev' A'):=OE.e9 (by
 have hf: ∀ m,sD (m+1) s ev A=nF m s ev [] A:=fun m=>by
  unfold sD; rw [w6.eq_2]
  show (dY s gV).bind _=_
  rw [oR h.1,aa,cond_false]
 have hg: ∀ m,s_ (m+1) r ev' A'=n4 m r ev' [] A':=fun m=>by
  unfold s_; rw [wo.eq_2]
  show (b_ r gV).bind _=_
  rw [mO h.r,aa,cond_false]
 simp only [hf,hg]
 exact Gg h ..)
theorem K8 (H:Ok l) (hi:i<l.length) (ev:List UInt8) (gd:List an) (tg:List UInt8) (A:Int) (hgd:gZ gd):OE QT l i (fun _ m=>qo m (ct l i) ev gd tg A) (fun _ m=>qM m (rt l i) ev gd tg A):=OE.e9 (by
 have hf: ∀ m,qo (m+1) (ct l i) ev gd tg A=bif au (ag l i) ew then (mC (ct l i)).bind fun r=>some (aW.mk ev gd tg r.1 A,r.2) else (cL (ct l i) bD).bind fun r=>some (aW.mk ev gd tg [] A,r):=fun m=>by
  unfold qo; rw [w8.eq_2]
  show (gG (ct l i) ew).bind _=_
  rw [uO hi,aa]
 have hg: ∀ m,qM (m+1) (rt l i) ev gd tg A=bif au (ag l i) bD then some (aW.mk ev gd tg [] A,rt l (i+1)) else (jW (rt l i)).bind fun r=>some (aW.mk ev gd tg r.1 A,r.2):=fun m=>by
  unfold qM; rw [yP.eq_2]
  show (b_ (rt l i) bD).bind _=_
  rw [gF hi,aa]
  dsimp only
  rw [nZ hi H.len]
 simp only [hf,hg]
 cases hlb:au (ag l i) ew with
 | true=>
  rw [qE hlb (by decide),cond_true,cond_false]
  exact OE.bind (GK H hi) (fun v j h1 h2 h3=>OE.ok h1 h2 ⟨hgd,h3⟩) fun v s v' r hb=>OE.no hb
 | false=>
  rw [cond_false]
  cases hs:au (ag l i) bD with
  | true=>rw [cond_true,G6 hi H.len hs,aa]; exact OE.ok (by omega) (dh H hi hs) ⟨hgd,FL.nil⟩
  | false=>rw [cond_false,Mt hi H.len hs,aa,Z6 H hi hlb,aa]; exact OE.no (Bd.mk l i))
theorem K6 (H:Ok l) (hi:i<l.length) (ev:List UInt8) (gd:List an) (A:Int) (hgd:gZ gd):OE QT l i (fun _ m=>nF m (ct l i) ev gd A) (fun _ m=>n4 m (rt l i) ev gd A):=OE.e9 (by
 have hf: ∀ m,nF (m+1) (ct l i) ev gd A=bif au (ag l i) eN then (fD (ct l (i+1))).bind fun r=>qo m r.2 ev gd r.1 A else qo m (ct l i) ev gd [] A:=fun m=>by
  unfold nF; rw [w7.eq_2]
  show (dY (ct l i) eN).bind _=_
  rw [mD hi H.len,aa]
  cases au (ag l i) eN <;> rfl
 have hg: ∀ m,n4 (m+1) (rt l i) ev gd A=bif au (ag l i) eN then (fJ (rt l (i+1))).bind fun r=>qM m r.2 ev gd r.1 A else qM m (rt l i) ev gd [] A:=fun m=>by
  unfold n4; rw [yO.eq_2]
  show (b_ (rt l i) eN).bind _=_
  rw [gF hi,aa]
  dsimp only
  rw [nZ hi H.len]
 simp only [hf,hg]
 cases h:au (ag l i) eN with
 | true=>
  have hm:=dh H hi h
  exact OE.mono (xI H hm (fun h1 h2=>(K8 H h1 ev gd _ A hgd).mono (by omega)) fun v s v' r hb=>K7 hb ..) (Nat.le_succ i)
 | false=>exact K8 H hi ev gd [] A hgd)
theorem K5 (H:Ok l) (hi:i<l.length) (ev:List UInt8) (A:Int):OE QT l i (fun _ m=>sD m (ct l i) ev A) (fun _ m=>s_ m (rt l i) ev A):=OE.e9 (by
 have hf: ∀ m,sD (m+1) (ct l i) ev A=bif au (ag l i) gV then (nM l ((i+1:Nat):Int)).bind fun r6=>(nI (ct l (i+1)) r6.2.1 r6.2.2).bind fun r7=>(cL r7 fY).bind fun r8=>nF m r8 ev [r6.1] A else nF m (ct l i) ev [] A:=fun m=>by
  unfold sD; rw [w6.eq_2]
  show (dY (ct l i) gV).bind _=_
  rw [mD hi H.len,aa]
  simp only [eta]
  cases au (ag l i) gV <;> rfl
 have hg: ∀ m,s_ (m+1) (rt l i) ev A=bif au (ag l i) gV then (yE (rt l i)).bind fun r=>n4 m r.2 ev r.1 A else n4 m (rt l i) ev [] A:=fun m=>by
  unfold s_; rw [wo.eq_2]
  show (b_ (rt l i) gV).bind _=_
  rw [gF hi,aa]
 simp only [hf,hg]
 cases h:au (ag l i) gV with
 | false=>exact K6 H hi ev [] A gZ.nil
 | true=>
  have hm:=dh H hi h
  have hgd:yE (rt l i)=(jT l ((i+1:Nat):Int)).bind fun r3=>(dO (aB.mk l ((i+1:Nat):Int) r3.2.2)).bind fun r4=>bif r4.1 then (cu (aB.mk r4.2.l r3.2.1 r4.2.bad) fY).bind fun r5=>some ([r3.1],r5) else (cu r4.2 fY).bind fun r6=>some ([r3.1],r6):=by
   unfold yE
   rw [Jl hi H.len h,aa,lO,aa,Bool.not_true,cond_false]
   simp only [eta]
   rfl
  rw [hgd]
  rcases O9 H hm with ⟨e,j,h1,h2,h3,h4,h5⟩ | ⟨f,h1,h2,h3⟩
  · refine OE.from 0 (f':=fun _ m=>(cL (ct l j) fY).bind fun r=>nF m r ev [e] A) (g':=fun _ m=>(cu (rt l j) fY).bind fun r=>n4 m r ev [e] A) (fun _ _ m _=> ?_) (fun _ _ m _=> ?_) ?_
    · rw [cond_true,h4,aa]
      dsimp only
      rw [Mh,aa]
    · rw [cond_true,h5,aa]
      show ((cu (rt l j) fY).bind fun r5=>some ([e],r5)).bind _=_
      rw [Option.bind_assoc]
      rfl
    · exact OE.mono (mc H h2 fY (fun g1 g2=>(K6 H g1 ev [e] A (gZ.one h3)).mono (by omega)) fun s r hb=>Gg hb ..) (show i≤j by omega)
  · obtain ⟨s,h5,h6⟩:=Mg (l:=l) (i:=i+1) 0 h1
    have hb:Bd s (aB.mk l ((i+1:Nat):Int) f):=⟨by rw [h5]; exact h1,h5.symm⟩
    refine OE.from 0 (f':=fun _ m=>nF m s ev [an.mk 0 0 [] [] 0] A) (g':=fun _ m=>n4 m (aB.mk l ((i+1:Nat):Int) f) ev [an.mk 0 0 [] [] 0] A) (fun _ _ m _=> ?_) (fun _ _ m _=> ?_) (Gg hb ..)
    · rw [cond_true,h2,aa]
      dsimp only
      rw [h6,aa,jM hb.1,aa]
    · rw [cond_true,h3,aa]
      dsimp only
      rw [pq hb.r,aa,cond_false]
      dsimp only
      rw [ke hb.r,aa,aa])
theorem aeS (H:Ok l) (hi:i<l.length) (h:au (ag l i) fX=true∨au (ag l i) iZ=true):OE QT l (i+1) (fun _ _=>uM (ct l i)) (fun _ _=>yL (rt l i)):=by
 refine OE.bw (F:=fun _ m x=>Ad m x) (G:=fun _ m x=>B9 m x) ?_
 have et:l.getD ((i:Nat):Int).toNat ai.z=ag l i:=by rw [Int.toNat_natCast]; rfl
 have hf: ∀ m,Ad m (ct l i)=bif au (ag l i) fX then (fD (ct l (i+1))).bind fun r=>sD m r.2 r.1 (ag l i).At else (cL (ct l i) iZ).bind fun r=>sD m r [] (ag l i).At:=fun m=>by
  unfold Ad
  rw [oQ hi,aa]
  dsimp only
  rw [mD hi H.len,aa]
  cases au (ag l i) fX <;> rfl
 have hg: ∀ m,B9 m (rt l i)=bif au (ag l i) iZ then s_ m (rt l (i+1)) [] (ag l i).At else (cu (rt l i) fX).bind fun r=>(fJ r).bind fun r=>s_ m r.2 r.1 (ag l i).At:=fun m=>by
  unfold B9
  have e1:0≤(rt l i).ah:=by show 0≤((i:Nat):Int); omega
  have e2:(rt l i).ah<((rt l i).l.length:Int):=by show ((i:Nat):Int)<(l.length:Int); omega
  have e3:(rt l i).l.getD (rt l i).ah.toNat ai.z=ag l i:=et
  rw [if_pos e1,if_pos e2,gF hi,aa,e3]
  cases au (ag l i) iZ with
  | true=>
   show wo m l (aj (((i:Nat):Int)+1)) 0 0 [] [] [] [] 0 [] [] [] [] (ag l i).At=_
   rw [cO hi H.len]; rfl
  | false=>rfl
 simp only [hf,hg]
 rcases h with h | h
 · simp only [h,qE h (show fX≠iZ by decide),cond_true,cond_false,Jl hi H.len h,aa]
   exact xI H (dh H hi h) (fun h1 h2=>(K5 H h1 _ _).mono (by omega)) fun v s v' r hb=>Tq hb ..
 · simp only [h,qE h (show iZ≠fX by decide),cond_true,cond_false,G6 hi H.len h,aa]
   exact K5 H (dh H hi h) _ _
end
end
end Go.Sy.Ex
namespace Go.Sy.Ex
open Go.Sy
noncomputable section
section
variable {α:Type} {Q:α→Prop} {l:List ai} {i:Nat}
theorem OE.shift {f g} (a b:Nat) (h:OE Q l i (fun k m=>f k (m+a)) (fun k m=>g k (m+b))):OE Q l i f g:=by
 have e: ∀ {γ:Type} (F:Nat→Nat→γ) (c k m:Nat),c≤m→F k m=F k ((m - c)+c):=fun F c k m h=>by rw [Nat.sub_add_cancel h]
 rcases h with ⟨v,j,Z,h1,h2,h3,h4⟩ | ⟨v,s,v',r,Z,h1,h4⟩
 · refine .inl ⟨v,j,Z+a+b,h1,h2,h3,fun k hk m hm=> ?_⟩
   rw [e f a k m (by omega),e g b k m (by omega)]
   exact ⟨(h4 k (by omega) _ (by omega)).1,(h4 k (by omega) _ (by omega)).2⟩
 · refine .inr ⟨v,s,v',r,Z+a+b,h1,fun k hk m hm=> ?_⟩
   rw [e f a k m (by omega),e g b k m (by omega)]
   exact ⟨(h4 k (by omega) _ (by omega)).1,(h4 k (by omega) _ (by omega)).2⟩
theorem OE.diag {f g} {f' g':Nat→Nat→_} (hf: ∀ k m,f' (k+1) m=f k k) (hg: ∀ k m,g' (k+1) m=g k k) (h:OE Q l i f g):OE Q l i f' g':=by
 rcases h with ⟨v,j,Z,h1,h2,h3,h4⟩ | ⟨v,s,v',r,Z,h1,h4⟩
 · refine .inl ⟨v,j,Z+1,h1,h2,h3,fun k hk m hm=> ?_⟩
   obtain ⟨k,rfl⟩: ∃ q,k=q+1:=⟨k - 1,by omega⟩
   rw [hf,hg]
   exact h4 k (by omega) k (by omega)
 · refine .inr ⟨v,s,v',r,Z+1,h1,fun k hk m hm=> ?_⟩
   obtain ⟨k,rfl⟩: ∃ q,k=q+1:=⟨k - 1,by omega⟩
   rw [hf,hg]
   exact h4 k (by omega) k (by omega)
end
def Sq:Nat→List aG→Prop
 | 0,_=>False
 | n+1,l=>l.length≤100000∧ ∀ s ∈ l,(FL s.Entry∧FL s.Exit)∧(s.Trans.length≤100000∧ ∀ t ∈ s.Trans,QT t)∧Sq n s.Kids
theorem Sq.up: ∀ {n m:Nat} {l:List aG},Sq n l→n≤m→Sq m l
 | 0,_,_,h,_=>h.elim
 | n+1,0,_,_,h=>by omega
 | n+1,m+1,l,⟨h1,h2⟩,h=>⟨h1,fun s hs=>⟨(h2 s hs).1,(h2 s hs).2.1,Sq.up (h2 s hs).2.2 (by omega)⟩⟩
def QL (l:List aG):Prop:= ∃ n,Sq n l
def QS (s:aG):Prop:=(FL s.Entry∧FL s.Exit)∧(s.Trans.length≤100000∧ ∀ t ∈ s.Trans,QT t)∧QL s.Kids
theorem QL.nil:QL []:=⟨1,Nat.zero_le _,fun s hs=>by cases hs⟩
theorem QL.push {l:List aG} {s:aG} (h:QL l) (hs:QS s) (hl:l.length+1≤100000):QL (l++ [s]):=by
 obtain ⟨n,hn⟩:=h
 obtain ⟨h1,h2,m,hm⟩:=hs
 cases n with
 | zero=>exact hn.elim
 | succ n=>
  refine ⟨n+m+1,by simp; omega,fun x hx=> ?_⟩
  rcases List.mem_append.1 hx with hx | hx
  · exact ⟨(hn.2 x hx).1,(hn.2 x hx).2.1,(hn.2 x hx).2.2.up (by omega)⟩
  · rw [List.mem_singleton] at hx; subst hx
    exact ⟨h1,h2,hm.up (by omega)⟩
def sw (x:aE×(Int×List UInt8×List ak×List ak×List aW×List aG×Int)):aG×aE:=(aG.mk x.2.1 x.2.2.1 x.2.2.2.1 x.2.2.2.2.1 x.2.2.2.2.2.1 x.2.2.2.2.2.2.1 x.2.2.2.2.2.2.2,x.1)
section
variable {l:List ai} {i:Nat}
abbrev oN (self:jK) (m:Nat) (s:aE) (K:Int) (N:List UInt8) (En Ex:List ak) (Tr:List aW) (A d:Int):=(qq self m s.Row.L s.Row.At s.Row.av.Code s.Row.av.At K N En Ex Tr [] A d).map sw
abbrev n3 (self:iY) (m:Nat) (r:aB) (K:Int) (N:List UInt8) (En Ex:List ak) (Tr:List aW) (A d:Int):=wm self m r.l r.ah r.bad.Code r.bad.At d 0 [] [] [] [] [] 0 K N En Ex Tr [] A
theorem L0 {s:aE} (h:s.Row.av.Code≠0):iS s=some (0,s):=by
 unfold iS
 simp only [C4 h,aa,cond_false]
theorem Mq {s:aE} (h:s.Row.av.Code≠0) (k:Nat) (d:Int):eS (k+2) s d=some ([],s):=by
 show w4 (eS (k+1)) (k+1) s d=_
 unfold w4
 rw [L0 h,aa,nJ.eq_2]
 rfl
theorem Rb {r:aB} (h:r.bad.Code≠0) (k:Nat) (d:Int):eu (k+2) r d=some ([],r):=by
 show EY (eu (k+1)) (k+1) r d=_
 unfold EY
 rw [pO.eq_2]
 show (b_ r iw).bind _=_
 simp only [mO h,aa,cond_false]
theorem F6 {s:aE} {r:aB} (h:Bd s r) {d:Int} (K K':Int) (N N':List UInt8) (En CI Ex KZ:List ak) (Tr K_:List aW) (A A':Int):
 OE QS l i (fun k m=>oN (eS k) m s K N En Ex Tr A d) (fun k m=>n3 (eu k) m r K' N' CI KZ K_ A' d):=by
 refine OE.from 2 (f':=fun _ _=>some (aG.mk K N En Ex Tr [] A,s)) (g':=fun _ _=>some (aG.mk K' N' CI KZ K_ [] A',r)) (fun k hk m hm=> ?_) (fun k hk m hm=> ?_) (OE.no h)
 · obtain ⟨k,rfl⟩: ∃ q,k=q+2:=⟨k - 2,by omega⟩
   obtain ⟨m,rfl⟩: ∃ q,m=q+1:=⟨m - 1,by omega⟩
   unfold oN; rw [qq.eq_2]
   show Option.map sw ((gG s fX).bind _)=_
   simp only [C4 h.1,aa,cond_false,Mq h.1,jM h.1]
   rfl
 · obtain ⟨k,rfl⟩: ∃ q,k=q+2:=⟨k - 2,by omega⟩
   obtain ⟨m,rfl⟩: ∃ q,m=q+1:=⟨m - 1,by omega⟩
   unfold n3; rw [wm.eq_2]
   show (b_ r fX).bind _=_
   simp only [mO h.r,aa,cond_false,Rb h.r,ke h.r]
def SI (l:List ai) (i0:Nat) (d:Int):Prop:= ∀ j,i0≤j→j<l.length→OE QL l j (fun k _=>eS k (ct l j) d) (fun k _=>eu k (rt l j) d)
theorem F7 (H:Ok l) {i0:Nat} {d:Int} (hd:aj (d+1)=d+1) (hs:SI l i0 (d+1)) (K:Int) (N:List UInt8) (En Ex:List ak) (Ay:FL En) (Nr:FL Ex) (A:Int): ∀ q i (Tr:List aW),l.length≤i+q→i0≤i→i<l.length→Tr.length≤i→(∀ t ∈ Tr,QT t)→
 OE QS l i (fun k m=>oN (eS k) m (ct l i) K N En Ex Tr A d) (fun k m=>n3 (eu k) m (rt l i) K N En Ex Tr A d)
 | 0,i,_,hq,_,hi,_,_=>by omega
 | q+1,i,Tr,hq,h0,hi,hTr,hT=>by
  have hl:=H.len
  by_cases AO:au (ag l i) fX=true∨au (ag l i) iZ=true
  · have hf: ∀ k m,oN (eS k) (m+2) (ct l i) K N En Ex Tr A d=(uM (ct l i)).bind fun r=>if (Tr.length+ [r.1].length)*88≤140737488355328 then oN (eS k) m r.2 K N En Ex (Tr++ [r.1]) A d else none:=fun k m=>by
     have hc: ∀ K N En Ex Ki A,wX (eS k) (m+1) l (i:Int) 0 0 K N En Ex Tr Ki A d=(uM (ct l i)).bind fun aJ=>if (Tr.length+ [aJ.1].length)*88≤140737488355328 then qq (eS k) m aJ.2.Row.L aJ.2.Row.At aJ.2.Row.av.Code aJ.2.Row.av.At K N En Ex (Tr++ [aJ.1]) Ki A d else none:=fun _ _ _ _ _ _=>by
      rw [wX.eq_2]; rfl
     unfold oN; rw [qq.eq_2]
     show Option.map sw ((gG (ct l i) fX).bind _)=_
     rw [uO hi,aa]
     have hm:Option.map sw (wX (eS k) (m+1) l (i:Int) 0 0 K N En Ex Tr [] A d)=(uM (ct l i)).bind fun r=>if (Tr.length+ [r.1].length)*88≤140737488355328 then Option.map sw (qq (eS k) m r.2.Row.L r.2.Row.At r.2.Row.av.Code r.2.Row.av.At K N En Ex (Tr++ [r.1]) [] A d) else none:=by
      rw [hc,Option.map_bind]
      congr 1; funext r
      show Option.map sw (if _ then _ else _)=_
      split <;> rfl
     cases h1:au (ag l i) fX with
     | true=>exact hm
     | false=>
      rw [cond_false]
      dsimp only
      rw [uO hi,aa,show au (ag l i) iZ=true from AO.resolve_left (by rw [h1]; simp)]
      exact hm
    have hg: ∀ k m,n3 (eu k) (m+2) (rt l i) K N En Ex Tr A d=(yL (rt l i)).bind fun r=>if (Tr.length+ [r.1].length)*88≤140737488355328 then n3 (eu k) m r.2 K N En Ex (Tr++ [r.1]) A d else none:=fun k m=>by
     have hc:B7 (eu k) (m+1) l (i:Int) 0 0 d 0 [] [] [] [] [] 0 K N En Ex Tr [] A=(yL (rt l i)).bind fun r=>if (Tr.length+ [r.1].length)*88≤140737488355328 then n3 (eu k) m r.2 K N En Ex (Tr++ [r.1]) A d else none:=by
      rw [B7.eq_2]; rfl
     unfold n3; rw [wm.eq_2]
     show (b_ (rt l i) fX).bind _=_
     rw [gF hi,aa]
     cases h1:au (ag l i) fX with
     | true=>exact hc
     | false=>
      rw [cond_false]
      dsimp only
      rw [gF hi,aa,show au (ag l i) iZ=true from AO.resolve_left (by rw [h1]; simp)]
      exact hc
    refine OE.shift 2 2 ?_
    simp only [hf,hg]
    refine OE.mono (i':=i+1) (OE.bind (aeS H hi AO) (fun v j h1 h2 h3=> ?_) fun v s v' r hb=> ?_) (Nat.le_succ i)
    · simp only [if_pos (show (Tr.length+ [v].length)*88≤140737488355328 by simp only [List.length_singleton]; omega)]
      refine OE.mono (F7 H hd hs K N En Ex Ay Nr A q j (Tr++ [v]) (by omega) (by omega) h2 (by simp; omega) fun t ht=> ?_) h1
      rcases List.mem_append.1 ht with ht | ht
      · exact hT t ht
      · rw [List.mem_singleton] at ht; subst ht; exact h3
    · simp only [if_pos (show (Tr.length+ [v].length)*88≤140737488355328 by simp only [List.length_singleton]; omega),if_pos (show (Tr.length+ [v'].length)*88≤140737488355328 by simp only [List.length_singleton]; omega)]
      exact F6 hb ..
  · have h1:au (ag l i) fX=false:=Bool.eq_false_iff.2 fun q=>AO (.inl q)
    have h2:au (ag l i) iZ=false:=Bool.eq_false_iff.2 fun q=>AO (.inr q)
    have hf: ∀ k m,oN (eS k) (m+1) (ct l i) K N En Ex Tr A d=(eS k (ct l i) (d+1)).bind fun r8=>(cL r8.2 fh).bind fun r9=>some (aG.mk K N En Ex Tr r8.1 A,r9):=fun k m=>by
     unfold oN; rw [qq.eq_2]
     show Option.map sw ((gG (ct l i) fX).bind _)=_
     rw [uO hi,aa,h1,cond_false]
     dsimp only
     rw [uO hi,aa,h2,cond_false,hd,Option.map_bind]
     congr 1; funext r8
     show Option.map sw ((cL r8.2 fh).bind _)=_
     rw [Option.map_bind]; rfl
    have hg: ∀ k m,n3 (eu k) (m+1) (rt l i) K N En Ex Tr A d=(eu k (rt l i) (d+1)).bind fun r8=>(cu r8.2 fh).bind fun r9=>some (aG.mk K N En Ex Tr r8.1 A,r9):=fun k m=>by
     unfold n3; rw [wm.eq_2]
     show (b_ (rt l i) fX).bind _=_
     rw [gF hi,aa,h1,cond_false]
     dsimp only
     rw [gF hi,aa,h2,cond_false,hd]
    refine OE.e9 ?_
    simp only [hf,hg]
    refine OE.bind (hs i h0 hi) (fun v j g1 g2 g3=> ?_) fun v s v' r hb=> ?_
    · exact OE.mono (mc H g2 fh (fun g4 g5=>OE.ok (Nat.le_succ j) g4 ⟨⟨Ay,Nr⟩,⟨by show Tr.length≤100000; omega,hT⟩,g3⟩) fun s r hb=>OE.no hb) g1
    · simp only [jM hb.1,ke hb.r,aa]
      exact OE.no hb
abbrev cX (self:jK) (m:Nat) (s:aE) (K:Int) (N:List UInt8) (En:List ak) (A d:Int):=(Ac self m s.Row.L s.Row.At s.Row.av.Code s.Row.av.At K N En [] [] [] A d).map sw
abbrev rX (self:iY) (m:Nat) (r:aB) (K:Int) (N:List UInt8) (En:List ak) (A d:Int):=B6 self m r.l r.ah r.bad.Code r.bad.At d 0 [] [] [] [] [] 0 K N En [] [] [] A
theorem LM (self:jK) (m:Nat) (s:aE) (K:Int) (N:List UInt8) (En:List ak) (A d:Int):cX self (m+2) s K N En A d=(dY s pT).bind fun r4=>bif r4.1 then (mC r4.2).bind fun r5=>oN self m r5.2 K N En r5.1 [] A d else oN self m r4.2 K N En [] [] A d:=by
 unfold cX; rw [Ac.eq_2]
 show Option.map sw ((dY s pT).bind _)=_
 rw [Option.map_bind]
 congr 1; funext r4
 show Option.map sw (bif r4.1 then _ else _)=_
 cases r4.1 with
 | true=>rw [cond_true,cond_true,Option.map_bind]; rfl
 | false=>rfl
theorem Px (self:iY) (m:Nat) (r:aB) (K:Int) (N:List UInt8) (En:List ak) (A d:Int):rX self (m+2) r K N En A d=(b_ r pT).bind fun r4=>bif r4.1 then (jW (aB.mk r4.2.l (aj (r4.2.ah+1)) r4.2.bad)).bind fun r5=>n3 self m r5.2 K N En r5.1 [] A d else n3 self m r4.2 K N En [] [] A d:=by
 unfold rX; rw [B6.eq_2]; rfl
theorem Gi {s:aE} {r:aB} (h:Bd s r) (d K K':Int) (N N':List UInt8) (En CI:List ak) (A A':Int):OE QS l i (fun k m=>cX (eS k) m s K N En A d) (fun k m=>rX (eu k) m r K' N' CI A' d):=by
 refine OE.shift 2 2 ?_
 simp only [LM,Px,oR h.1,mO h.r,aa,cond_false]
 exact F6 h ..
theorem Lc (H:Ok l) {i0:Nat} {d:Int} (hd:aj (d+1)=d+1) (hs:SI l i0 (d+1)) (h0:i0≤i) (hi:i<l.length) (K:Int) (N:List UInt8) (En:List ak) (Ay:FL En) (A:Int):OE QS l i (fun k m=>cX (eS k) m (ct l i) K N En A d) (fun k m=>rX (eu k) m (rt l i) K N En A d):=by
 refine OE.shift 2 2 ?_
 simp only [LM,Px,mD hi H.len,gF hi,aa]
 cases h:au (ag l i) pT with
 | true=>
  have hm:=dh H hi h
  simp only [cond_true,nZ hi H.len]
  refine OE.mono (OE.bind (GK H hm) (fun v j h1 h2 h3=> ?_) fun v s v' r hb=> ?_) (Nat.le_succ i)
  · exact OE.mono (F7 H hd hs K N En v Ay h3 A l.length j [] (by omega) (by omega) h2 (Nat.zero_le _) (fun t ht=>by cases ht)) h1
  · exact F6 hb ..
 | false=>
  simp only [cond_false]
  exact F7 H hd hs K N En [] Ay FL.nil A l.length i [] (by omega) h0 hi (Nat.zero_le _) (fun t ht=>by cases ht)
abbrev cE (self:jK) (m:Nat) (s:aE) (K:Int) (N:List UInt8) (A d:Int):=(wY self m s (K,N,[],[],[],[],A) d).map sw
abbrev rE (self:iY) (m:Nat) (r:aB) (K:Int) (N:List UInt8) (A d:Int):=(cu r ew).bind fun r3=>(b_ r3 pR).bind fun r4=>bif r4.1 then (jW (aB.mk r4.2.l (aj (r4.2.ah+1)) r4.2.bad)).bind fun r5=>rX self m r5.2 K N r5.1 A d else rX self m r4.2 K N [] A d
theorem LL (self:jK) (m:Nat) (s:aE) (K:Int) (N:List UInt8) (A d:Int):cE self m s K N A d=(cL s ew).bind fun r1=>(dY r1 pR).bind fun r4=>bif r4.1 then (mC r4.2).bind fun r5=>cX self m r5.2 K N r5.1 A d else cX self m r4.2 K N [] A d:=by
 unfold cE wY
 rw [Option.map_bind]
 congr 1; funext r1
 show Option.map sw ((dY r1 pR).bind _)=_
 rw [Option.map_bind]
 congr 1; funext r4
 show Option.map sw (bif r4.1 then _ else _)=_
 cases r4.1 with
 | true=>rw [cond_true,cond_true,Option.map_bind]; rfl
 | false=>rfl
theorem S9 {s:aE} {r:aB} (h:Bd s r) (d K K':Int) (N N':List UInt8) (A A':Int):OE QS l i (fun k m=>cE (eS k) m s K N A d) (fun k m=>rE (eu k) m r K' N' A' d):=by
 simp only [LL,rE,jM h.1,oR h.1,ke h.r,mO h.r,aa,cond_false]
 exact Gi h ..
theorem S_ (H:Ok l) {i0:Nat} {d:Int} (hd:aj (d+1)=d+1) (hs:SI l i0 (d+1)) (h0:i0≤i) (hi:i<l.length) (K:Int) (N:List UInt8) (A:Int):OE QS l i (fun k m=>cE (eS k) m (ct l i) K N A d) (fun k m=>rE (eu k) m (rt l i) K N A d):=by
 simp only [LL]
 refine mc H hi ew (fun hi1 _=> ?_) fun s r hb=> ?_
 · simp only [mD hi1 H.len,gF hi1,aa]
   cases h:au (ag l (i+1)) pR with
   | true=>
    have hm:=dh H hi1 h
    simp only [cond_true,nZ hi1 H.len]
    refine OE.mono (OE.bind (GK H hm) (fun v j h1 h2 h3=> ?_) fun v s v' r hb=> ?_) (show i≤i+1+1 by omega)
    · exact OE.mono (Lc H hd hs (by omega) h2 K N v h3 A) h1
    · exact Gi hb ..
   | false=>exact OE.mono (Lc H hd hs (by omega) hi1 K N [] FL.nil A) (Nat.le_succ i)
 · simp only [oR hb.1,mO hb.r,aa,cond_false]
   exact Gi hb ..
theorem OE.OG {A B:Type} {Q:aG→Prop} {F:Nat→Nat→A→Option (aE×(Int×List UInt8×List ak×List ak×List aW×List aG×Int))} {G:Nat→Nat→B→Option (aG×aB)} {x:A} {y:B} (h:OE Q l i (fun k m=>(F k m x).map sw) (fun k m=>G k m y)):OE Q l i (fun k _=>(Sy.bw (F k) x).map sw) (fun k _=>Sy.bw (G k) y):=by
 have inv: ∀ {o:Option (aE×(Int×List UInt8×List ak×List ak×List aW×List aG×Int))} {v:aG} {s:aE},o.map sw=some (v,s)→o=some (s,(v.Kind,v.Name,v.Entry,v.Exit,v.Trans,v.Kids,v.At)):=fun {o v s} h=>by
  cases o with
  | none=>cases h
  | some z=>cases h; rfl
 rcases h with ⟨v,j,Z,h1,h2,h3,h4⟩ | ⟨v,s,v',r,Z,h1,h4⟩
 · refine .inl ⟨v,j,Z,h1,h2,h3,fun k hk m hm=>⟨?_,br Z fun m hm=>(h4 k hk m hm).2⟩⟩
   show Option.map sw (Sy.bw (F k) x)=_
   rw [br Z fun m hm=>inv (h4 k hk m hm).1]; cases v; rfl
 · refine .inr ⟨v,s,v',r,Z,h1,fun k hk m hm=>⟨?_,br Z fun m hm=>(h4 k hk m hm).2⟩⟩
   show Option.map sw (Sy.bw (F k) x)=_
   rw [br Z fun m hm=>inv (h4 k hk m hm).1]; cases v; rfl
theorem aea (H:Ok l) {d:Int} (hd:aj (d+1)=d+1) (hs:SI l (i+1) (d+1)) (hi:i<l.length) (hi1:i+1<l.length) (K:Int) (hK:(K=2∧au (ag l i) ir=true)∨(K=1∧au (ag l i) ir=false)):
 OE QS l (i+1) (fun k _=>(fD (ct l (i+1))).bind fun r4=>(uJ (eS k) r4.2 (K,r4.1,[],[],[],[],(ag l i).At) d).map sw) (fun k _=>yH (eu k) (rt l i) d):=by
 have et:l.getD ((i:Nat):Int).toNat ai.z=ag l i:=by rw [Int.toNat_natCast]; rfl
 have hg: ∀ k m,yI (eu k) (m+1) (rt l i) d=(fJ (rt l (i+1))).bind fun r2=>rE (eu k) m r2.2 K r2.1 (ag l i).At d:=fun k m=>by
  unfold yI
  have e1:0≤(rt l i).ah:=by show 0≤((i:Nat):Int); omega
  have e2:(rt l i).ah<((rt l i).l.length:Int):=by show ((i:Nat):Int)<(l.length:Int); omega
  have e3:(rt l i).l.getD (rt l i).ah.toNat ai.z=ag l i:=et
  rw [if_pos e1,if_pos e2,gF hi,aa,e3]
  have c0: ∀ K:Int,B5 (eu k) (m+1) l (i:Int) 0 0 d 0 [] [] [] [] [] 0 K [] [] [] [] [] (ag l i).At=(fJ (rt l (i+1))).bind fun r2=>rE (eu k) m r2.2 K r2.1 (ag l i).At d:=fun K=>by
   rw [B5.eq_2,cO hi H.len]; rfl
  rcases hK with ⟨rfl,h⟩ | ⟨rfl,h⟩
  · rw [h,cond_true]; exact c0 2
  · rw [h,cond_false]; exact c0 1
 rcases hn:gp (ag l (i+1)) with _ | _
 · simp only [Mi hi1 hn,aa]
   refine OE.OG (F:=fun k m (x:aE×(Int×List UInt8×List ak×List ak×List aW×List aG×Int)×Int)=>wY (eS k) m x.1 x.2.1 x.2.2) (G:=fun k m (x:aB×Int)=>yI (eu k) m x.1 x.2) (x:=(cb l (i+1),(K,[],[],[],[],[],(ag l i).At),d)) (y:=(rt l i,d)) (OE.shift 0 1 ?_)
   simp only [hg,Pu hi1 hn,aa]
   exact S9 (Bd.mk l (i+1)) ..
 · simp only [Mj hi1 H.len hn,aa]
   refine OE.OG (F:=fun k m (x:aE×(Int×List UInt8×List ak×List ak×List aW×List aG×Int)×Int)=>wY (eS k) m x.1 x.2.1 x.2.2) (G:=fun k m (x:aB×Int)=>yI (eu k) m x.1 x.2) (x:=(ct l (i+1+1),(K,(ag l (i+1)).Text,[],[],[],[],(ag l i).At),d)) (y:=(rt l i,d)) (OE.shift 0 1 ?_)
   simp only [hg,Pv hi1 H.len hn,aa]
   have hk:(ag l (i+1)).Kind=1:=by
    unfold gp at hn
    rw [Bool.and_eq_true,decide_eq_true_eq] at hn
    exact hn.1
   exact OE.mono (S_ H hd hs (by omega) (H.more (i+1) hi1 (by omega)) K _ _) (Nat.le_succ _)
end
end
end Go.Sy.Ex
namespace Go.Sy.Ex
open Go.Sy
noncomputable section
def bK (t:ai):Int:=bif au t iw then 1 else bif au t ir then 2 else bif au t gL then 3 else bif au t fK then 4 else 0
section
variable {l:List ai} {i:Nat}
theorem LF (hi:i<l.length):iS (ct l i)=some (bK (ag l i),ct l i):=by
 unfold iS bK
 simp only [uO hi,aa]
 cases au (ag l i) iw <;> cases au (ag l i) ir <;> cases au (ag l i) gL <;> cases au (ag l i) fK <;> rfl
theorem XE (H:Ok l) (hi:i<l.length) (hi1:i+1<l.length) (K:Int) (hK:(K=4∧au (ag l i) fK=true)∨(K=3∧au (ag l i) fK=false)):
 OE QS l (i+1) (fun _ _=>(fD (ct l (i+1))).bind fun r4=>(cL r4.2 bD).bind fun r9=>some (aG.mk K r4.1 [] [] [] [] (ag l i).At,r9)) (fun _ _=>tD (rt l i)):=by
 have et:l.getD ((i:Nat):Int).toNat ai.z=ag l i:=by rw [Int.toNat_natCast]; rfl
 have hg:tD (rt l i)=(fJ (rt l (i+1))).bind fun r2=>(cu r2.2 bD).bind fun r3=>some (aG.mk K r2.1 [] [] [] [] (ag l i).At,r3):=by
  unfold tD
  have e1:0≤(rt l i).ah:=by show 0≤((i:Nat):Int); omega
  have e2:(rt l i).ah<((rt l i).l.length:Int):=by show ((i:Nat):Int)<(l.length:Int); omega
  have e3:(rt l i).l.getD (rt l i).ah.toNat ai.z=ag l i:=et
  rw [if_pos e1,if_pos e2,gF hi,aa,e3]
  dsimp only
  rw [nZ hi H.len]
  rcases hK with ⟨rfl,h⟩ | ⟨rfl,h⟩
  · rw [h,cond_true]
  · rw [h,cond_false]
 rw [hg]
 refine xI H hi1 (fun h1 h2=> ?_) fun v s v' r hb=> ?_
 · exact OE.mono (mc H h1 bD (fun g1 g2=>OE.ok (Nat.le_succ _) g1 ⟨⟨FL.nil,FL.nil⟩,⟨Nat.zero_le _,fun t ht=>by cases ht⟩,QL.nil⟩) fun s r hb=>OE.no hb) (Nat.le_succ _)
 · simp only [jM hb.1,ke hb.r,aa]
   exact OE.no hb
abbrev cS (k m:Nat) (s:aE) (d:Int) (acc:List aG) (K:Int):=nJ (eS k) m s.Row.L s.Row.At s.Row.av.Code s.Row.av.At d acc K
abbrev rS (k m:Nat) (r:aB) (d:Int) (acc:List aG):=pO (eu k) m r.l r.ah r.bad.Code r.bad.At d acc
theorem Tp {s:aE} {r:aB} (h:Bd s r) (d:Int) (acc acc':List aG):OE QL l i (fun k m=>cS k m s d acc 0) (fun k m=>rS k m r d acc'):=OE.e9 (by
 have hf: ∀ k m,cS k (m+1) s d acc 0=some (acc,s):=fun k m=>by
  unfold cS; rw [nJ.eq_2]; rfl
 have hg: ∀ k m,rS k (m+1) r d acc'=some (acc',r):=fun k m=>by
  unfold rS; rw [pO.eq_2]
  show (b_ r iw).bind _=_
  simp only [mO h.r,aa,cond_false]
 simp only [hf,hg]
 exact OE.no h)
theorem Zj (H:Ok l) {d:Int} (hd:aj (d+1)=d+1) (h12: ¬ 12<d) (hs:SI l (i+1) (d+1)) (hi:i<l.length) (hi1:i+1<l.length) (hK:bK (ag l i)≠0) (acc:List aG) (hacc:acc.length≤i):
 ∃ f g,OE QS l (i+1) f g∧(∀ k m,cS k (m+1) (ct l i) d acc (bK (ag l i))=(f k m).bind fun p=>(iS p.2).bind fun b=>cS k m b.2 d (acc++ [p.1]) b.1)∧(∀ k m,rS k (m+3) (rt l i) d acc=(g k m).bind fun p=>rS k m p.2 d (acc++ [p.1])):=by
 have hlen:=H.len
 have hb: ∀ v:aG,(acc.length+ [v].length)*128≤140737488355328:=fun v=>by simp only [List.length_singleton]; omega
 have xC:aE.mk (aU.mk (ct l i).Row.L (aj ((ct l i).Row.At+1)) (ct l i).Row.av)=ct l (i+1):=by
  show (⟨⟨l,aj (((i:Nat):Int)+1),⟨0,0⟩⟩⟩:aE)=_
  rw [cO hi H.len]; rfl
 have hc: ∀ k m,cS k (m+1) (ct l i) d acc (bK (ag l i))=(fD (ct l (i+1))).bind fun r4=>
  if bK (ag l i)=1 then (uJ (eS k) r4.2 (bK (ag l i),r4.1,[],[],[],[],(ag l i).At) d).bind fun r5=>(iS r5.1).bind fun b=>cS k m b.2 d (acc++ [(sw r5).1]) b.1
  else if bK (ag l i)=2 then (uJ (eS k) r4.2 (bK (ag l i),r4.1,[],[],[],[],(ag l i).At) d).bind fun r5=>(iS r5.1).bind fun b=>cS k m b.2 d (acc++ [(sw r5).1]) b.1
  else (cL r4.2 bD).bind fun r9=>(iS r9).bind fun b=>cS k m b.2 d (acc++ [aG.mk (bK (ag l i)) r4.1 [] [] [] [] (ag l i).At]) b.1:=fun k m=>by
  unfold cS; rw [nJ.eq_2,if_pos hK]
  show (gr (ct l i)).bind _=_
  rw [oQ hi,aa,if_neg h12]
  dsimp only
  rw [xC]
  simp only [if_pos (hb _)]
  rfl
 have X1: ∀ k m,qY (eu k) (m+2) l (i:Int) 0 0 d acc=bif au (ag l i) gL||au (ag l i) fK then (tD (rt l i)).bind fun p=>rS k m p.2 d (acc++ [p.1]) else (yH (eu k) (rt l i) d).bind fun p=>rS k m p.2 d (acc++ [p.1]):=fun k m=>by
  rw [qY.eq_2,if_neg h12]
  show (b_ (rt l i) gL).bind _=_
  rw [gF hi,aa]
  cases h1:au (ag l i) gL with
  | true=>
   rw [cond_true,B8.eq_2,cond_true]
   simp only [if_pos (hb _)]
   rfl
  | false=>
   rw [cond_false]
   dsimp only
   rw [gF hi,aa,B8.eq_2]
   simp only [if_pos (hb _)]
   rfl
 have hr: ∀ k m,rS k (m+3) (rt l i) d acc=bif au (ag l i) gL||au (ag l i) fK then (tD (rt l i)).bind fun p=>rS k m p.2 d (acc++ [p.1]) else (yH (eu k) (rt l i) d).bind fun p=>rS k m p.2 d (acc++ [p.1]):=fun k m=>by
  unfold rS; rw [pO.eq_2]
  show (b_ (rt l i) iw).bind _=_
  simp only [gF hi,aa]
  have hk:=hK
  unfold bK at hk
  have h0:=X1 k m
  cases h1:au (ag l i) iw with
  | true=>rw [cond_true]; exact h0
  | false=>
   rw [h1] at hk
   rw [cond_false]
   cases h2:au (ag l i) ir with
   | true=>rw [cond_true]; exact h0
   | false=>
    rw [h2] at hk
    rw [cond_false]
    cases h3:au (ag l i) gL with
    | true=>rw [cond_true]; rw [h3] at h0; exact h0
    | false=>
     rw [h3] at hk
     rw [cond_false]
     cases h4:au (ag l i) fK with
     | true=>rw [cond_true]; rw [h3,h4] at h0; exact h0
     | false=>rw [h4] at hk; exact absurd rfl hk
 have LH: ∀ K:Int,K=1∨K=2→bK (ag l i)=K→((K=2∧au (ag l i) ir=true)∨(K=1∧au (ag l i) ir=false))→(au (ag l i) gL||au (ag l i) fK)=false→
  ∃ f g,OE QS l (i+1) f g∧(∀ k m,cS k (m+1) (ct l i) d acc (bK (ag l i))=(f k m).bind fun p=>(iS p.2).bind fun b=>cS k m b.2 d (acc++ [p.1]) b.1)∧(∀ k m,rS k (m+3) (rt l i) d acc=(g k m).bind fun p=>rS k m p.2 d (acc++ [p.1])):=fun K Ns HF hp hh=>by
  refine ⟨_,_,aea H hd hs hi hi1 K hp,fun k m=> ?_,fun k m=> ?_⟩
  · rw [hc,HF,Option.bind_assoc]
    congr 1; funext r4
    have e: ∀ x:Option (aE×(Int×List UInt8×List ak×List ak×List aW×List aG×Int)),(x.bind fun r5=>(iS r5.1).bind fun b=>cS k m b.2 d (acc++ [(sw r5).1]) b.1)=(x.map sw).bind fun p=>(iS p.2).bind fun b=>cS k m b.2 d (acc++ [p.1]) b.1:=fun x=>by cases x <;> rfl
    rcases Ns with rfl | rfl
    · rw [if_pos rfl]; exact e _
    · rw [if_neg (by decide),if_pos rfl]; exact e _
  · rw [hr,hh,cond_false]
 have small: ∀ K:Int,K=3∨K=4→bK (ag l i)=K→((K=4∧au (ag l i) fK=true)∨(K=3∧au (ag l i) fK=false))→(au (ag l i) gL||au (ag l i) fK)=true→
  ∃ f g,OE QS l (i+1) f g∧(∀ k m,cS k (m+1) (ct l i) d acc (bK (ag l i))=(f k m).bind fun p=>(iS p.2).bind fun b=>cS k m b.2 d (acc++ [p.1]) b.1)∧(∀ k m,rS k (m+3) (rt l i) d acc=(g k m).bind fun p=>rS k m p.2 d (acc++ [p.1])):=fun K Ns HF hp hh=>by
  refine ⟨_,_,XE H hi hi1 K hp,fun k m=> ?_,fun k m=> ?_⟩
  · rw [hc,HF,Option.bind_assoc]
    congr 1; funext r4
    rw [if_neg (by omega),if_neg (by omega),Option.bind_assoc]
    rfl
  · rw [hr,hh,cond_true]
 have hk:=hK
 unfold bK at hk
 cases h1:au (ag l i) iw with
 | true=>exact LH 1 (.inl rfl) (by unfold bK; rw [h1]; rfl) (.inr ⟨rfl,qE h1 (by decide)⟩) (by rw [qE h1 (show iw≠gL by decide),qE h1 (show iw≠fK by decide)]; rfl)
 | false=>
  cases h2:au (ag l i) ir with
  | true=>exact LH 2 (.inr rfl) (by unfold bK; rw [h1,h2]; rfl) (.inl ⟨rfl,h2⟩) (by rw [qE h2 (show ir≠gL by decide),qE h2 (show ir≠fK by decide)]; rfl)
  | false=>
   cases h3:au (ag l i) gL with
   | true=>exact small 3 (.inl rfl) (by unfold bK; rw [h1,h2,h3]; rfl) (.inr ⟨rfl,qE h3 (by decide)⟩) (by rw [h3]; rfl)
   | false=>
    cases h4:au (ag l i) fK with
    | true=>exact small 4 (.inr rfl) (by unfold bK; rw [h1,h2,h3,h4]; rfl) (.inl ⟨rfl,h4⟩) (by rw [h3,h4]; rfl)
    | false=>rw [h1,h2,h3,h4] at hk; exact absurd rfl hk
theorem Uz (H:Ok l) (hi:i<l.length) (h:bK (ag l i)≠0):i+1<l.length:=by
 unfold bK at h
 cases h1:au (ag l i) iw with
 | true=>exact dh H hi h1
 | false=>
  cases h2:au (ag l i) ir with
  | true=>exact dh H hi h2
  | false=>
   cases h3:au (ag l i) gL with
   | true=>exact dh H hi h3
   | false=>
    cases h4:au (ag l i) fK with
    | true=>exact dh H hi h4
    | false=>rw [h1,h2,h3,h4] at h; exact absurd rfl h
theorem UA (hi:i<l.length) (h:bK (ag l i)=0) (k m:Nat) (d:Int) (acc:List aG):rS k (m+1) (rt l i) d acc=some (acc,rt l i):=by
 unfold bK at h
 unfold rS; rw [pO.eq_2]
 show (b_ (rt l i) iw).bind _=_
 simp only [gF hi,aa]
 cases h1:au (ag l i) iw with
 | true=>rw [h1] at h; cases h
 | false=>
  cases h2:au (ag l i) ir with
  | true=>rw [h1,h2] at h; cases h
  | false=>
   cases h3:au (ag l i) gL with
   | true=>rw [h1,h2,h3] at h; cases h
   | false=>
    cases h4:au (ag l i) fK with
    | true=>rw [h1,h2,h3,h4] at h; cases h
    | false=>rfl
theorem Q5 (H:Ok l) {i0:Nat} {d:Int} (hd:aj (d+1)=d+1) (hs: ¬ 12<d→SI l (i0+1) (d+1)): ∀ q i (acc:List aG),l.length≤i+q→i0≤i→i<l.length→acc.length≤i→QL acc→OE QL l i (fun k m=>cS k m (ct l i) d acc (bK (ag l i))) (fun k m=>rS k m (rt l i) d acc)
 | 0,i,_,hq,_,hi,_,_=>by omega
 | q+1,i,acc,hq,h0,hi,hacc,hQ=>by
  have hlen:=H.len
  by_cases hK:bK (ag l i)=0
  · refine OE.e9 ?_
    have hf: ∀ k m,cS k (m+1) (ct l i) d acc (bK (ag l i))=some (acc,ct l i):=fun k m=>by
     unfold cS; rw [nJ.eq_2,hK]; rfl
    simp only [hf,UA hi hK]
    exact OE.ok (Nat.le_refl i) hi hQ
  have hi1:=Uz H hi hK
  by_cases h12:12<d
  · have hb:Bd (aE.mk (aU.mk l (i:Int) ⟨14,(ag l i).At⟩)) (aB.mk l (i:Int) ⟨14,(ag l i).At⟩):=⟨by show (14:Int)≠0; decide,rfl⟩
    have et:l.getD ((i:Nat):Int).toNat ai.z=ag l i:=by rw [Int.toNat_natCast]; rfl
    refine OE.from 2 (f':=fun _ _=>some ([],aE.mk (aU.mk l (i:Int) ⟨14,(ag l i).At⟩))) (g':=fun _ _=>some ([],aB.mk l (i:Int) ⟨14,(ag l i).At⟩)) (fun k hk m hm=> ?_) (fun k hk m hm=> ?_) (OE.no hb)
    · obtain ⟨m,rfl⟩: ∃ j,m=j+2:=⟨m - 2,by omega⟩
      unfold cS; rw [nJ.eq_2,if_pos hK]
      show (gr (ct l i)).bind _=_
      rw [oQ hi,aa,if_pos h12]
      dsimp only
      unfold kg
      rw [uP,aa,cond_true,aa]; rfl
    · obtain ⟨m,rfl⟩: ∃ j,m=j+2:=⟨m - 2,by omega⟩
      unfold rS; rw [pO.eq_2]
      show (b_ (rt l i) iw).bind _=_
      simp only [gF hi,aa]
      have hc:qY (eu k) (m+1) l (i:Int) 0 0 d acc=some ([],aB.mk l (i:Int) ⟨14,(ag l i).At⟩):=by
       rw [qY.eq_2,if_pos h12,if_pos (by omega),if_pos (by omega),et]
      have hk:=hK
      unfold bK at hk
      cases h1:au (ag l i) iw with
      | true=>exact hc
      | false=>
       cases h2:au (ag l i) ir with
       | true=>exact hc
       | false=>
        cases h3:au (ag l i) gL with
        | true=>exact hc
        | false=>
         cases h4:au (ag l i) fK with
         | true=>exact hc
         | false=>rw [h1,h2,h3,h4] at hk; exact absurd rfl hk
  · obtain ⟨f,g,h1,h2,h3⟩:=Zj H hd h12 (fun j hj hj2=>hs h12 j (by omega) hj2) hi hi1 hK acc hacc
    refine OE.shift 1 3 ?_
    simp only [h2,h3]
    refine OE.mono (OE.bind h1 (fun v j g1 g2 g3=> ?_) fun v s v' r hb=> ?_) (Nat.le_succ i)
    · simp only [LF g2,aa]
      exact OE.mono (Q5 H hd hs q j (acc++ [v]) (by omega) (by omega) g2 (by simp; omega) (hQ.push g3 (by omega))) g1
    · simp only [L0 hb.1,aa]
      exact Tp hb ..
theorem Rw (H:Ok l): ∀ q i (d:Int),l.length≤i+q→0≤d→d≤13→SI l i d
 | 0,i,d,hq,_,_=>fun j h1 h2=>by omega
 | q+1,i,d,hq,h0,Np=>fun j h1 h2=>by
  have hd:aj (d+1)=d+1:=cv (by omega) (by omega)
  refine OE.diag (fun k m=> ?_) (fun k m=> ?_) (Q5 H hd (i0:=j) (fun h12=>Rw H q (j+1) (d+1) (by omega) (by omega) (by omega)) l.length j [] (by omega) (Nat.le_refl j) h2 (Nat.zero_le _) QL.nil)
  · show w4 (eS k) k (ct l j) d=_
    unfold w4
    rw [LF h2,aa]
  · rfl
end
end
end Go.Sy.Ex
namespace Go.Sy.Ex
open Go.Sy
noncomputable section
def QN (l:List aX):Prop:=l.length≤100000
def QC (c:aZ):Prop:=QN c.Vars∧QN c.wM∧QN c.wP∧QL c.oH
section
variable {l:List ai} {i:Nat}
theorem OE.Y5 {α A B:Type} {Q:α→Prop} {F:Nat→A→Option (α×aE)} {G:Nat→B→Option (α×aB)} {x:A} {y:B} (h:OE Q l i (fun k _=>F k x) (fun k _=>G k y)):OE Q l i (fun _ _=>Sy.bw F x) (fun _ _=>Sy.bw G y):=by
 rcases h with ⟨v,j,Z,h1,h2,h3,h4⟩ | ⟨v,s,v',r,Z,h1,h4⟩
 · exact .inl ⟨v,j,Z,h1,h2,h3,fun k hk m hm=>⟨br Z fun k hk=>(h4 k hk m hm).1,br Z fun k hk=>(h4 k hk m hm).2⟩⟩
 · exact .inr ⟨v,s,v',r,Z,h1,fun k hk m hm=>⟨br Z fun k hk=>(h4 k hk m hm).1,br Z fun k hk=>(h4 k hk m hm).2⟩⟩
theorem aeb (H:Ok l) (hi:i<l.length):OE QL l i (fun _ _=>wZ (ct l i) 1) (fun _ _=>yJ (rt l i) 1):=
 OE.Y5 (F:=fun k (x:aE×Int)=>eS k x.1 x.2) (G:=fun k (x:aB×Int)=>eu k x.1 x.2) (x:=(ct l i,1)) (y:=(rt l i,1)) (Rw H l.length i 1 (by omega) (by decide) (by decide) i (Nat.le_refl i) hi)
theorem Kj {s:aE} (h:s.Row.av.Code≠0):wZ s 1=some ([],s):=br 2 fun k hk=>by
 obtain ⟨k,rfl⟩: ∃ j,k=j+2:=⟨k - 2,by omega⟩
 exact Mq h k 1
theorem JW {r:aB} (h:r.bad.Code≠0):yJ r 1=some ([],r):=br 2 fun k hk=>by
 obtain ⟨k,rfl⟩: ∃ j,k=j+2:=⟨k - 2,by omega⟩
 exact Rb h k 1
abbrev cN (m:Nat) (s:aE) (w:List UInt8) (acc:List aX):=uL m s.Row.L s.Row.At s.Row.av.Code s.Row.av.At w acc
abbrev rN (m:Nat) (r:aB) (w:List UInt8) (acc:List aX):=kU m r.l r.ah r.bad.Code r.bad.At w acc
theorem GN {s:aE} (h:s.Row.av.Code≠0) (m:Nat) (w:List UInt8) (acc:List aX):cN (m+1) s w acc=some (acc,s):=by
 unfold cN; rw [uL.eq_2]
 show (dY s w).bind _=_
 rw [oR h,aa,cond_false]
theorem Ea {r:aB} (h:r.bad.Code≠0) (m:Nat) (w:List UInt8) (acc:List aX):rN (m+1) r w acc=some (acc,r):=by
 unfold rN; rw [kU.eq_2]
 show (b_ r w).bind _=_
 rw [mO h,aa,cond_false]
theorem Q3 {s:aE} (h:s.Row.av.Code≠0) (w:List UInt8):sH s w=some ([],s):=br 1 fun k hk=>by
 obtain ⟨k,rfl⟩: ∃ j,k=j+1:=⟨k - 1,by omega⟩
 exact GN h k w []
theorem OQ {r:aB} (h:r.bad.Code≠0) (w:List UInt8):pN r w=some ([],r):=br 1 fun k hk=>by
 obtain ⟨k,rfl⟩: ∃ j,k=j+1:=⟨k - 1,by omega⟩
 exact Ea h k w []
theorem OR (hi:i<l.length):uK (ct l i)=(fD (ct l i)).bind fun r=>some (aX.mk r.1 0 (ag l i).At,r.2):=by
 unfold uK
 rw [oQ hi,aa]
theorem OV (H:Ok l) (w:List UInt8) (hw:w≠jx): ∀ q i (acc:List aX),l.length≤i+q→i<l.length→acc.length≤i→OE QN l i (fun _ m=>cN m (ct l i) w acc) (fun _ m=>rN m (rt l i) w acc)
 | 0,i,_,hq,hi,_=>by omega
 | q+1,i,acc,hq,hi,hacc=>by
  have hlen:=H.len
  have hb: ∀ v:aX,(acc.length+ [v].length)*32≤140737488355328:=fun v=>by simp only [List.length_singleton]; omega
  have et: ∀ j:Nat,l.getD ((j:Nat):Int).toNat ai.z=ag l j:=fun j=>by rw [Int.toNat_natCast]; rfl
  refine OE.e9 ?_
  cases h:au (ag l i) w with
  | false=>
   have hf: ∀ m,cN (m+1) (ct l i) w acc=some (acc,ct l i):=fun m=>by
    unfold cN; rw [uL.eq_2]
    show (dY (ct l i) w).bind _=_
    rw [mD hi H.len,aa,h]; rfl
   have hg: ∀ m,rN (m+1) (rt l i) w acc=some (acc,rt l i):=fun m=>by
    unfold rN; rw [kU.eq_2]
    show (b_ (rt l i) w).bind _=_
    rw [gF hi,aa,h]; rfl
   simp only [hf,hg]
   exact OE.ok (Nat.le_refl i) hi (by show acc.length≤100000; omega)
  | true=>
   have hi1:=dh H hi h
   have hf: ∀ m,cN (m+1) (ct l i) w acc=(fD (ct l (i+1))).bind fun r=>(cL r.2 bD).bind fun r3=>cN m r3 w (acc++ [aX.mk r.1 0 (ag l (i+1)).At]):=fun m=>by
    unfold cN; rw [uL.eq_2]
    show (dY (ct l i) w).bind _=_
    rw [mD hi H.len,aa,h,cond_true]
    dsimp only [cond_true]
    rw [OR hi1,Option.bind_assoc]
    congr 1; funext r
    rw [aa,if_pos (hb _)]
   have hg: ∀ m,rN (m+1) (rt l i) w acc=(fJ (rt l (i+1))).bind fun r=>(cu r.2 bD).bind fun r3=>rN m r3 w (acc++ [aX.mk r.1 0 (ag l (i+1)).At]):=fun m=>by
    unfold rN; rw [kU.eq_2]
    show (b_ (rt l i) w).bind _=_
    rw [gF hi,aa,h,cond_true]
    have e1:aj ((rt l i).ah+1)=((i+1:Nat):Int):=cO hi H.len
    have e2:(rt l i).l=l:=rfl
    dsimp only
    rw [nZ hi H.len,e1,e2,et,if_pos (by omega),if_pos (by omega)]
    congr 1; funext r
    rw [if_neg hw]
    congr 1; funext r3
    rw [if_pos (hb _)]
   simp only [hf,hg]
   refine OE.mono (xI H hi1 (fun h1 h2=>OE.mono (mc H h1 bD (fun g1 g2=>OE.mono (OV H w hw q _ _ (by omega) g1 (by simp; omega)) (Nat.le_succ _)) fun s r hb=> ?_) (Nat.le_succ _)) fun v s v' r hb=> ?_) (Nat.le_succ i)
   · refine OE.e9 ?_
     simp only [GN hb.1,Ea hb.r]
     exact OE.no hb
   · simp only [jM hb.1,ke hb.r,aa]
     refine OE.e9 ?_
     simp only [GN hb.1,Ea hb.r]
     exact OE.no hb
theorem OX (H:Ok l) (w:List UInt8) (hw:w≠jx) (hi:i<l.length):OE QN l i (fun _ _=>sH (ct l i) w) (fun _ _=>pN (rt l i) w):=
 OE.bw (F:=fun _ m (x:aE×List UInt8)=>G0 m x.1 x.2) (G:=fun _ m (x:aB×List UInt8)=>JQ m x.1 x.2) (x:=(ct l i,w)) (y:=(rt l i,w)) (OV H w hw l.length i [] (by omega) hi (Nat.zero_le _))
abbrev cR (s:aE) (N:List UInt8) (St Fu:Int) (V:List aX) (A:Int):=(sH s rD).bind fun r16=>(sH r16.2 rH).bind fun gE=>(wZ gE.2 1).bind fun dF=>(cL dF.2 fh).bind fun mN=>some (aZ.mk N St Fu V r16.1 gE.1 dF.1 A,mN)
abbrev rR (r:aB) (N:List UInt8) (St Fu:Int) (V:List aX) (A:Int):=(pN r rD).bind fun r9=>(pN r9.2 rH).bind fun aJ=>(yJ aJ.2 1).bind fun bu=>(cu bu.2 fh).bind fun bg=>some (aZ.mk N St Fu V r9.1 aJ.1 bu.1 A,bg)
theorem Th {s:aE} {r:aB} (h:Bd s r) (N N':List UInt8) (St Gc Fu F5:Int) (V V':List aX) (A A':Int):OE QC l i (fun _ _=>cR s N St Fu V A) (fun _ _=>rR r N' Gc F5 V' A'):=by
 simp only [cR,rR,Q3 h.1,OQ h.r,Kj h.1,JW h.r,jM h.1,ke h.r,aa]
 exact OE.no h
theorem Ti (H:Ok l) (hi:i<l.length) (N:List UInt8) (St Fu:Int) (V:List aX) (hV:QN V) (A:Int):OE QC l i (fun _ _=>cR (ct l i) N St Fu V A) (fun _ _=>rR (rt l i) N St Fu V A):=by
 refine OE.bind (OX H rD (by decide) hi) (fun v j h1 h2 h3=> ?_) fun v s v' r hb=> ?_
 · refine OE.mono (OE.bind (OX H rH (by decide) h2) (fun v' j' g1 g2 g3=> ?_) fun v s v' r hb=> ?_) h1
   · refine OE.mono (OE.bind (aeb H g2) (fun v'' j'' k1 k2 k3=> ?_) fun v s v' r hb=> ?_) g1
     · exact OE.mono (mc H k2 fh (fun q1 q2=>OE.ok (Nat.le_succ _) q1 ⟨hV,h3,g3,k3⟩) fun s r hb=>OE.no hb) k1
     · simp only [jM hb.1,ke hb.r,aa]
       exact OE.no hb
   · simp only [Kj hb.1,JW hb.r,jM hb.1,ke hb.r,aa]
     exact OE.no hb
 · simp only [Q3 hb.1,OQ hb.r,Kj hb.1,JW hb.r,jM hb.1,ke hb.r,aa]
   exact OE.no hb
abbrev cV (m:Nat) (s:aE) (N:List UInt8) (St Fu:Int) (V:List aX) (A:Int):=sG m s.Row.L s.Row.At s.Row.av.Code s.Row.av.At [] 0 0 [] [] [] [] 0 N St Fu V [] [] [] A
abbrev rV (m:Nat) (r:aB) (N:List UInt8) (St Fu:Int) (V:List aX) (A:Int):=(rN m r jx V).bind fun p=>rR p.2 N St Fu p.1 A
theorem uu {s:aE} {r:aB} (h:Bd s r) (N N':List UInt8) (St Gc Fu F5:Int) (V V':List aX) (A A':Int):OE QC l i (fun _ m=>cV m s N St Fu V A) (fun _ m=>rV m r N' Gc F5 V' A'):=OE.e9 (by
 have hf: ∀ m,cV (m+1) s N St Fu V A=cR s N St Fu V A:=fun m=>by
  unfold cV; rw [sG.eq_2]
  show (dY s jx).bind _=_
  rw [oR h.1,aa,cond_false]
 simp only [hf,rV,Ea h.r,aa]
 exact Th h ..)
theorem Gh (H:Ok l) (N:List UInt8) (St Fu A:Int): ∀ q i (V:List aX),l.length≤i+q→i<l.length→V.length≤i→OE QC l i (fun _ m=>cV m (ct l i) N St Fu V A) (fun _ m=>rV m (rt l i) N St Fu V A)
 | 0,i,_,hq,hi,_=>by omega
 | q+1,i,V,hq,hi,hV=>by
  have hlen:=H.len
  have hb: ∀ v:aX,(V.length+ [v].length)*32≤140737488355328:=fun v=>by simp only [List.length_singleton]; omega
  have et: ∀ j:Nat,l.getD ((j:Nat):Int).toNat ai.z=ag l j:=fun j=>by rw [Int.toNat_natCast]; rfl
  refine OE.e9 ?_
  cases h:au (ag l i) jx with
  | false=>
   have hf: ∀ m,cV (m+1) (ct l i) N St Fu V A=cR (ct l i) N St Fu V A:=fun m=>by
    unfold cV; rw [sG.eq_2]
    show (dY (ct l i) jx).bind _=_
    rw [mD hi H.len,aa,h]; rfl
   have hg: ∀ m,rV (m+1) (rt l i) N St Fu V A=rR (rt l i) N St Fu V A:=fun m=>by
    have :rN (m+1) (rt l i) jx V=some (V,rt l i):=by
     unfold rN; rw [kU.eq_2]
     show (b_ (rt l i) jx).bind _=_
     rw [gF hi,aa,h]; rfl
    unfold rV; rw [this,aa]
   simp only [hf,hg]
   exact Ti H hi N St Fu V (by show V.length≤100000; omega) A
  | true=>
   have hi1:=dh H hi h
   have hf: ∀ m,cV (m+1) (ct l i) N St Fu V A=(fD (ct l (i+1))).bind fun r=>(cL r.2 pS).bind fun bu=>(dY bu gW).bind fun bg=>(ki bg.2).bind fun bp=>(cL bp.2 bD).bind fun bC=>cV m bC N St Fu (V++ [aX.mk r.1 (bif bg.1 then aj (0 - bp.1) else bp.1) (ag l (i+1)).At]) A:=fun m=>by
    unfold cV; rw [sG.eq_2]
    show (dY (ct l i) jx).bind _=_
    rw [mD hi H.len,aa,h,cond_true]
    dsimp only [cond_true]
    rw [OR hi1,Option.bind_assoc]
    congr 1; funext r
    rw [aa]
    congr 1; funext bu
    congr 1; funext bg
    congr 1; funext bp
    cases bg.1 with
    | true=>rw [cond_true]; congr 1; funext bC; rw [if_pos (hb _)]; rfl
    | false=>rw [cond_false]; congr 1; funext bC; rw [if_pos (hb _)]; rfl
   have hg: ∀ m,rV (m+1) (rt l i) N St Fu V A=(fJ (rt l (i+1))).bind fun r=>(cu r.2 pS).bind fun r3=>(b_ r3 gW).bind fun r4=>(kV (bif r4.1 then aB.mk r4.2.l (aj (r4.2.ah+1)) r4.2.bad else r4.2)).bind fun r5=>(cu r5.2 bD).bind fun r6=>rV m r6 N St Fu (V++ [aX.mk r.1 (bif r4.1 then aj (0 - r5.1) else r5.1) (ag l (i+1)).At]) A:=fun m=>by
    unfold rV rN; rw [kU.eq_2]
    show ((b_ (rt l i) jx).bind _).bind _=_
    rw [gF hi,aa,h,cond_true]
    have e1:aj ((rt l i).ah+1)=((i+1:Nat):Int):=cO hi H.len
    have e2:(rt l i).l=l:=rfl
    dsimp only
    rw [nZ hi H.len,e1,e2,et,if_pos (by omega),if_pos (by omega),Option.bind_assoc]
    congr 1; funext r
    rw [if_pos rfl,Option.bind_assoc]
    congr 1; funext r3
    rw [Option.bind_assoc]
    congr 1; funext r4
    cases r4.1 with
    | true=>
     simp only [cond_true]
     rw [Option.bind_assoc]
     congr 1; funext r5
     rw [Option.bind_assoc]
     congr 1; funext r6
     rw [if_pos (hb _)]
    | false=>
     simp only [cond_false]
     rw [Option.bind_assoc]
     congr 1; funext r5
     rw [Option.bind_assoc]
     congr 1; funext r6
     rw [if_pos (hb _)]
   simp only [hf,hg]
   refine OE.mono (xI H hi1 (fun h1 h2=>OE.mono (mc H h1 pS (fun g1 g2=> ?_) fun s r hb=> ?_) (Nat.le_succ _)) fun v s v' r hb=> ?_) (Nat.le_succ i)
   · simp only [mD g1 H.len,gF g1,aa]
     cases hm:au (ag l (i+1+1+1)) gW with
     | true=>
      have g3:=dh H g1 hm
      simp only [cond_true,nZ g1 H.len]
      refine OE.mono (DV H g3 (fun k1 k2=>OE.mono (mc H k1 bD (fun q1 q2=>OE.mono (Gh H N St Fu A q _ _ (by omega) q1 (by simp; omega)) (Nat.le_succ _)) fun s r hb=>uu hb ..) (Nat.le_succ _)) fun v s v' r hb=> ?_) (show i+1+1≤i+1+1+1+1 by omega)
      simp only [jM hb.1,ke hb.r,aa]
      exact uu hb ..
     | false=>
      simp only [cond_false]
      refine OE.mono (DV H g1 (fun k1 k2=>OE.mono (mc H k1 bD (fun q1 q2=>OE.mono (Gh H N St Fu A q _ _ (by omega) q1 (by simp; omega)) (Nat.le_succ _)) fun s r hb=>uu hb ..) (Nat.le_succ _)) fun v s v' r hb=> ?_) (show i+1+1≤i+1+1+1 by omega)
      simp only [jM hb.1,ke hb.r,aa]
      exact uu hb ..
   · simp only [oR hb.1,mO hb.r,aa,cond_false,G3 hb.1,Jk hb.r,jM hb.1,ke hb.r]
     exact uu hb ..
   · simp only [jM hb.1,ke hb.r,oR hb.1,mO hb.r,aa,cond_false,G3 hb.1,Jk hb.r]
     exact uu hb ..
end
end
end Go.Sy.Ex
namespace Go.Sy.Ex
open Go.Sy
noncomputable section
theorem bs {α β:Type} {x:Option α} {f:α→Option β} {r:β} (h:x.bind f=some r): ∃ a,x=some a∧f a=some r:=Option.bind_eq_some_iff.1 h
theorem Eb: ∀ (m:Nat) (r:aB) (w:List UInt8) (V:List aX) (p:List aX×aB),rN m r w V=some p→rN (m+1) r w V=some p
 | 0,_,_,_,_,h=>by cases h
 | m+1,r,w,V,p,h=>by
  unfold rN at h ⊢
  rw [kU.eq_2] at h ⊢
  obtain ⟨r1,h1,h⟩:=bs h
  rw [h1,aa]
  cases hb:r1.1 with
  | false=>rw [hb] at h; exact h
  | true=>
   rw [hb,cond_true] at h
   rw [cond_true]
   split at h
   case isFalse=>cases h
   rename_i c1
   rw [if_pos c1]
   split at h
   case isFalse=>cases h
   rename_i c2
   rw [if_pos c2]
   obtain ⟨r2,h2,h⟩:=bs h
   rw [h2,aa]
   split at h
   · rename_i c3
     rw [if_pos c3]
     obtain ⟨r3,h3,h⟩:=bs h
     rw [h3,aa]
     obtain ⟨r4,h4,h⟩:=bs h
     rw [h4,aa]
     cases Nw:r4.1 with
     | true=>
      rw [Nw,cond_true] at h
      rw [cond_true]
      obtain ⟨r5,h5,h⟩:=bs h
      rw [h5,aa]
      rw [cond_true] at h ⊢
      obtain ⟨r6,h6,h⟩:=bs h
      rw [h6,aa]
      split at h
      case isFalse=>cases h
      rename_i c4
      rw [if_pos c4]
      exact Eb m _ _ _ _ h
     | false=>
      rw [Nw,cond_false] at h
      rw [cond_false]
      obtain ⟨r5,h5,h⟩:=bs h
      rw [h5,aa]
      rw [cond_false] at h ⊢
      obtain ⟨r6,h6,h⟩:=bs h
      rw [h6,aa]
      split at h
      case isFalse=>cases h
      rename_i c4
      rw [if_pos c4]
      exact Eb m _ _ _ _ h
   · rename_i c3
     rw [if_neg c3]
     obtain ⟨r6,h6,h⟩:=bs h
     rw [h6,aa]
     split at h
     case isFalse=>cases h
     rename_i c4
     rw [if_pos c4]
     exact Eb m _ _ _ _ h
theorem aaa {m:Nat} {r:aB} {w:List UInt8} {p:List aX×aB} (h:rN m r w []=some p):pN r w=some p:=by
 have up: ∀ k,rN (m+k) r w []=some p:=fun k=>by
  induction k with
  | zero=>exact h
  | succ k ih=>exact Eb _ _ _ _ _ ih
 exact br m fun k hk=>by
  obtain ⟨q,rfl⟩: ∃ q,k=m+q:=⟨k - m,by omega⟩
  exact up q
section
variable {l:List ai} {i:Nat}
abbrev rA (m:Nat) (r:aB) (A:Int):=(cu r iq).bind fun r1=>(fJ r1).bind fun r2=>(cu r2.2 rG).bind fun r3=>(kV r3).bind fun r4=>(cu r4.2 rB).bind fun r5=>(kV r5).bind fun r6=>(cu r6.2 ew).bind fun r7=>rV m r7 r2.1 r4.1 r6.1 [] A
theorem S6 (H:Ok l) (hi:i<l.length):OE QC l i (fun _ m=>Ab m (ct l i)) (fun _ m=>rA m (rt l i) (ag l i).At):=by
 have hf: ∀ m,Ab m (ct l i)=(cL (ct l i) iq).bind fun r2=>(fD r2).bind fun r3=>(cL r3.2 rG).bind fun r4=>(ki r4).bind fun r5=>(cL r5.2 rB).bind fun r6=>(ki r6).bind fun r7=>(cL r7.2 ew).bind fun r8=>cV m r8 r3.1 r5.1 r7.1 [] (ag l i).At:=fun m=>by
  unfold Ab
  rw [oQ hi,aa]
 simp only [hf]
 refine mc H hi iq (fun h1 _=>OE.mono (xI H h1 (fun h2 _=>OE.mono (mc H h2 rG (fun h3 _=>OE.mono (DV H h3 (fun h4 _=>OE.mono (mc H h4 rB (fun h5 _=>OE.mono (DV H h5 (fun h6 _=>OE.mono (mc H h6 ew (fun h7 _=>OE.mono (Gh H _ _ _ _ l.length _ [] (by omega) h7 (Nat.zero_le _)) (Nat.le_succ _)) fun s r hb=> ?_) (Nat.le_succ _)) fun v s v' r hb=> ?_) (Nat.le_succ _)) fun s r hb=> ?_) (Nat.le_succ _)) fun v s v' r hb=> ?_) (Nat.le_succ _)) fun s r hb=> ?_) (Nat.le_succ _)) fun v s v' r hb=> ?_) (Nat.le_succ i)) fun s r hb=> ?_
 all_goals
  simp only [jM hb.1,VO hb.1,G3 hb.1,ke hb.r,Z7 hb.r,Jk hb.r,aa]
  exact uu hb ..
theorem VV (H:Ok l) (hi:i<l.length): ∃ c j f,uH l (i:Int)=some (c,j,f)∧wg l (i:Int)=some (c,j,f)∧QC c∧(f.Code=0→f=⟨0,0⟩∧ ∃ n:Nat,j=(n:Int)∧i≤n∧n<l.length):=by
 have et:l.getD ((i:Nat):Int).toNat ai.z=ag l i:=by rw [Int.toNat_natCast]; rfl
 have hc: ∀ x,C1 (ct l i)=some x→uH l (i:Int)=bif !decide (x.2.Row.av.Code=0) then some (aZ.mk [] 0 0 [] [] [] [] 0,0,x.2.Row.av) else some (x.1,x.2.Row.At,⟨0,0⟩):=fun x hx=>by
  unfold uH
  rw [show aE.mk (aU.mk l (i:Int) (az.mk 0 0))=ct l i from rfl,hx,aa]
  rfl
 have hr: ∀ m x,rA m (rt l i) (ag l i).At=some x→wg l (i:Int)=bif !decide (x.2.bad.Code=0) then some (aZ.mk [] 0 0 [] [] [] [] 0,0,x.2.bad) else some (x.1,x.2.ah,⟨0,0⟩):=fun m x hx=>by
  unfold wg
  rw [if_pos (by omega),if_pos (by omega),et]
  obtain ⟨r1,h1,hx⟩:=bs hx
  obtain ⟨r2,h2,hx⟩:=bs hx
  obtain ⟨r3,h3,hx⟩:=bs hx
  obtain ⟨r4,h4,hx⟩:=bs hx
  obtain ⟨r5,h5,hx⟩:=bs hx
  obtain ⟨r6,h6,hx⟩:=bs hx
  obtain ⟨r7,h7,hx⟩:=bs hx
  obtain ⟨r8,h8,hx⟩:=bs hx
  obtain ⟨r9,h9,hx⟩:=bs hx
  obtain ⟨aJ,h10,hx⟩:=bs hx
  obtain ⟨bu,h11,hx⟩:=bs hx
  obtain ⟨bg,h12,hx⟩:=bs hx
  cases hx
  rw [show aB.mk l (i:Int) (az.mk 0 0)=rt l i from rfl,h1,aa,h2,aa,h3,aa,h4,aa,h5,aa,h6,aa,h7,aa,aaa h8,aa,h9,aa,h10,aa,h11,aa,h12,aa]
  rfl
 rcases S6 H hi with ⟨v,j,Z,h1,h2,h3,h4⟩ | ⟨v,s,v',r,Z,h1,h4⟩
 · refine ⟨v,(j:Int),⟨0,0⟩, ?_, ?_,h3,fun _=>⟨rfl,j,rfl,h1,h2⟩⟩
   · rw [hc (v,ct l j) (br Z fun m hm=>(h4 Z (Nat.le_refl _) m hm).1)]; rfl
   · rw [hr Z (v,rt l j) (h4 Z (Nat.le_refl _) Z (Nat.le_refl _)).2]; rfl
 · refine ⟨aZ.mk [] 0 0 [] [] [] [] 0,0,s.Row.av, ?_, ?_,⟨Nat.zero_le _,Nat.zero_le _,Nat.zero_le _,QL.nil⟩,fun q=>absurd q h1.1⟩
   · rw [hc (v,s) (br Z fun m hm=>(h4 Z (Nat.le_refl _) m hm).1)]
     dsimp only
     rw [decide_eq_false h1.1]; rfl
   · rw [hr Z (v',r) (h4 Z (Nat.le_refl _) Z (Nat.le_refl _)).2]
     dsimp only
     rw [decide_eq_false h1.r, ← h1.2]; rfl
end
end
end Go.Sy.Ex
namespace Go.Sy.Ex
open Go.Sy
theorem Cr (t:aW):aW.mk t.Event t.Guard t.Target t.uh t.At=t:=rfl
theorem Ce (s:aG):aG.mk s.Kind s.Name s.Entry s.Exit s.Trans s.Kids s.At=s:=by cases s; rfl
theorem Wa (l:List aX) (hl:l.length≤100000) (f:aX×aX→Option Bool) (h: ∀ x ∈ l,f (x,x)=some true):Fx l l f=some true:=br (l.length+1) fun k hk=>by
 show Fy k l l f=_
 unfold Fy
 rw [if_neg (fun q=>q rfl)]
 have loop: ∀ m i,i+m=l.length→ ∀ k,m+1≤k→zc k l f l (l.length:Int) ((i:Nat):Int)=some true:=by
  intro m
  induction m with
  | zero=>
   intro i h' k hk
   obtain ⟨k,rfl⟩: ∃ j,k=j+1:=⟨k - 1,by omega⟩
   rw [zc.eq_2,if_neg (by omega)]
  | succ m ih=>
   intro i h' k hk
   obtain ⟨k,rfl⟩: ∃ j,k=j+1:=⟨k - 1,by omega⟩
   have hi:i<l.length:=by omega
   rw [zc.eq_2,if_pos (by omega),if_pos (by omega),if_pos (by omega),if_pos (by omega),if_pos (by omega),Int.toNat_natCast,cz _ hi]
   try simp only [eta,uD,Cr,Ce]
   rw [h _ (List.getElem_mem hi),aa,Bool.not_true,cond_false,fR (by omega)]
   exact ih (i+1) (by omega) k (by omega)
 exact loop l.length 0 (by omega) k hk
theorem Hl (l:List an) (hl:l.length≤100000) (f:an×an→Option Bool) (h: ∀ x ∈ l,f (x,x)=some true):tS l l f=some true:=br (l.length+1) fun k hk=>by
 show Fq k l l f=_
 unfold Fq
 rw [if_neg (fun q=>q rfl)]
 have loop: ∀ m i,i+m=l.length→ ∀ k,m+1≤k→za k l f l (l.length:Int) ((i:Nat):Int)=some true:=by
  intro m
  induction m with
  | zero=>
   intro i h' k hk
   obtain ⟨k,rfl⟩: ∃ j,k=j+1:=⟨k - 1,by omega⟩
   rw [za.eq_2,if_neg (by omega)]
  | succ m ih=>
   intro i h' k hk
   obtain ⟨k,rfl⟩: ∃ j,k=j+1:=⟨k - 1,by omega⟩
   have hi:i<l.length:=by omega
   rw [za.eq_2,if_pos (by omega),if_pos (by omega),if_pos (by omega),if_pos (by omega),if_pos (by omega),Int.toNat_natCast,cz _ hi]
   try simp only [eta,uD,Cr,Ce]
   rw [h _ (List.getElem_mem hi),aa,Bool.not_true,cond_false,fR (by omega)]
   exact ih (i+1) (by omega) k (by omega)
 exact loop l.length 0 (by omega) k hk
theorem V_ (l:List ak) (hl:l.length≤100000) (f:ak×ak→Option Bool) (h: ∀ x ∈ l,f (x,x)=some true):Fc l l f=some true:=br (l.length+1) fun k hk=>by
 show Ff k l l f=_
 unfold Ff
 rw [if_neg (fun q=>q rfl)]
 have loop: ∀ m i,i+m=l.length→ ∀ k,m+1≤k→y6 k l f l (l.length:Int) ((i:Nat):Int)=some true:=by
  intro m
  induction m with
  | zero=>
   intro i h' k hk
   obtain ⟨k,rfl⟩: ∃ j,k=j+1:=⟨k - 1,by omega⟩
   rw [y6.eq_2,if_neg (by omega)]
  | succ m ih=>
   intro i h' k hk
   obtain ⟨k,rfl⟩: ∃ j,k=j+1:=⟨k - 1,by omega⟩
   have hi:i<l.length:=by omega
   rw [y6.eq_2,if_pos (by omega),if_pos (by omega),if_pos (by omega),if_pos (by omega),if_pos (by omega),Int.toNat_natCast,cz _ hi]
   try simp only [eta,uD,Cr,Ce]
   rw [h _ (List.getElem_mem hi),aa,Bool.not_true,cond_false,fR (by omega)]
   exact ih (i+1) (by omega) k (by omega)
 exact loop l.length 0 (by omega) k hk
theorem Wc (l:List aW) (hl:l.length≤100000) (f:aW×aW→Option Bool) (h: ∀ x ∈ l,f (x,x)=some true):FB l l f=some true:=br (l.length+1) fun k hk=>by
 show FC k l l f=_
 unfold FC
 rw [if_neg (fun q=>q rfl)]
 have loop: ∀ m i,i+m=l.length→ ∀ k,m+1≤k→zf k l f l (l.length:Int) ((i:Nat):Int)=some true:=by
  intro m
  induction m with
  | zero=>
   intro i h' k hk
   obtain ⟨k,rfl⟩: ∃ j,k=j+1:=⟨k - 1,by omega⟩
   rw [zf.eq_2,if_neg (by omega)]
  | succ m ih=>
   intro i h' k hk
   obtain ⟨k,rfl⟩: ∃ j,k=j+1:=⟨k - 1,by omega⟩
   have hi:i<l.length:=by omega
   rw [zf.eq_2,if_pos (by omega),if_pos (by omega),if_pos (by omega),if_pos (by omega),if_pos (by omega),Int.toNat_natCast,cz _ hi]
   try simp only [eta,uD,Cr,Ce]
   rw [h _ (List.getElem_mem hi),aa,Bool.not_true,cond_false,fR (by omega)]
   exact ih (i+1) (by omega) k (by omega)
 exact loop l.length 0 (by omega) k hk
theorem Wb (l:List aG) (hl:l.length≤100000) (f:aG×aG→Option Bool) (h: ∀ x ∈ l,f (x,x)=some true):Fz l l f=some true:=br (l.length+1) fun k hk=>by
 show FA k l l f=_
 unfold FA
 rw [if_neg (fun q=>q rfl)]
 have loop: ∀ m i,i+m=l.length→ ∀ k,m+1≤k→zd k l f l (l.length:Int) ((i:Nat):Int)=some true:=by
  intro m
  induction m with
  | zero=>
   intro i h' k hk
   obtain ⟨k,rfl⟩: ∃ j,k=j+1:=⟨k - 1,by omega⟩
   rw [zd.eq_2,if_neg (by omega)]
  | succ m ih=>
   intro i h' k hk
   obtain ⟨k,rfl⟩: ∃ j,k=j+1:=⟨k - 1,by omega⟩
   have hi:i<l.length:=by omega
   rw [zd.eq_2,if_pos (by omega),if_pos (by omega),if_pos (by omega),if_pos (by omega),if_pos (by omega),Int.toNat_natCast,cz _ hi]
   try simp only [eta,uD,Cr,Ce]
   rw [h _ (List.getElem_mem hi),aa,Bool.not_true,cond_false,fR (by omega)]
   exact ih (i+1) (by omega) k (by omega)
 exact loop l.length 0 (by omega) k hk
theorem MQ: ∀ (n:Nat) (e:an),Fe n e→ ∀ k,n≤k→xg k e e=some true
 | 0,e,h,_,_=>h.elim
 | n+1,e,⟨h1,h4⟩,k,hk=>by
  obtain ⟨k,rfl⟩: ∃ j,k=j+1:=⟨k - 1,by omega⟩
  show Dc (xg k) k e e=_
  unfold Dc
  rw [if_pos rfl,if_pos rfl,if_pos rfl,Hl _ (by omega) _ (fun x hx=>MQ n x (h4 x hx) k (by omega)),aa]
theorem MP {e:an} (h:Fd e):sJ e e=some true:=by
 obtain ⟨n,hn⟩:=h
 exact br n fun k hk=>MQ n e hn k hk
theorem GC: ∀ (n:Nat) (l:List ak),Fl n l→ ∀ k,n≤k→uy k l l=some true
 | 0,l,h,_,_=>h.elim
 | n+1,l,⟨h1,h4⟩,k,hk=>by
  obtain ⟨k,rfl⟩: ∃ j,k=j+1:=⟨k - 1,by omega⟩
  show CO (uy k) k l l=_
  unfold CO
  rw [V_ _ (by omega) _ (fun x hx=>by
   obtain ⟨g1,g2,g3⟩:=h4 x hx
   show zQ (uy k) x x=_
   unfold zQ
   rw [if_pos rfl,if_pos rfl,if_pos rfl,if_pos rfl,Hl x.X (by have :=g1.1; omega) (fun y=>sJ y.1 y.2) (fun e he=>MP (g1.2 e he)),aa,cond_true,GC n _ g2 k (by omega),aa,cond_true,GC n _ g3 k (by omega),aa]),aa]
theorem GB {l:List ak} (h:FL l):ux l l=some true:=by
 obtain ⟨n,hn⟩:=h
 exact br n fun k hk=>GC n l hn k hk
theorem Jj {l:List ak} (h:FL l):tA l l=some true:=by
 obtain ⟨n,hn⟩:=h
 exact adq hn
theorem V4 {t:aW} (h:QT t):z_ t t=some true:=by
 unfold z_
 rw [if_pos rfl,if_pos rfl,Hl t.Guard (by have :=h.1.1; omega) (fun y=>sJ y.1 y.2) (fun e he=>MP (h.1.2 e he)),aa,cond_true,GB h.2,aa]
theorem Mp: ∀ (n:Nat) (l:List aG),Sq n l→ ∀ k,n≤k→uN k l l=some true
 | 0,l,h,_,_=>h.elim
 | n+1,l,⟨h1,h4⟩,k,hk=>by
  obtain ⟨k,rfl⟩: ∃ j,k=j+1:=⟨k - 1,by omega⟩
  show C3 (uN k) k l l=_
  unfold C3
  rw [Wb _ h1 _ (fun x hx=>by
   obtain ⟨⟨g1,g2⟩,⟨g3,g4⟩,g5⟩:=h4 x hx
   show Ae (uN k) x x=_
   unfold Ae
   rw [if_pos rfl,if_pos rfl,GB g1,aa,cond_true,GB g2,aa,cond_true,Wc _ g3 _ (fun t ht=>V4 (g4 t ht)),aa,cond_true,Mp n _ g5 k (by omega),aa]),aa]
theorem G2 {l:List aX} (h:QN l):uI l l=some true:=by
 unfold uI
 rw [Wa _ h _ (fun x hx=>by
  show Aa x x=_
  unfold Aa
  rw [if_pos rfl,decide_eq_true rfl]),aa]
theorem UX {c:aZ} (h:QC c):z8 c c=some true:=by
 obtain ⟨h1,h2,h3,n,h4⟩:=h
 unfold z8
 rw [if_pos rfl,if_pos rfl,if_pos rfl,G2 h1,aa,cond_true,G2 h2,aa,cond_true,G2 h3,aa,cond_true,show C2 c.oH c.oH=some true from br n fun k hk=>Mp n _ h4 k hk,aa]
theorem JV {l:List aX} (hl:QN l):yR l l=some true:=br (l.length+1) fun k hk=>by
 have hl:l.length≤100000:=hl
 show EZ k l l=_
 unfold EZ
 rw [if_neg (fun q=>q rfl)]
 have loop: ∀ m i,i+m=l.length→ ∀ k,m+1≤k→yS k l l ((i:Nat):Int)=some true:=by
  intro m
  induction m with
  | zero=>
   intro i h' k hk
   obtain ⟨k,rfl⟩: ∃ j,k=j+1:=⟨k - 1,by omega⟩
   rw [yS.eq_2,if_neg (by omega)]
  | succ m ih=>
   intro i h' k hk
   obtain ⟨k,rfl⟩: ∃ j,k=j+1:=⟨k - 1,by omega⟩
   have hi:i<l.length:=by omega
   rw [yS.eq_2,if_pos (by omega),if_pos (by omega),if_pos (by omega),if_pos (by omega),if_pos (by omega),if_neg (fun q=>q rfl),if_pos (by omega),if_pos (by omega),if_pos (by omega),if_pos (by omega),if_neg (fun q=>q rfl),fR (by omega)]
   exact ih (i+1) (by omega) k (by omega)
 exact loop l.length 0 (by omega) k hk
theorem ac7 {l:List aW} (hl:l.length≤100000) (h: ∀ t ∈ l,QT t):E3 l l=some true:=br (l.length+1) fun k hk=>by
 show E4 k l l=_
 unfold E4
 rw [if_neg (fun q=>q rfl)]
 have loop: ∀ m i,i+m=l.length→ ∀ k,m+1≤k→yU k l l ((i:Nat):Int)=some true:=by
  intro m
  induction m with
  | zero=>
   intro i h' k hk
   obtain ⟨k,rfl⟩: ∃ j,k=j+1:=⟨k - 1,by omega⟩
   rw [yU.eq_2,if_neg (by omega)]
  | succ m ih=>
   intro i h' k hk
   obtain ⟨k,rfl⟩: ∃ j,k=j+1:=⟨k - 1,by omega⟩
   have hi:i<l.length:=by omega
   have hq:=h _ (List.getElem_mem hi)
   rw [yU.eq_2,if_pos (by omega),if_pos (by omega),if_pos (by omega),if_pos (by omega),if_pos (by omega),if_neg (fun q=>q rfl),if_pos (by omega),if_pos (by omega),if_pos (by omega),if_pos (by omega),if_neg (fun q=>q rfl),if_pos (by omega),if_pos (by omega),if_pos (by omega),if_pos (by omega),Int.toNat_natCast,cz _ hi,O1 hq.1,aa,Bool.not_true,cond_false,if_pos (by omega),if_pos (by omega),if_pos (by omega),if_pos (by omega),Jj hq.2,aa,Bool.not_true,cond_false,fR (by omega)]
   exact ih (i+1) (by omega) k (by omega)
 exact loop l.length 0 (by omega) k hk
theorem Q_: ∀ (n:Nat) (l:List aG),Sq n l→ ∀ k,n+100001≤k→wu k l l=some true
 | 0,l,h,_,_=>h.elim
 | n+1,l,⟨h1,h4⟩,k,hk=>by
  obtain ⟨k,rfl⟩: ∃ j,k=j+1:=⟨k - 1,by omega⟩
  show E1 (wu k) k l l=_
  unfold E1
  rw [if_neg (fun q=>q rfl)]
  have loop: ∀ m i,i+m=l.length→ ∀ k',m+1≤k'→yT (wu k) k' l l ((i:Nat):Int)=some true:=by
   intro m
   induction m with
   | zero=>
    intro i h' k' hk'
    obtain ⟨k',rfl⟩: ∃ j,k'=j+1:=⟨k' - 1,by omega⟩
    rw [yT.eq_2,if_neg (by omega)]
   | succ m ih=>
    intro i h' k' hk'
    obtain ⟨k',rfl⟩: ∃ j,k'=j+1:=⟨k' - 1,by omega⟩
    have hi:i<l.length:=by omega
    obtain ⟨⟨g1,g2⟩,⟨g3,g4⟩,g5⟩:=h4 _ (List.getElem_mem hi)
    rw [yT.eq_2,if_pos (by omega),if_pos (by omega),if_pos (by omega),if_pos (by omega),if_pos (by omega),if_neg (fun q=>q rfl),if_neg (fun q=>q rfl),Int.toNat_natCast,cz _ hi,Jj g1,aa,Bool.not_true,cond_false,Jj g2,aa,Bool.not_true,cond_false,ac7 g3 g4,aa,Bool.not_true,cond_false,Q_ n _ g5 k (by omega),aa,Bool.not_true,cond_false,fR (by omega)]
    exact ih (i+1) (by omega) k' (by omega)
  exact loop l.length 0 (by omega) k (by omega)
theorem aac {c:aZ} (h:QC c):BZ c c=some true:=by
 obtain ⟨h1,h2,h3,n,h4⟩:=h
 unfold BZ
 rw [if_pos rfl,if_pos rfl,if_pos rfl,JV h1,aa,cond_true,JV h2,aa,cond_true,JV h3,aa,cond_true,show E0 c.oH c.oH=some true from br (n+100001) fun k hk=>Q_ n _ h4 k hk,aa]
end Go.Sy.Ex
namespace Go.Sy.Ex
open Go.Sy
def yt (l:List ai) (i:Nat):aC:=⟨⟨l,(i:Int),⟨0,0⟩⟩⟩
def vt (l:List ai) (i:Nat):aH:=⟨l,(i:Int),⟨0,0⟩⟩
def yb (l:List ai) (i:Nat):aC:=⟨⟨l,(i:Int),bd (ag l i)⟩⟩
def vb (l:List ai) (i:Nat):aH:=⟨l,(i:Int),bd (ag l i)⟩
section
variable {l:List ai} {i:Nat}
theorem SF:aH.mk (vt l i).l (vt l i).ah (az.mk (vt l i).bad.Code (vt l i).bad.At)=vt l i:=rfl
theorem CB:n8 (yt l i)=some (true,yt l i):=rfl
theorem mo (hi:i<l.length):fI (yt l i)=some (ag l i,yt l i):=by
 unfold fI
 rw [CB,aa]
 have h1: ¬ ((i:Nat):Int)<0:=by omega
 have h2: ¬ (l.length:Int)≤((i:Nat):Int):=by omega
 have h3:0≤((i:Nat):Int):=by omega
 have h4:((i:Nat):Int)<(l.length:Int):=by omega
 simp only [Bool.not_true,cond_false,yt,Int.toNat_natCast,h1,h2,h3,h4,if_true,if_false]; rfl
theorem F0 (hi:i<l.length) (s:List UInt8):mQ (yt l i) s=some (au (ag l i) s,yt l i):=by
 unfold mQ au
 rw [mo hi,aa]
 dsimp only
 by_cases h3:(ag l i).Kind=3
 · rw [if_pos h3]; congr 2; rw [decide_eq_decide]; simp [h3]
 · rw [if_neg h3]
   by_cases h1:(ag l i).Kind=1
   · rw [if_pos h1]; congr 2; rw [decide_eq_decide]; simp [h1]
   · rw [if_neg h1]
     congr 2
     symm
     rw [decide_eq_false_iff_not]
     rintro ⟨h | h,_⟩ <;> contradiction
theorem wJ (hi:i<l.length) (hl:l.length≤100000) (s:List UInt8):eL (yt l i) s=some (au (ag l i) s,bif au (ag l i) s then yt l (i+1) else yt l i):=by
 unfold eL
 rw [F0 hi,aa]
 dsimp only
 cases h:au (ag l i) s with
 | true=>
  rw [cond_true,cond_true]
  show some (true,(⟨⟨l,aj (((i:Nat):Int)+1),⟨0,0⟩⟩⟩:aC))=_
  rw [cO hi hl]; rfl
 | false=>rfl
theorem CC (hi:i<l.length):lR (yt l i)=some (yb l i):=by
 unfold lR
 rw [mo hi,aa]
 dsimp only
 unfold yb bd
 by_cases h4:(ag l i).Kind=4
 · rw [if_pos h4,if_pos h4]
   unfold jo
   rw [CB,aa]
   rfl
 · rw [if_neg h4,if_neg h4]
   unfold jo
   rw [CB,aa]
   rfl
theorem oB (hi:i<l.length) (hl:l.length≤100000) {s:List UInt8} (h:au (ag l i) s=true):bQ (yt l i) s=some (yt l (i+1)):=by
 unfold bQ
 rw [wJ hi hl,aa,h]; rfl
theorem F3 (hi:i<l.length) (hl:l.length≤100000) {s:List UInt8} (h:au (ag l i) s=false):bQ (yt l i) s=some (yb l i):=by
 unfold bQ
 rw [wJ hi hl,aa,h,Bool.not_false,cond_true,cond_false,CC hi,aa]
theorem KT (hi:i<l.length):lQ (yt l i)=some (gp (ag l i),yt l i):=by
 unfold lQ gp
 rw [mo hi,aa]
 dsimp only
 by_cases h1:(ag l i).Kind=1
 · rw [if_pos h1,DQ,aa,decide_eq_true h1]; rfl
 · rw [if_neg h1,decide_eq_false h1]; rfl
theorem afV (hi:i<l.length) (hl:l.length≤100000) (h:gp (ag l i)=true):c8 (yt l i)=some ((ag l i).Text,yt l (i+1)):=by
 unfold c8
 rw [KT hi,aa,h]
 show (if 0≤aj (aj (((i:Nat):Int)+1) - 1) then if aj (aj (((i:Nat):Int)+1) - 1)<(l.length:Int) then some ((l.getD (aj (aj (((i:Nat):Int)+1) - 1)).toNat ai.z).Text,(⟨⟨l,aj (((i:Nat):Int)+1),⟨0,0⟩⟩⟩:aC)) else none else none)=_
 rw [cO hi hl,show aj (((i+1:Nat):Int) - 1)=((i:Nat):Int) from by rw [cv (by omega) (by omega)]; omega,if_pos (by omega),if_pos (by omega),Int.toNat_natCast]
 rfl
theorem afU (hi:i<l.length) (h:gp (ag l i)=false):c8 (yt l i)=some ([],yb l i):=by
 unfold c8
 rw [KT hi,aa,h,Bool.not_false,cond_true,CC hi,aa]
theorem F2 (hi:i<l.length) (hl:l.length≤100000) (h:(ag l i).Kind=2):iF (yt l i)=some ((ag l i).N,yt l (i+1)):=by
 unfold iF
 rw [mo hi,aa,if_neg (fun q=>q h)]
 show some ((ag l i).N,(⟨⟨l,aj (((i:Nat):Int)+1),⟨0,0⟩⟩⟩:aC))=_
 rw [cO hi hl]; rfl
theorem S3 (hi:i<l.length) (h:(ag l i).Kind≠2):iF (yt l i)=some (0,yb l i):=by
 unfold iF
 rw [mo hi,aa,if_pos h,CC hi,aa]
theorem jB:cP (vt l i)=some (true,vt l i):=rfl
theorem KA:cP (vb l i)=some (false,vb l i):=by unfold cP vb; rw [decide_eq_false (iC _)]
theorem jA (hi:i<l.length) (s:List UInt8):cD (vt l i) s=some (au (ag l i) s,vt l i):=by
 unfold cD
 rw [jB,aa,cond_true]
 show (dj l ((i:Nat):Int) s).bind _=_
 rw [fQ hi,aa]
theorem nr (hi:i<l.length) (hl:l.length≤100000):aH.mk (vt l i).l (aj ((vt l i).ah+1)) (vt l i).bad=vt l (i+1):=by
 show (⟨l,aj (((i:Nat):Int)+1),⟨0,0⟩⟩:aH)=_
 rw [cO hi hl]; rfl
theorem SM (hi:i<l.length) (hl:l.length≤100000) {s:List UInt8} (h:au (ag l i) s=true):bO (vt l i) s=some (vt l (i+1)):=by
 unfold bO
 rw [jB,aa,cond_true]
 show (dj l ((i:Nat):Int) s).bind _=_
 rw [fQ hi,aa,h,Bool.not_true,cond_false,jB,aa,cond_true,nr hi hl]
theorem SL (hi:i<l.length) {s:List UInt8} (h:au (ag l i) s=false):bO (vt l i) s=some (vb l i):=by
 unfold bO
 rw [jB,aa,cond_true]
 show (dj l ((i:Nat):Int) s).bind _=_
 rw [fQ hi,aa,h,Bool.not_false,cond_true]
 show (dG l ((i:Nat):Int)).bind _=_
 rw [kf hi,aa]
 show (cP (vb l i)).bind _=_
 rw [KA,aa]; rfl
theorem afL (hi:i<l.length) (hl:l.length≤100000) (h:gp (ag l i)=true):cT (vt l i)=some ((ag l i).Text,vt l (i+1)):=br 1 fun k hk=>by
 obtain ⟨k,rfl⟩: ∃ j,k=j+1:=⟨k - 1,by omega⟩
 show tn (k+1) (vt l i)=_
 unfold tn
 rw [jB,aa,cond_true]
 show (iG l ((i:Nat):Int)).bind _=_
 rw [oe hi,aa,show (decide ((ag l i).Kind=1)&& !eM (ag l i).Text)=true from h,Bool.not_true,cond_false,vT.eq_2]
 rw [SF,jB,aa,Bool.not_true,cond_false,nr hi hl]
 show (if 0≤aj (aj (((i:Nat):Int)+1) - 1) then if aj (aj (((i:Nat):Int)+1) - 1)<(l.length:Int) then some ((l.getD (aj (aj (((i:Nat):Int)+1) - 1)).toNat ai.z).Text,vt l (i+1)) else none else none)=_
 rw [cO hi hl,show aj (((i+1:Nat):Int) - 1)=((i:Nat):Int) from by rw [cv (by omega) (by omega)]; omega,if_pos (by omega),if_pos (by omega),Int.toNat_natCast]
 rfl
theorem SH (hi:i<l.length) (h:gp (ag l i)=false):cT (vt l i)=some ([],vb l i):=br 1 fun k hk=>by
 obtain ⟨k,rfl⟩: ∃ j,k=j+1:=⟨k - 1,by omega⟩
 show tn (k+1) (vt l i)=_
 unfold tn
 rw [jB,aa,cond_true]
 show (iG l ((i:Nat):Int)).bind _=_
 rw [oe hi,aa,show (decide ((ag l i).Kind=1)&& !eM (ag l i).Text)=false from h,Bool.not_false,cond_true]
 show (dG l ((i:Nat):Int)).bind _=_
 rw [kf hi,aa,vT.eq_2]
 show (cP (vb l i)).bind _=_
 rw [KA,aa]; rfl
theorem SK (hi:i<l.length) (hl:l.length≤100000) (h:(ag l i).Kind=2):gu (vt l i)=some ((ag l i).N,vt l (i+1)):=br 1 fun k hk=>by
 obtain ⟨k,rfl⟩: ∃ j,k=j+1:=⟨k - 1,by omega⟩
 show tr (k+1) (vt l i)=_
 unfold tr
 rw [jB,aa,cond_true]
 show (if 0≤((i:Nat):Int) then if ((i:Nat):Int)<(l.length:Int) then if (l.getD ((i:Nat):Int).toNat ai.z).Kind≠2 then _ else _ else none else none)=_
 rw [if_pos (by omega),if_pos (by omega),Int.toNat_natCast,if_neg (fun q=>q h),vW.eq_2]
 rw [SF,jB,aa,Bool.not_true,cond_false,nr hi hl]
 show (if 0≤aj (aj (((i:Nat):Int)+1) - 1) then if aj (aj (((i:Nat):Int)+1) - 1)<(l.length:Int) then some ((l.getD (aj (aj (((i:Nat):Int)+1) - 1)).toNat ai.z).N,vt l (i+1)) else none else none)=_
 rw [cO hi hl,show aj (((i+1:Nat):Int) - 1)=((i:Nat):Int) from by rw [cv (by omega) (by omega)]; omega,if_pos (by omega),if_pos (by omega),Int.toNat_natCast]
 rfl
theorem SJ (hi:i<l.length) (h:(ag l i).Kind≠2):gu (vt l i)=some (0,vb l i):=br 1 fun k hk=>by
 obtain ⟨k,rfl⟩: ∃ j,k=j+1:=⟨k - 1,by omega⟩
 show tr (k+1) (vt l i)=_
 unfold tr
 rw [jB,aa,cond_true]
 show (if 0≤((i:Nat):Int) then if ((i:Nat):Int)<(l.length:Int) then if (l.getD ((i:Nat):Int).toNat ai.z).Kind≠2 then _ else _ else none else none)=_
 rw [if_pos (by omega),if_pos (by omega),Int.toNat_natCast,if_pos (show (l.getD i ai.z).Kind≠2 from h)]
 show (dG l ((i:Nat):Int)).bind _=_
 rw [kf hi,aa,vW.eq_2]
 show (cP (vb l i)).bind _=_
 rw [KA,aa]; rfl
end
section
variable {s:aC} (h:s.Row.av.Code≠0)
include h
theorem S4:n8 s=some (false,s):=by unfold n8; rw [decide_eq_false h]
theorem ue:fI s=some (ai.mk 4 0 0 [] 0,s):=by unfold fI; rw [S4 h,aa]; rfl
theorem FZ (x:List UInt8):mQ s x=some (false,s):=by unfold mQ; rw [ue h,aa]; rfl
theorem rZ (x:List UInt8):eL s x=some (false,s):=by unfold eL; rw [FZ h,aa]; rfl
theorem afT (c a:Int):jo s c a=some s:=by unfold jo; rw [S4 h,aa]; rfl
theorem KW:lR s=some s:=by
 unfold lR; rw [ue h,aa]
 dsimp only
 rw [if_pos rfl,afT h,aa]
theorem nA (x:List UInt8):bQ s x=some s:=by
 unfold bQ; rw [rZ h,aa,Bool.not_false,cond_true]
 dsimp only
 rw [KW h,aa]
theorem CA:c8 s=some ([],s):=by
 unfold c8
 rw [show lQ s=some (false,s) from by unfold lQ; rw [ue h,aa]; rfl,aa,Bool.not_false,cond_true]
 dsimp only
 rw [KW h,aa]
theorem F1:iF s=some (0,s):=by
 unfold iF
 rw [ue h,aa]
 dsimp only
 rw [if_pos (by decide)]
 rw [KW h,aa]
end
section
variable {r:aH} (h:r.bad.Code≠0)
include h
theorem ld:cP r=some (false,r):=by unfold cP; rw [decide_eq_false h]
theorem l_ (x:List UInt8):cD r x=some (false,r):=by unfold cD; rw [ld h,aa]; rfl
theorem mb (x:List UInt8):bO r x=some r:=by
 unfold bO; rw [ld h,aa,cond_false]
 dsimp only
 rw [ld h,aa]; rfl
theorem Cv:cT r=some ([],r):=br 1 fun k hk=>by
 obtain ⟨k,rfl⟩: ∃ j,k=j+1:=⟨k - 1,by omega⟩
 show tn (k+1) r=_
 unfold tn
 rw [ld h,aa,cond_false]
 dsimp only
 rw [vT.eq_2]
 show (cP r).bind _=_
 rw [ld h,aa]; rfl
theorem FT:gu r=some (0,r):=br 1 fun k hk=>by
 obtain ⟨k,rfl⟩: ∃ j,k=j+1:=⟨k - 1,by omega⟩
 show tr (k+1) r=_
 unfold tr
 rw [ld h,aa,cond_false]
 dsimp only
 rw [vW.eq_2]
 show (cP r).bind _=_
 rw [ld h,aa]; rfl
end
end Go.Sy.Ex
namespace Go.Sy.Ex
open Go.Sy
def Bs (s:aC) (r:aH):Prop:=s.Row.av.Code≠0∧r.bad=s.Row.av
theorem Bs.r {s:aC} {r:aH} (h:Bs s r):r.bad.Code≠0:=by rw [h.2]; exact h.1
theorem Bs.mk (l:List ai) (i:Nat):Bs (yb l i) (vb l i):=⟨iC _,rfl⟩
def OS {α:Type} (Q:α→Prop) (l:List ai) (i:Nat) (f:Nat→Nat→Option (α×aC)) (g:Nat→Nat→Option (α×aH)):Prop:=
 (∃ v j Z,i≤j∧j<l.length∧Q v∧ ∀ k,Z≤k→ ∀ m,Z≤m→f k m=some (v,yt l j)∧g k m=some (v,vt l j))∨
 (∃ v s v' r Z,Bs s r∧ ∀ k,Z≤k→ ∀ m,Z≤m→f k m=some (v,s)∧g k m=some (v',r))
section
variable {α β:Type} {Q:α→Prop} {Q':β→Prop} {l:List ai} {i:Nat}
theorem OS.ok {v:α} {j:Nat} (h1:i≤j) (h2:j<l.length) (h3:Q v):OS Q l i (fun _ _=>some (v,yt l j)) (fun _ _=>some (v,vt l j)):= .inl ⟨v,j,0,h1,h2,h3,fun _ _ _ _=>⟨rfl,rfl⟩⟩
theorem OS.no {v v':α} {s:aC} {r:aH} (h:Bs s r):OS Q l i (fun _ _=>some (v,s)) (fun _ _=>some (v',r)):= .inr ⟨v,s,v',r,0,h,fun _ _ _ _=>⟨rfl,rfl⟩⟩
theorem OS.mono {i':Nat} {f g} (h:OS Q l i' f g) (hi:i≤i'):OS Q l i f g:=by
 rcases h with ⟨v,j,Z,h1,h2,h3,h4⟩ | h
 · exact .inl ⟨v,j,Z,by omega,h2,h3,h4⟩
 · exact .inr h
theorem OS.imp {Q2:α→Prop} {f g} (h:OS Q l i f g) (hq: ∀ v,Q v→Q2 v):OS Q2 l i f g:=by
 rcases h with ⟨v,j,Z,h1,h2,h3,h4⟩ | h
 · exact .inl ⟨v,j,Z,h1,h2,hq v h3,h4⟩
 · exact .inr h
theorem OS.bind {f g} {F:Nat→Nat→α×aC→Option (β×aC)} {G:Nat→Nat→α×aH→Option (β×aH)} (h:OS Q l i f g)
 (ok: ∀ v j,i≤j→j<l.length→Q v→OS Q' l i (fun k m=>F k m (v,yt l j)) (fun k m=>G k m (v,vt l j)))
 (bad: ∀ v s v' r,Bs s r→OS Q' l i (fun k m=>F k m (v,s)) (fun k m=>G k m (v',r))):OS Q' l i (fun k m=>(f k m).bind (F k m)) (fun k m=>(g k m).bind (G k m)):=by
 rcases h with ⟨v,j,Z,h1,h2,h3,h4⟩ | ⟨v,s,v',r,Z,h1,h4⟩
 · rcases ok v j h1 h2 h3 with ⟨w,j',Z',g1,g2,g3,g4⟩ | ⟨w,s,w',r,Z',g1,g4⟩
   · refine .inl ⟨w,j',max Z Z',g1,g2,g3,fun k hk m hm=> ?_⟩
     show (f k m).bind (F k m)=_∧(g k m).bind (G k m)=_
     rw [(h4 k (by omega) m (by omega)).1,(h4 k (by omega) m (by omega)).2]
     exact g4 k (by omega) m (by omega)
   · refine .inr ⟨w,s,w',r,max Z Z',g1,fun k hk m hm=> ?_⟩
     show (f k m).bind (F k m)=_∧(g k m).bind (G k m)=_
     rw [(h4 k (by omega) m (by omega)).1,(h4 k (by omega) m (by omega)).2]
     exact g4 k (by omega) m (by omega)
 · rcases bad v s v' r h1 with ⟨w,j',Z',g1,g2,g3,g4⟩ | ⟨w,s,w',r,Z',g1,g4⟩
   · refine .inl ⟨w,j',max Z Z',g1,g2,g3,fun k hk m hm=> ?_⟩
     show (f k m).bind (F k m)=_∧(g k m).bind (G k m)=_
     rw [(h4 k (by omega) m (by omega)).1,(h4 k (by omega) m (by omega)).2]
     exact g4 k (by omega) m (by omega)
   · refine .inr ⟨w,s,w',r,max Z Z',g1,fun k hk m hm=> ?_⟩
     show (f k m).bind (F k m)=_∧(g k m).bind (G k m)=_
     rw [(h4 k (by omega) m (by omega)).1,(h4 k (by omega) m (by omega)).2]
     exact g4 k (by omega) m (by omega)
theorem OS.from {f g} (N:Nat) {f' g'} (hf: ∀ k,N≤k→ ∀ m,N≤m→f k m=f' k m) (hg: ∀ k,N≤k→ ∀ m,N≤m→g k m=g' k m) (h:OS Q l i f' g'):OS Q l i f g:=by
 rcases h with ⟨v,j,Z,h1,h2,h3,h4⟩ | ⟨v,s,v',r,Z,h1,h4⟩
 · refine .inl ⟨v,j,max Z N,h1,h2,h3,fun k hk m hm=> ?_⟩
   rw [hf k (by omega) m (by omega),hg k (by omega) m (by omega)]; exact h4 k (by omega) m (by omega)
 · refine .inr ⟨v,s,v',r,max Z N,h1,fun k hk m hm=> ?_⟩
   rw [hf k (by omega) m (by omega),hg k (by omega) m (by omega)]; exact h4 k (by omega) m (by omega)
theorem OS.e9 {f g} (h:OS Q l i (fun k m=>f k (m+1)) (fun k m=>g k (m+1))):OS Q l i f g:=by
 rcases h with ⟨v,j,Z,h1,h2,h3,h4⟩ | ⟨v,s,v',r,Z,h1,h4⟩
 · refine .inl ⟨v,j,Z+1,h1,h2,h3,fun k hk m hm=> ?_⟩
   obtain ⟨m,rfl⟩: ∃ q,m=q+1:=⟨m - 1,by omega⟩
   exact h4 k (by omega) m (by omega)
 · refine .inr ⟨v,s,v',r,Z+1,h1,fun k hk m hm=> ?_⟩
   obtain ⟨m,rfl⟩: ∃ q,m=q+1:=⟨m - 1,by omega⟩
   exact h4 k (by omega) m (by omega)
theorem OS.bw {A B:Type} {F:Nat→Nat→A→Option (α×aC)} {G:Nat→Nat→B→Option (α×aH)} {x:A} {y:B} (h:OS Q l i (fun k m=>F k m x) (fun k m=>G k m y)):OS Q l i (fun k _=>Sy.bw (F k) x) (fun k _=>Sy.bw (G k) y):=by
 rcases h with ⟨v,j,Z,h1,h2,h3,h4⟩ | ⟨v,s,v',r,Z,h1,h4⟩
 · exact .inl ⟨v,j,Z,h1,h2,h3,fun k hk m hm=>⟨br Z fun m hm=>(h4 k hk m hm).1,br Z fun m hm=>(h4 k hk m hm).2⟩⟩
 · exact .inr ⟨v,s,v',r,Z,h1,fun k hk m hm=>⟨br Z fun m hm=>(h4 k hk m hm).1,br Z fun m hm=>(h4 k hk m hm).2⟩⟩
end
section
variable {β:Type} {Q':β→Prop} {l:List ai} {i:Nat}
theorem gw (H:Ok l) (hi:i<l.length) (w:List UInt8) {F:Nat→Nat→aC→Option (β×aC)} {G:Nat→Nat→aH→Option (β×aH)}
 (ok:i+1<l.length→au (ag l i) w=true→OS Q' l i (fun k m=>F k m (yt l (i+1))) (fun k m=>G k m (vt l (i+1)))) (bad: ∀ s r,Bs s r→OS Q' l i (fun k m=>F k m s) (fun k m=>G k m r)):
 OS Q' l i (fun k m=>(bQ (yt l i) w).bind (F k m)) (fun k m=>(bO (vt l i) w).bind (G k m)):=by
 cases h:au (ag l i) w with
 | true=>rw [oB hi H.len h,SM hi H.len h]; exact ok (dh H hi h) h
 | false=>rw [F3 hi H.len h,SL hi h]; exact bad _ _ (Bs.mk l i)
theorem lf (H:Ok l) (hi:i<l.length) {F:Nat→Nat→List UInt8×aC→Option (β×aC)} {G:Nat→Nat→List UInt8×aH→Option (β×aH)}
 (ok:i+1<l.length→gp (ag l i)=true→OS Q' l i (fun k m=>F k m ((ag l i).Text,yt l (i+1))) (fun k m=>G k m ((ag l i).Text,vt l (i+1)))) (bad: ∀ v s v' r,Bs s r→OS Q' l i (fun k m=>F k m (v,s)) (fun k m=>G k m (v',r))):
 OS Q' l i (fun k m=>(c8 (yt l i)).bind (F k m)) (fun k m=>(cT (vt l i)).bind (G k m)):=by
 cases h:gp (ag l i) with
 | true=>
  rw [afV hi H.len h,afL hi H.len h]
  have h':=h
  unfold gp at h'
  rw [Bool.and_eq_true,decide_eq_true_eq] at h'
  exact ok (H.more i hi (by omega)) h
 | false=>rw [afU hi h,SH hi h]; exact bad _ _ _ _ (Bs.mk l i)
theorem zz (H:Ok l) (hi:i<l.length) {F:Nat→Nat→Int×aC→Option (β×aC)} {G:Nat→Nat→Int×aH→Option (β×aH)}
 (ok:i+1<l.length→(ag l i).Kind=2→OS Q' l i (fun k m=>F k m ((ag l i).N,yt l (i+1))) (fun k m=>G k m ((ag l i).N,vt l (i+1)))) (bad: ∀ v s v' r,Bs s r→OS Q' l i (fun k m=>F k m (v,s)) (fun k m=>G k m (v',r))):
 OS Q' l i (fun k m=>(iF (yt l i)).bind (F k m)) (fun k m=>(gu (vt l i)).bind (G k m)):=by
 by_cases h:(ag l i).Kind=2
 · rw [F2 hi H.len h,SK hi H.len h]; exact ok (H.more i hi (by omega)) h
 · rw [S3 hi h,SJ hi h]; exact bad _ _ _ _ (Bs.mk l i)
end
end Go.Sy.Ex
namespace Go.Sy.Ex
open Go.Sy
noncomputable section
section
variable {α β:Type} {Q:α→Prop} {l:List ai} {i:Nat}
theorem OS.shift {f g} (a b:Nat) (h:OS Q l i (fun k m=>f k (m+a)) (fun k m=>g k (m+b))):OS Q l i f g:=by
 have e: ∀ {γ:Type} (F:Nat→Nat→γ) (c k m:Nat),c≤m→F k m=F k ((m - c)+c):=fun F c k m h=>by rw [Nat.sub_add_cancel h]
 rcases h with ⟨v,j,Z,h1,h2,h3,h4⟩ | ⟨v,s,v',r,Z,h1,h4⟩
 · refine .inl ⟨v,j,Z+a+b,h1,h2,h3,fun k hk m hm=> ?_⟩
   rw [e f a k m (by omega),e g b k m (by omega)]
   exact ⟨(h4 k (by omega) _ (by omega)).1,(h4 k (by omega) _ (by omega)).2⟩
 · refine .inr ⟨v,s,v',r,Z+a+b,h1,fun k hk m hm=> ?_⟩
   rw [e f a k m (by omega),e g b k m (by omega)]
   exact ⟨(h4 k (by omega) _ (by omega)).1,(h4 k (by omega) _ (by omega)).2⟩
theorem Be {QA:α→Prop} {Q':β→Prop} (Y:Nat→aC→List α→Option (β×aC)) (V:Nat→aH→List α→Option (β×aH))
 (bad: ∀ i {s r} (_:Bs s r) acc acc',OS Q' l i (fun _ m=>Y m s acc) (fun _ m=>V m r acc'))
 (step: ∀ i acc,i<l.length→acc.length≤i→(∀ x ∈ acc,QA x)→OS Q' l i (fun _ m=>Y m (yt l i) acc) (fun _ m=>V m (vt l i) acc)∨
  ∃ a b f g,OS QA l (i+1) f g∧(∀ k m,Y (m+a) (yt l i) acc=(f k m).bind fun p=>Y m p.2 (acc++ [p.1]))∧(∀ k m,V (m+b) (vt l i) acc=(g k m).bind fun p=>V m p.2 (acc++ [p.1]))):
 ∀ q i acc,l.length≤i+q→i<l.length→acc.length≤i→(∀ x ∈ acc,QA x)→OS Q' l i (fun _ m=>Y m (yt l i) acc) (fun _ m=>V m (vt l i) acc)
 | 0,i,_,hq,hi,_,_=>by omega
 | q+1,i,acc,hq,hi,hacc,hQ=>by
  rcases step i acc hi hacc hQ with h | ⟨a,b,f,g,h1,h2,h3⟩
  · exact h
  · refine OS.shift a b ?_
    refine OS.from 0 (f':=fun k m=>(f k m).bind fun p=>Y m p.2 (acc++ [p.1])) (g':=fun k m=>(g k m).bind fun p=>V m p.2 (acc++ [p.1])) (fun k _ m _=>h2 k m) (fun k _ m _=>h3 k m) ?_
    refine OS.mono (OS.bind h1 (fun v j g1 g2 g3=> ?_) fun v s v' r hb=>bad _ hb _ _) (Nat.le_succ i)
    exact OS.mono (Be Y V bad step q j (acc++ [v]) (by omega) g2 (by simp; omega) fun x hx=>by
     rcases List.mem_append.1 hx with hx | hx
     · exact hQ x hx
     · rw [List.mem_singleton.1 hx]; exact g3) g1
end
section
variable {l:List ai} {i:Nat}
theorem KV (hi:i<l.length) (hl:l.length≤100000) {s:List UInt8} (h:au (ag l i) s=true):eL (yt l i) s=some (true,yt l (i+1)):=by rw [wJ hi hl,h]; rfl
theorem KU (hi:i<l.length) (hl:l.length≤100000) {s:List UInt8} (h:au (ag l i) s=false):eL (yt l i) s=some (false,yt l i):=by rw [wJ hi hl,h]; rfl
theorem Dt (hi:i<l.length):oa (vt l i)=some ((ag l i).At,vt l i):=by
 unfold oa
 rw [if_pos (show 0≤(vt l i).ah by show 0≤((i:Nat):Int); omega),if_pos (show (vt l i).ah<((vt l i).l.length:Int) by show ((i:Nat):Int)<(l.length:Int); omega)]
 show some ((l.getD ((i:Nat):Int).toNat ai.z).At,vt l i)=_
 rw [Int.toNat_natCast]; rfl
theorem Yr (H:Ok l) (hi:i<l.length) (h:au (ag l i) jw=true):OS (fun _=>True) l (i+1) (fun _ _=>wG (yt l i)) (fun _ _=>vR (vt l i)):=by
 have hf:wG (yt l i)=(c8 (yt l (i+1))).bind fun r3=>(bQ r3.2 ko).bind fun r4=>(c8 r4).bind fun r5=>(bQ r5.2 rF).bind fun a=>(iF a).bind fun r6=>(bQ r6.2 rz).bind fun a=>(iF a).bind fun r7=>(bQ r7.2 kY).bind fun a=>(iF a).bind fun r8=>(bQ r8.2 bD).bind fun r9=>some (bl.mk r3.1 r5.1 r6.1 r7.1 r8.1 (ag l i).At,r9):=by
  unfold wG l7
  rw [mo hi,aa]
  dsimp only
  rw [oB hi H.len h,aa]
  simp only [Option.bind_assoc,aa]
 have hg:vR (vt l i)=(cT (vt l (i+1))).bind fun r2=>(bO r2.2 ko).bind fun r3=>(cT r3).bind fun r4=>(bO r4.2 rF).bind fun r5=>(gu r5).bind fun r6=>(bO r6.2 rz).bind fun r7=>(gu r7).bind fun r8=>(bO r8.2 kY).bind fun r9=>(gu r9).bind fun aJ=>(bO aJ.2 bD).bind fun bu=>some (bl.mk r2.1 r4.1 r6.1 r8.1 aJ.1 (ag l i).At,bu):=by
  unfold vR
  rw [Dt hi,aa]
  dsimp only
  rw [nr hi H.len]
 rw [hf,hg]
 refine lf H (dh H hi h) (fun h1 _=>OS.mono (gw H h1 ko (fun h2 _=>OS.mono (lf H h2 (fun h3 _=>OS.mono (gw H h3 rF (fun h4 _=>OS.mono (zz H h4 (fun h5 _=>OS.mono (gw H h5 rz (fun h6 _=>OS.mono (zz H h6 (fun h7 _=>OS.mono (gw H h7 kY (fun h8 _=>OS.mono (zz H h8 (fun h9 _=>OS.mono (gw H h9 bD (fun h10 _=>OS.ok (Nat.le_succ _) h10 trivial) fun s r hb=> ?_) (Nat.le_succ _)) fun v s v' r hb=> ?_) (Nat.le_succ _)) fun s r hb=> ?_) (Nat.le_succ _)) fun v s v' r hb=> ?_) (Nat.le_succ _)) fun s r hb=> ?_) (Nat.le_succ _)) fun v s v' r hb=> ?_) (Nat.le_succ _)) fun s r hb=> ?_) (Nat.le_succ _)) fun v s v' r hb=> ?_) (Nat.le_succ _)) fun s r hb=> ?_) (Nat.le_succ _)) fun v s v' r hb=> ?_
 all_goals
  simp only [nA hb.1,CA hb.1,F1 hb.1,mb hb.r,Cv hb.r,FT hb.r,aa]
  exact OS.no hb
theorem U8 (H:Ok l) (hi:i<l.length) (h:au (ag l i) jv=true):OS (fun _=>True) l (i+1) (fun _ _=>wF (yt l i)) (fun _ _=>vQ (vt l i)):=by
 have hf:wF (yt l i)=(c8 (yt l (i+1))).bind fun r3=>(bQ r3.2 ko).bind fun r4=>(c8 r4).bind fun a1=>(bQ a1.2 ru).bind fun a2=>(c8 a2).bind fun a3=>(bQ a3.2 eN).bind fun a4=>(c8 a4).bind fun a5=>(bQ a5.2 rm).bind fun a=>(iF a).bind fun r6=>(bQ r6.2 kY).bind fun a=>(iF a).bind fun r7=>(bQ r7.2 bD).bind fun r8=>some (bk.mk r3.1 a1.1 a3.1 a5.1 r6.1 r7.1 (ag l i).At,r8):=by
  unfold wF wH l7
  rw [mo hi,aa]
  dsimp only
  rw [oB hi H.len h,aa]
  simp only [Option.bind_assoc,aa]
 have hg:vQ (vt l i)=(cT (vt l (i+1))).bind fun r2=>(bO r2.2 ko).bind fun r3=>(cT r3).bind fun r4=>(bO r4.2 ru).bind fun r5=>(cT r5).bind fun r6=>(bO r6.2 eN).bind fun r7=>(cT r7).bind fun r8=>(bO r8.2 rm).bind fun r9=>(gu r9).bind fun aJ=>(bO aJ.2 kY).bind fun bu=>(gu bu).bind fun bg=>(bO bg.2 bD).bind fun bp=>some (bk.mk r2.1 r4.1 r6.1 r8.1 aJ.1 bg.1 (ag l i).At,bp):=by
  unfold vQ
  rw [Dt hi,aa]
  dsimp only
  rw [nr hi H.len]
 rw [hf,hg]
 refine lf H (dh H hi h) (fun h1 _=>OS.mono (gw H h1 ko (fun h2 _=>OS.mono (lf H h2 (fun h3 _=>OS.mono (gw H h3 ru (fun h4 _=>OS.mono (lf H h4 (fun h5 _=>OS.mono (gw H h5 eN (fun h6 _=>OS.mono (lf H h6 (fun h7 _=>OS.mono (gw H h7 rm (fun h8 _=>OS.mono (zz H h8 (fun h9 _=>OS.mono (gw H h9 kY (fun h10 _=>OS.mono (zz H h10 (fun h11 _=>OS.mono (gw H h11 bD (fun h12 _=>OS.ok (Nat.le_succ _) h12 trivial) fun s r hb=> ?_) (Nat.le_succ _)) fun v s v' r hb=> ?_) (Nat.le_succ _)) fun s r hb=> ?_) (Nat.le_succ _)) fun v s v' r hb=> ?_) (Nat.le_succ _)) fun s r hb=> ?_) (Nat.le_succ _)) fun v s v' r hb=> ?_) (Nat.le_succ _)) fun s r hb=> ?_) (Nat.le_succ _)) fun v s v' r hb=> ?_) (Nat.le_succ _)) fun s r hb=> ?_) (Nat.le_succ _)) fun v s v' r hb=> ?_) (Nat.le_succ _)) fun s r hb=> ?_) (Nat.le_succ _)) fun v s v' r hb=> ?_
 all_goals
  simp only [nA hb.1,CA hb.1,F1 hb.1,mb hb.r,Cv hb.r,FT hb.r,aa]
  exact OS.no hb
def QM (v:List (List UInt8)):Prop:=v.length≤100000
abbrev yN (m:Nat) (s:aC) (w:List UInt8) (acc:List (List UInt8)):=pW m s.Row.L s.Row.At s.Row.av.Code s.Row.av.At w acc
abbrev vN (m:Nat) (r:aH) (acc:List (List UInt8)):=vV m r.l r.ah r.bad.Code r.bad.At acc
abbrev vS (m:Nat) (r:aH) (acc:List (List UInt8)):=vX m r.l r.ah r.bad.Code r.bad.At acc
theorem OS.DO {α A B:Type} {Q:α→Prop} {F:Nat→A→Option (α×aC)} {G:Nat→B→Option (α×aH)} {x:A} {y:B} (h:OS Q l i (fun _ m=>F m x) (fun _ m=>G m y)):OS Q l i (fun _ _=>Sy.bw F x) (fun _ _=>Sy.bw G y):=OS.bw (F:=fun _=>F) (G:=fun _=>G) h
theorem wT (n:Nat) (x:List UInt8) (h:n≤100000):(n+ [x].length)*16≤140737488355328:=by simp only [List.length_singleton]; omega
theorem OT (w:List UInt8) (i:Nat) {s:aC} {r:aH} (h:Bs s r) (acc acc':List (List UInt8)):OS QM l i (fun _ m=>yN m s w acc) (fun _ m=>vN m r acc'):=OS.e9 (by
 have hf: ∀ m,yN (m+1) s w acc=some (acc,s):=fun m=>by
  unfold yN; rw [pW.eq_2]
  show (eL s w).bind _=_
  rw [rZ h.1,aa]; rfl
 have hg: ∀ m,vN (m+1) r acc'=some (acc',r):=fun m=>by
  unfold vN; rw [vV.eq_2]
  show (cD r ec).bind _=_
  rw [l_ h.r,aa]; rfl
 simp only [hf,hg]
 exact OS.no h)
theorem Rr (w:List UInt8) (i:Nat) {s:aC} {r:aH} (h:Bs s r) (acc acc':List (List UInt8)):OS QM l i (fun _ m=>yN m s w acc) (fun _ m=>vS m r acc'):=OS.e9 (by
 have hf: ∀ m,yN (m+1) s w acc=some (acc,s):=fun m=>by
  unfold yN; rw [pW.eq_2]
  show (eL s w).bind _=_
  rw [rZ h.1,aa]; rfl
 have hg: ∀ m,vS (m+1) r acc'=some (acc',r):=fun m=>by
  unfold vS; rw [vX.eq_2]
  show (cD r ey).bind _=_
  rw [l_ h.r,aa]; rfl
 simp only [hf,hg]
 exact OS.no h)
theorem OO (H:Ok l) (hi:i<l.length):OS (fun _=>True) l i (fun _ _=>c8 (yt l i)) (fun _ _=>cT (vt l i)):=by
 have h:OS (fun _:List UInt8=>True) l i (fun k m=>(c8 (yt l i)).bind some) (fun k m=>(cT (vt l i)).bind some):=lf H hi (fun h1 _=>OS.ok (Nat.le_succ _) h1 trivial) fun v s v' r hb=>OS.no hb
 have e: ∀ {γ:Type} (x:Option γ),x.bind some=x:=fun x=>by cases x <;> rfl
 rw [e,e] at h
 exact h
theorem Zp (H:Ok l) (i:Nat) (acc:List (List UInt8)) (hi:i<l.length) (hacc:acc.length≤i):OS QM l i (fun _ m=>yN m (yt l i) ec acc) (fun _ m=>vN m (vt l i) acc)∨
 ∃ a b f g,OS (fun _=>True) l (i+1) f g∧(∀ k m,yN (m+a) (yt l i) ec acc=(f k m).bind fun p=>yN m p.2 ec (acc++ [p.1]))∧(∀ k m,vN (m+b) (vt l i) acc=(g k m).bind fun p=>vN m p.2 (acc++ [p.1])):=by
 have hl:=H.len
 have hf: ∀ m,yN (m+1) (yt l i) ec acc=bif au (ag l i) ec then (c8 (yt l (i+1))).bind fun p=>yN m p.2 ec (acc++ [p.1]) else some (acc,yt l i):=fun m=>by
  unfold yN; rw [pW.eq_2]
  show (eL (yt l i) ec).bind _=_
  rw [wJ hi H.len,aa]
  simp only [if_pos (wT _ _ (show acc.length≤100000 by omega))]
  cases au (ag l i) ec <;> rfl
 have hg: ∀ m,vN (m+1) (vt l i) acc=bif au (ag l i) ec then (cT (vt l (i+1))).bind fun p=>vN m p.2 (acc++ [p.1]) else some (acc,vt l i):=fun m=>by
  unfold vN; rw [vV.eq_2]
  show (cD (vt l i) ec).bind _=_
  rw [jA hi,aa]
  dsimp only
  rw [nr hi H.len]
  simp only [if_pos (wT _ _ (show acc.length≤100000 by omega))]
 cases h:au (ag l i) ec with
 | true=>
  refine .inr ⟨1,1,_,_,OO H (dh H hi h),fun k m=> ?_,fun k m=> ?_⟩
  · rw [hf,h]; rfl
  · rw [hg,h]; rfl
 | false=>
  refine .inl (OS.e9 ?_)
  simp only [hf,hg,h,cond_false]
  exact OS.ok (Nat.le_refl _) hi (show acc.length≤100000 by omega)
theorem adw (H:Ok l) (i:Nat) (acc:List (List UInt8)) (hi:i<l.length) (hacc:acc.length≤i):OS QM l i (fun _ m=>yN m (yt l i) ey acc) (fun _ m=>vS m (vt l i) acc)∨
 ∃ a b f g,OS (fun _=>True) l (i+1) f g∧(∀ k m,yN (m+a) (yt l i) ey acc=(f k m).bind fun p=>yN m p.2 ey (acc++ [p.1]))∧(∀ k m,vS (m+b) (vt l i) acc=(g k m).bind fun p=>vS m p.2 (acc++ [p.1])):=by
 have hl:=H.len
 have hf: ∀ m,yN (m+1) (yt l i) ey acc=bif au (ag l i) ey then (c8 (yt l (i+1))).bind fun p=>yN m p.2 ey (acc++ [p.1]) else some (acc,yt l i):=fun m=>by
  unfold yN; rw [pW.eq_2]
  show (eL (yt l i) ey).bind _=_
  rw [wJ hi H.len,aa]
  simp only [if_pos (wT _ _ (show acc.length≤100000 by omega))]
  cases au (ag l i) ey <;> rfl
 have hg: ∀ m,vS (m+1) (vt l i) acc=bif au (ag l i) ey then (cT (vt l (i+1))).bind fun p=>vS m p.2 (acc++ [p.1]) else some (acc,vt l i):=fun m=>by
  unfold vS; rw [vX.eq_2]
  show (cD (vt l i) ey).bind _=_
  rw [jA hi,aa]
  dsimp only
  rw [nr hi H.len]
  simp only [if_pos (wT _ _ (show acc.length≤100000 by omega))]
 cases h:au (ag l i) ey with
 | true=>
  refine .inr ⟨1,1,_,_,OO H (dh H hi h),fun k m=> ?_,fun k m=> ?_⟩
  · rw [hf,h]; rfl
  · rw [hg,h]; rfl
 | false=>
  refine .inl (OS.e9 ?_)
  simp only [hf,hg,h,cond_false]
  exact OS.ok (Nat.le_refl _) hi (show acc.length≤100000 by omega)
theorem OU (H:Ok l) (hi:i<l.length):OS QM l i (fun _ _=>l6 (yt l i) ec) (fun _ _=>tq (vt l i)):=by
 refine OS.DO (F:=fun m (x:aC×List UInt8)=>tU m x.1 x.2) (G:=fun m x=>BL m x) ?_
 show OS QM l i (fun _ m=>(c8 (yt l i)).bind fun r1=>yN m r1.2 ec [r1.1]) (fun _ m=>(cT (vt l i)).bind fun r1=>vN m r1.2 [r1.1])
 exact lf H hi (fun h1 _=>OS.mono (Be (fun m s acc=>yN m s ec acc) (fun m r acc=>vN m r acc) (fun i _ _ h acc acc'=>OT ec i h acc acc') (fun i acc h2 h3 _=>Zp H i acc h2 h3) l.length (i+1) [(ag l i).Text] (by omega) h1 (by simp) (fun _ _=>trivial)) (Nat.le_succ _)) fun v s v' r hb=>OT ec i hb _ _
def oA (s:aC):Option (List (List UInt8)×aC):=(eL s tM).bind fun r4=>bif !r4.1 then (l6 r4.2 ey).bind fun r5=>some (r5.1,r5.2) else some ([],r4.2)
theorem Ru (H:Ok l) (hi:i<l.length):OS QM l i (fun _ _=>oA (yt l i)) (fun _ _=>pI (vt l i)):=by
 have e: ∀ {γ δ:Type} (x:Option (γ×δ)),(x.bind fun p=>some (p.1,p.2))=x:=fun x=>by cases x <;> rfl
 cases h:au (ag l i) tM with
 | true=>
  have hf:oA (yt l i)=some ([],yt l (i+1)):=by unfold oA; rw [KV hi H.len h,aa]; rfl
  have hg:pI (vt l i)=some ([],vt l (i+1)):=br 0 fun k hk=>by
   show qR k (vt l i)=_
   unfold qR
   rw [jA hi,aa,h,cond_true]
   dsimp only
   rw [nr hi H.len]
  rw [hf,hg]
  exact OS.ok (Nat.le_succ _) (dh H hi h) (Nat.zero_le _)
 | false=>
  have hf:oA (yt l i)=l6 (yt l i) ey:=by unfold oA; rw [KU hi H.len h,aa,Bool.not_false,cond_true,e]
  rw [hf]
  refine OS.DO (F:=fun m (x:aC×List UInt8)=>tU m x.1 x.2) (G:=fun m x=>qR m x) ?_
  have hg: ∀ m,qR m (vt l i)=(cT (vt l i)).bind fun r1=>vS m r1.2 [r1.1]:=fun m=>by
   unfold qR
   rw [jA hi,aa,h,cond_false]
  simp only [hg]
  show OS QM l i (fun _ m=>(c8 (yt l i)).bind fun r1=>yN m r1.2 ey [r1.1]) _
  exact lf H hi (fun h1 _=>OS.mono (Be (fun m s acc=>yN m s ey acc) (fun m r acc=>vS m r acc) (fun i _ _ h acc acc'=>Rr ey i h acc acc') (fun i acc h2 h3 _=>adw H i acc h2 h3) l.length (i+1) [(ag l i).Text] (by omega) h1 (by simp) (fun _ _=>trivial)) (Nat.le_succ _)) fun v s v' r hb=>Rr ey i hb _ _
end
end
end Go.Sy.Ex
namespace Go.Sy.Ex
open Go.Sy
noncomputable section
section
variable {l:List ai} {i:Nat}
def QE (c:bL):Prop:=(c.Sets.length≤100000∧ ∀ x ∈ c.Sets,QM x)∧(c.um.length≤100000∧ ∀ x ∈ c.um,QM x)
abbrev y1 (m:Nat) (s:aC) (R:Int) (S M:List (List (List UInt8))) (A:Int):=zk m s.Row.L s.Row.At s.Row.av.Code s.Row.av.At 0 [] [] 0 R S M A
abbrev v1 (m:Nat) (r:aH) (R:Int) (S M:List (List (List UInt8))) (A:Int):=vL m r.l r.ah r.bad.Code r.bad.At 0 [] [] 0 R S M A
abbrev y2 (m:Nat) (s:aC) (R:Int) (S M:List (List (List UInt8))) (A:Int) (w:List (List UInt8)):=zl m s.Row.L s.Row.At s.Row.av.Code s.Row.av.At 0 [] [] 0 R S M A w
abbrev v2 (m:Nat) (r:aH) (R:Int) (S M:List (List (List UInt8))) (A:Int) (w:List (List UInt8)):=vO m r.l r.ah r.bad.Code r.bad.At 0 [] [] 0 R S M A w
theorem sA (n:Nat) (x:List (List UInt8)) (h:n≤100000):(n+ [x].length)*24≤140737488355328:=by simp only [List.length_singleton]; omega
theorem zX (i:Nat) {s:aC} {r:aH} (h:Bs s r) (R R':Int) (S S' M M':List (List (List UInt8))) (A A':Int):OS QE l i (fun _ m=>y1 m s R S M A) (fun _ m=>v1 m r R' S' M' A'):=OS.e9 (by
 have hf: ∀ m,y1 (m+1) s R S M A=some (bL.mk R S M A,s):=fun m=>by
  unfold y1; rw [zk.eq_2]
  show (eL s gV).bind _=_
  rw [rZ h.1,aa,cond_false]
  dsimp only
  rw [nA h.1,aa]
 have hg: ∀ m,v1 (m+1) r R' S' M' A'=some (bL.mk R' S' M' A',r):=fun m=>by
  unfold v1; rw [vL.eq_2]
  show (cD r gV).bind _=_
  rw [l_ h.r,aa,cond_false]
  dsimp only
  rw [mb h.r,aa]
 simp only [hf,hg]
 exact OS.no h)
theorem UU (i:Nat) {s:aC} {r:aH} (h:Bs s r) (R R':Int) (S S' M M':List (List (List UInt8))) (A A':Int) (w w':List (List UInt8)) (hM:M.length≤100000) (uY:M'.length≤100000):OS QE l i (fun _ m=>y2 m s R S M A w) (fun _ m=>v2 m r R' S' M' A' w'):=OS.e9 (by
 have hf: ∀ m,y2 (m+1) s R S M A w=y1 m s R S (M++ [w]) A:=fun m=>by
  unfold y2; rw [zl.eq_2]
  have e:lQ s=some (false,s):=by unfold lQ; rw [ue h.1,aa]; rfl
  show (lQ s).bind _=_
  rw [e,aa,cond_false]
  dsimp only
  rw [nA h.1,aa,if_pos (sA _ _ hM)]
 have hg: ∀ m,v2 (m+1) r R' S' M' A' w'=v1 m r R' S' (M'++ [w']) A':=fun m=>by
  unfold v2; rw [vO.eq_2]
  show (cP r).bind _=_
  rw [ld h.r,aa,cond_false]
  dsimp only
  rw [mb h.r,aa,if_pos (sA _ _ uY)]
 simp only [hf,hg]
 exact zX i h ..)
theorem ON (H:Ok l) (R:Int) (S:List (List (List UInt8))) (A:Int) (hS:S.length≤100000∧ ∀ x ∈ S,QM x): ∀ q,(∀ i M,l.length≤i+q→i<l.length→M.length≤i→(∀ x ∈ M,QM x)→OS QE l i (fun _ m=>y1 m (yt l i) R S M A) (fun _ m=>v1 m (vt l i) R S M A))∧
 (∀ i M w,l.length≤i+q→i<l.length→M.length+1≤i→(∀ x ∈ M,QM x)→w.length≤i→OS QE l i (fun _ m=>y2 m (yt l i) R S M A w) (fun _ m=>v2 m (vt l i) R S M A w))
 | 0=>⟨fun i _ hq hi=>by omega,fun i _ _ hq hi=>by omega⟩
 | q+1=>by
  obtain ⟨ih1,ih2⟩:=ON H R S A hS q
  have hl:=H.len
  refine ⟨fun i M hq hi hM hQ=>OS.e9 ?_,fun i M w hq hi hM hQ hw=>OS.e9 ?_⟩
  · have hf: ∀ m,y1 (m+1) (yt l i) R S M A=bif au (ag l i) gV then y2 m (yt l (i+1)) R S M A [] else (bQ (yt l i) fh).bind fun r=>some (bL.mk R S M A,r):=fun m=>by
     unfold y1; rw [zk.eq_2]
     show (eL (yt l i) gV).bind _=_
     rw [wJ hi H.len,aa]
     cases au (ag l i) gV <;> rfl
    have hg: ∀ m,v1 (m+1) (vt l i) R S M A=bif au (ag l i) gV then v2 m (vt l (i+1)) R S M A [] else (bO (vt l i) fh).bind fun r=>some (bL.mk R S M A,r):=fun m=>by
     unfold v1; rw [vL.eq_2]
     show (cD (vt l i) gV).bind _=_
     rw [jA hi,aa]
     dsimp only
     rw [show aj ((vt l i).ah+1)=((i+1:Nat):Int) from cO hi H.len]
     rfl
    simp only [hf,hg]
    cases h:au (ag l i) gV with
    | true=>
     simp only [cond_true]
     exact OS.mono (ih2 (i+1) M [] (by omega) (dh H hi h) (by omega) hQ (Nat.zero_le _)) (Nat.le_succ _)
    | false=>
     simp only [cond_false]
     exact gw H hi fh (fun h1 _=>OS.ok (Nat.le_succ _) h1 ⟨hS,show M.length≤100000 by omega,hQ⟩) fun s r hb=>OS.no hb
  · have hf: ∀ m,y2 (m+1) (yt l i) R S M A w=bif gp (ag l i) then (c8 (yt l i)).bind fun p=>y2 m p.2 R S M A (w++ [p.1]) else (bQ (yt l i) fY).bind fun r=>y1 m r R S (M++ [w]) A:=fun m=>by
     unfold y2; rw [zl.eq_2]
     show (lQ (yt l i)).bind _=_
     rw [KT hi,aa]
     simp only [if_pos (wT _ _ (show w.length≤100000 by omega)),if_pos (sA _ _ (show M.length≤100000 by omega))]
    have hg: ∀ m,v2 (m+1) (vt l i) R S M A w=bif au (ag l i) fY then (bO (vt l i) fY).bind fun r=>v1 m r R S (M++ [w]) A else (cT (vt l i)).bind fun p=>v2 m p.2 R S M A (w++ [p.1]):=fun m=>by
     unfold v2; rw [vO.eq_2]
     show (cP (vt l i)).bind _=_
     rw [jB,aa,cond_true]
     dsimp only
     rw [jA hi,aa]
     simp only [if_pos (wT _ _ (show w.length≤100000 by omega)),if_pos (sA _ _ (show M.length≤100000 by omega))]
     cases au (ag l i) fY <;> rfl
    simp only [hf,hg]
    cases h:gp (ag l i) with
    | true=>
     have hk:(ag l i).Kind=1:=by unfold gp at h; rw [Bool.and_eq_true,decide_eq_true_eq] at h; exact h.1
     have H9:au (ag l i) fY=false:=by
      cases e:au (ag l i) fY with
      | false=>rfl
      | true=>
       exfalso
       have :=(of_decide_eq_true e).2
       exact (H.word i hk).2 this
     simp only [H9,cond_true,cond_false]
     refine lf H hi (fun h1 _=>OS.mono (ih2 (i+1) M _ (by omega) h1 (by omega) hQ (by simp; omega)) (Nat.le_succ _)) fun v s v' r hb=>UU i hb _ _ _ _ _ _ _ _ _ _ (by omega) (by omega)
    | false=>
     simp only [cond_false]
     cases h2:au (ag l i) fY with
     | true=>
      simp only [cond_true]
      refine gw H hi fY (fun h1 _=>OS.mono (ih1 (i+1) _ (by omega) h1 (by simp; omega) fun x hx=> ?_) (Nat.le_succ _)) fun s r hb=>zX i hb ..
      rcases List.mem_append.1 hx with hx | hx
      · exact hQ x hx
      · rw [List.mem_singleton.1 hx]; exact (show w.length≤100000 by omega)
     | false=>
      simp only [cond_false,F3 hi H.len h2,SH hi h,aa]
      have hb:=Bs.mk l i
      refine OS.shift 0 1 ?_
      have hv: ∀ m,v2 (m+1) (vb l i) R S M A (w++ [[]])=v1 m (vb l i) R S (M++ [w++ [[]]]) A:=fun m=>by
       unfold v2; rw [vO.eq_2]
       show (cP (vb l i)).bind _=_
       rw [ld hb.r,aa,cond_false]
       dsimp only
       rw [mb hb.r,aa,if_pos (sA _ _ (show M.length≤100000 by omega))]
      show OS QE l i (fun k m=>y1 m (yb l i) R S (M++ [w]) A) (fun k m=>v2 (m+1) (vb l i) R S M A (w++ [[]]))
      simp only [hv]
      exact zX i hb ..
abbrev y3 (m:Nat) (s:aC) (R:Int) (S:List (List (List UInt8))) (A:Int):=(eL s ec).bind fun r=>rM m r.2.Row.L r.2.Row.At r.2.Row.av.Code r.2.Row.av.At 0 [] [] 0 R S [] A r.1
abbrev v3 (m:Nat) (r:aH) (R:Int) (S:List (List (List UInt8))) (A:Int):=ye m r.l r.ah r.bad.Code r.bad.At 0 [] [] 0 R S [] A
theorem S2 (m:Nat) (s:aC) (R:Int) (S:List (List (List UInt8))) (A:Int) (hS:S.length≤100000):rM (m+1) s.Row.L s.Row.At s.Row.av.Code s.Row.av.At 0 [] [] 0 R S [] A true=(oA s).bind fun p=>y3 m p.2 R (S++ [p.1]) A:=by
 rw [rM.eq_2,cond_true]
 show (eL s tM).bind _=_
 unfold oA
 rw [Option.bind_assoc]
 congr 1; funext r4
 cases r4.1 with
 | true=>
  rw [Bool.not_true,cond_false,cond_false,aa,if_pos (sA _ [] hS)]
 | false=>
  rw [Bool.not_false,cond_true,cond_true,Option.bind_assoc]
  congr 1; funext r5
  rw [aa,if_pos (sA _ _ hS)]
theorem S1 (m:Nat) (s:aC) (R:Int) (S:List (List (List UInt8))) (A:Int):rM (m+1) s.Row.L s.Row.At s.Row.av.Code s.Row.av.At 0 [] [] 0 R S [] A false=(bQ s bD).bind fun r=>y1 m r R S [] A:=by
 rw [rM.eq_2,cond_false]
theorem GM (i:Nat) {s:aC} {r:aH} (h:Bs s r) (R R':Int) (S S':List (List (List UInt8))) (A A':Int):OS QE l i (fun _ m=>y3 m s R S A) (fun _ m=>v3 m r R' S' A'):=OS.e9 (by
 have hf: ∀ m,y3 (m+1) s R S A=y1 m s R S [] A:=fun m=>by
  unfold y3
  rw [rZ h.1,aa]
  dsimp only
  rw [S1,nA h.1,aa]
 have hg: ∀ m,v3 (m+1) r R' S' A'=v1 m r R' S' [] A':=fun m=>by
  unfold v3; rw [ye.eq_2]
  show (cD r ec).bind _=_
  rw [l_ h.r,aa,cond_false]
  dsimp only
  rw [mb h.r,aa]
 simp only [hf,hg]
 exact zX i h ..)
theorem adx (H:Ok l) (R:Int) (A:Int) (i:Nat) (S:List (List (List UInt8))) (hi:i<l.length) (hS:S.length≤i) (hQ: ∀ x ∈ S,QM x):OS QE l i (fun _ m=>y3 m (yt l i) R S A) (fun _ m=>v3 m (vt l i) R S A):=by
 refine Be (QA:=QM) (Q':=QE) (fun m s S=>y3 m s R S A) (fun m r S=>v3 m r R S A) (fun i _ _ h acc acc'=>GM i h ..) (fun i S hi hS hQ=> ?_) l.length i S (by omega) hi hS hQ
 have hl:=H.len
 have hg: ∀ m,v3 (m+1) (vt l i) R S A=bif au (ag l i) ec then (pI (vt l (i+1))).bind fun p=>v3 m p.2 R (S++ [p.1]) A else (bO (vt l i) bD).bind fun r=>v1 m r R S [] A:=fun m=>by
  unfold v3; rw [ye.eq_2]
  show (cD (vt l i) ec).bind _=_
  rw [jA hi,aa]
  dsimp only
  rw [nr hi H.len]
  simp only [if_pos (sA _ _ (show S.length≤100000 by omega))]
 cases h:au (ag l i) ec with
 | true=>
  refine .inr ⟨1,1,_,_,Ru H (dh H hi h),fun k m=> ?_,fun k m=> ?_⟩
  · show y3 (m+1) (yt l i) R S A=_
    unfold y3
    rw [KV hi H.len h,aa]
    dsimp only
    rw [S2 _ _ _ _ _ (show S.length≤100000 by omega)]
  · show v3 (m+1) (vt l i) R S A=_
    rw [hg,h,cond_true]
 | false=>
  refine .inl (OS.e9 ?_)
  have hf: ∀ m,y3 (m+1) (yt l i) R S A=(bQ (yt l i) bD).bind fun r=>y1 m r R S [] A:=fun m=>by
   unfold y3
   rw [KU hi H.len h,aa]
   dsimp only
   rw [S1]
  simp only [hf,hg,h,cond_false]
  exact gw H hi bD (fun h1 _=>OS.mono ((ON H R S A ⟨by omega,hQ⟩ l.length).1 (i+1) [] (by omega) h1 (Nat.zero_le _) (fun x hx=>by cases hx)) (Nat.le_succ _)) fun s r hb=>zX i hb ..
theorem U2 (H:Ok l) (hi:i<l.length) (h:au (ag l i) ju=true):OS QE l (i+1) (fun _ _=>Cn (yt l i)) (fun _ _=>BG (vt l i)):=by
 refine OS.DO (F:=fun m x=>zj m x) (G:=fun m x=>yd m x) (OS.shift 1 0 ?_)
 have hf: ∀ m,zj (m+1) (yt l i)=(iF (yt l (i+1))).bind fun r2=>(bQ r2.2 ew).bind fun r3=>(oA r3).bind fun p=>y3 m p.2 r2.1 [p.1] (ag l i).At:=fun m=>by
  unfold zj l7
  rw [mo hi,aa]
  dsimp only
  rw [oB hi H.len h,aa,Option.bind_assoc]
  congr 1; funext r2
  rw [aa]
  congr 1; funext r3
  exact S2 m r3 r2.1 [] (ag l i).At (Nat.zero_le _)
 have hg: ∀ m,yd m (vt l i)=(gu (vt l (i+1))).bind fun r2=>(bO r2.2 ew).bind fun r3=>(pI r3).bind fun p=>v3 m p.2 r2.1 [p.1] (ag l i).At:=fun m=>by
  unfold yd
  rw [Dt hi,aa]
  dsimp only
  rw [nr hi H.len]
  congr 1
 show OS QE l (i+1) (fun _ m=>zj (m+1) (yt l i)) (fun _ m=>yd m (vt l i))
 simp only [hf,hg]
 have X5: ∀ {s:aC} {r:aH},Bs s r→oA s=some ((bif false then [] else [[]]),s)∧ ∃ w,pI r=some (w,r):=fun {s r} hb=>by
  constructor
  · unfold oA
    rw [rZ hb.1,aa,Bool.not_false,cond_true]
    have :l6 s ey=some ([[]],s):=br 1 fun k hk=>by
     obtain ⟨k,rfl⟩: ∃ j,k=j+1:=⟨k - 1,by omega⟩
     show tU (k+1) s ey=_
     unfold tU
     rw [CA hb.1,aa,pW.eq_2]
     show (eL s ey).bind _=_
     rw [rZ hb.1,aa]; rfl
    rw [this,aa]; rfl
  · refine ⟨[[]],br 1 fun k hk=> ?_⟩
    obtain ⟨k,rfl⟩: ∃ j,k=j+1:=⟨k - 1,by omega⟩
    show qR (k+1) r=_
    unfold qR
    rw [l_ hb.r,aa,cond_false]
    dsimp only
    rw [Cv hb.r,aa,vX.eq_2]
    show (cD r ey).bind _=_
    rw [l_ hb.r,aa]; rfl
 have fin: ∀ (i:Nat) {s:aC} {r:aH},Bs s r→ ∀ R R' A,OS QE l i (fun _ m=>(oA s).bind fun p=>y3 m p.2 R [p.1] A) (fun _ m=>(pI r).bind fun p=>v3 m p.2 R' [p.1] A):=fun i s r hb R R' A=>by
  obtain ⟨h1,w,h2⟩:=X5 hb
  simp only [h1,h2,aa]
  exact GM i hb ..
 refine zz H (dh H hi h) (fun h2 _=>OS.mono (gw H h2 ew (fun h3 _=>OS.mono (OS.bind (Ru H h3) (fun v j g1 g2 g3=>OS.mono (adx H _ _ j [v] g2 (by simp; omega) (fun x hx=>by rw [List.mem_singleton.1 hx]; exact g3)) g1) fun v s v' r hb=>GM _ hb ..) (Nat.le_succ _)) fun s r hb=> ?_) (Nat.le_succ _)) fun v s v' r hb=> ?_
 · exact fin _ hb _ _ _
 · simp only [nA hb.1,mb hb.r,aa]
   exact fin _ hb _ _ _
end
end
end Go.Sy.Ex
namespace Go.Sy.Ex
open Go.Sy
noncomputable section
section
variable {l:List ai} {i:Nat}
def yM (l:List ai) (i:Nat):aC:=⟨⟨l,(i:Int),⟨15,(ag l i).At⟩⟩⟩
def vM (l:List ai) (i:Nat):aH:=⟨l,(i:Int),⟨15,(ag l i).At⟩⟩
theorem Bs.many (l:List ai) (i:Nat):Bs (yM l i) (vM l i):=⟨by show (15:Int)≠0; decide,rfl⟩
theorem qG (hi:i<l.length) (w:List UInt8) (n most:Int):fF (yt l i) w n most=bif au (ag l i) w then (if n=most then some (false,yM l i) else some (true,yt l i)) else some (false,yt l i):=by
 unfold fF
 rw [F0 hi,aa]
 dsimp only
 cases h:au (ag l i) w with
 | false=>rw [cond_false,cond_false,F0 hi,aa,h]
 | true=>
  rw [cond_true,cond_true]
  by_cases e:n=most
  · rw [if_pos e,if_pos e,mo hi,aa]
    dsimp only
    have hF:jo (yt l i) 15 (ag l i).At=some (yM l i):=by
     unfold jo
     rw [CB,aa]; rfl
    rw [hF,aa,FZ (Bs.many l i).1,aa]
  · rw [if_neg e,if_neg e,F0 hi,aa,h]
theorem qF {s:aC} (h:s.Row.av.Code≠0) (w:List UInt8) (n most:Int):fF s w n most=some (false,s):=by
 unfold fF
 rw [FZ h,aa,cond_false,FZ h,aa]
theorem xH (hi:i<l.length) (n most:Int):pH (vt l i) n most=if n=most then some (true,vM l i) else some (false,vt l i):=by
 unfold pH
 rw [jB,aa,cond_true]
 by_cases e:n=most
 · rw [if_pos e,if_pos e,if_pos (show 0≤(vt l i).ah by show 0≤((i:Nat):Int); omega),if_pos (show (vt l i).ah<((vt l i).l.length:Int) by show ((i:Nat):Int)<(l.length:Int); omega)]
   have :aH.mk (vt l i).l (vt l i).ah (az.mk 15 ((vt l i).l.getD (vt l i).ah.toNat ai.z).At)=vM l i:=by
    show (⟨l,(i:Int),⟨15,(l.getD ((i:Nat):Int).toNat ai.z).At⟩⟩:aH)=_
    rw [Int.toNat_natCast]; rfl
   rw [this,ld (Bs.many l i).r,aa]; rfl
 · rw [if_neg e,if_neg e,jB,aa]; rfl
def QF (c:a_):Prop:=c.Insts.length≤100000∧c.eg.length≤100000∧c.Cells.length≤100000∧ ∀ x ∈ c.Cells,QE x
abbrev yC (m:Nat) (s:aC) (N I Rq Rs:List UInt8) (L C:List (List UInt8)) (E:List bL) (A:Int):=wE m s.Row.L s.Row.At s.Row.av.Code s.Row.av.At [] [] [] [] [] [] [] 0 N I Rq Rs L C E A
abbrev vC (m:Nat) (r:aH) (N I Rq Rs:List UInt8) (L C:List (List UInt8)) (E:List bL) (A:Int):=vP m r.l r.ah r.bad.Code r.bad.At [] [] [] [] [] [] [] 0 N I Rq Rs L C E A
theorem CG (i:Nat) {s:aC} {r:aH} (h:Bs s r) (N I Rq Rs N' I' zL zM:List UInt8) (L C L' C':List (List UInt8)) (E E':List bL) (A A':Int):OS QF l i (fun _ m=>yC m s N I Rq Rs L C E A) (fun _ m=>vC m r N' I' zL zM L' C' E' A'):=OS.e9 (by
 have hf: ∀ m,yC (m+1) s N I Rq Rs L C E A=some (a_.mk N I Rq Rs L C E A,s):=fun m=>by
  unfold yC; rw [wE.eq_2]
  show (fF s ju _ 64).bind _=_
  rw [qF h.1,aa,cond_false]
  dsimp only
  rw [nA h.1,aa]
 have hg: ∀ m,vC (m+1) r N' I' zL zM L' C' E' A'=some (a_.mk N' I' zL zM L' C' E' A',r):=fun m=>by
  unfold vC; rw [vP.eq_2]
  show (cD r ju).bind _=_
  rw [l_ h.r,aa,cond_false]
  dsimp only
  rw [mb h.r,aa]
 simp only [hf,hg]
 exact OS.no h)
theorem LA (n:Nat) {α:Type} (x:α) (h:n≤100000):(n+ [x].length)*64≤140737488355328:=by simp only [List.length_singleton]; omega
theorem L2 (H:Ok l) (N I Rq Rs:List UInt8) (L C:List (List UInt8)) (A:Int) (hL:L.length≤100000) (hC:C.length≤100000) (i:Nat) (hi:i<l.length):OS QF l i (fun _ m=>yC m (yt l i) N I Rq Rs L C [] A) (fun _ m=>vC m (vt l i) N I Rq Rs L C [] A):=by
 have hl:=H.len
 refine Be (QA:=QE) (Q':=QF) (fun m s E=>yC m s N I Rq Rs L C E A) (fun m r E=>vC m r N I Rq Rs L C E A) (fun i _ _ h acc acc'=>CG i h ..) (fun i E hi hE hQ=> ?_) l.length i [] (by omega) hi (Nat.zero_le _) (fun x hx=>by cases hx)
 have hf: ∀ m,yC (m+1) (yt l i) N I Rq Rs L C E A=bif au (ag l i) ju then (if (E.length:Int)=64 then (bQ (yM l i) fh).bind fun r=>some (a_.mk N I Rq Rs L C E A,r) else (Cn (yt l i)).bind fun p=>yC m p.2 N I Rq Rs L C (E++ [p.1]) A) else (bQ (yt l i) fh).bind fun r=>some (a_.mk N I Rq Rs L C E A,r):=fun m=>by
  unfold yC; rw [wE.eq_2]
  show (fF (yt l i) ju _ 64).bind _=_
  rw [qG hi]
  simp only [if_pos (LA _ _ (show E.length≤100000 by omega))]
  cases au (ag l i) ju with
  | false=>rfl
  | true=>
   rw [cond_true,cond_true]
   by_cases e:(E.length:Int)=64
   · rw [if_pos e,if_pos e]; rfl
   · rw [if_neg e,if_neg e]; rfl
 have hg: ∀ m,vC (m+1) (vt l i) N I Rq Rs L C E A=bif au (ag l i) ju then (if (E.length:Int)=64 then (bO (vM l i) fh).bind fun r=>some (a_.mk N I Rq Rs L C E A,r) else (BG (vt l i)).bind fun p=>vC m p.2 N I Rq Rs L C (E++ [p.1]) A) else (bO (vt l i) fh).bind fun r=>some (a_.mk N I Rq Rs L C E A,r):=fun m=>by
  unfold vC; rw [vP.eq_2]
  show (cD (vt l i) ju).bind _=_
  rw [jA hi,aa]
  simp only [if_pos (LA _ _ (show E.length≤100000 by omega))]
  cases au (ag l i) ju with
  | false=>rfl
  | true=>
   rw [cond_true,cond_true,xH hi]
   by_cases e:(E.length:Int)=64
   · rw [if_pos e,if_pos e]; rfl
   · rw [if_neg e,if_neg e]; rfl
 cases h:au (ag l i) ju with
 | false=>
  refine .inl (OS.e9 ?_)
  simp only [hf,hg,h,cond_false]
  exact gw H hi fh (fun h1 _=>OS.ok (Nat.le_succ _) h1 ⟨hL,hC,show E.length≤100000 by omega,hQ⟩) fun s r hb=>OS.no hb
 | true=>
  by_cases e:(E.length:Int)=64
  · refine .inl (OS.e9 ?_)
    have hb:=Bs.many l i
    simp only [hf,hg,h,cond_true,if_pos e,nA hb.1,mb hb.r,aa]
    exact OS.no hb
  · refine .inr ⟨1,1,_,_,U2 H hi h,fun k m=> ?_,fun k m=> ?_⟩
    · show yC (m+1) (yt l i) N I Rq Rs L C E A=_
      rw [hf,h,cond_true,if_neg e]
    · show vC (m+1) (vt l i) N I Rq Rs L C E A=_
      rw [hg,h,cond_true,if_neg e]
theorem Zo {s:aC} {r:aH} (hb:Bs s r):l6 s ec=some ([[]],s)∧tq r=some ([[]],r):=by
 constructor
 · exact br 1 fun k hk=>by
    obtain ⟨k,rfl⟩: ∃ j,k=j+1:=⟨k - 1,by omega⟩
    show tU (k+1) s ec=_
    unfold tU
    rw [CA hb.1,aa,pW.eq_2]
    show (eL s ec).bind _=_
    rw [rZ hb.1,aa]; rfl
 · exact br 1 fun k hk=>by
    obtain ⟨k,rfl⟩: ∃ j,k=j+1:=⟨k - 1,by omega⟩
    show BL (k+1) r=_
    unfold BL
    rw [Cv hb.r,aa,vV.eq_2]
    show (cD r ec).bind _=_
    rw [l_ hb.r,aa]; rfl
def yD (m:Nat) (s:aC) (N I Rq Rs:List UInt8) (L:List (List UInt8)) (A:Int):=(eL s rq).bind fun aJ=>bif aJ.1 then (l6 aJ.2 ec).bind fun bu=>(bQ bu.2 bD).bind fun bg=>yC m bg N I Rq Rs L bu.1 [] A else yC m aJ.2 N I Rq Rs L [] [] A
def vD (m:Nat) (r:aH) (N I Rq Rs:List UInt8) (L:List (List UInt8)) (A:Int):=(cD r rq).bind fun bp=>bif bp.1 then (tq (aH.mk bp.2.l (aj (bp.2.ah+1)) bp.2.bad)).bind fun bC=>(bO bC.2 bD).bind fun dN=>vC m dN N I Rq Rs L bC.1 [] A else vC m bp.2 N I Rq Rs L [] [] A
theorem KY (i:Nat) {s:aC} {r:aH} (h:Bs s r) (N I Rq Rs N' I' zL zM:List UInt8) (L L':List (List UInt8)) (A A':Int):OS QF l i (fun _ m=>yD m s N I Rq Rs L A) (fun _ m=>vD m r N' I' zL zM L' A'):=by
 unfold yD vD
 simp only [rZ h.1,l_ h.r,aa,cond_false]
 exact CG i h ..
theorem S8 (H:Ok l) (N I Rq Rs:List UInt8) (L:List (List UInt8)) (A:Int) (hL:L.length≤100000) (i:Nat) (hi:i<l.length):OS QF l i (fun _ m=>yD m (yt l i) N I Rq Rs L A) (fun _ m=>vD m (vt l i) N I Rq Rs L A):=by
 unfold yD vD
 cases h:au (ag l i) rq with
 | false=>
  simp only [KU hi H.len h,jA hi,h,aa,cond_false]
  exact L2 H N I Rq Rs L [] A hL (Nat.zero_le _) i hi
 | true=>
  simp only [KV hi H.len h,jA hi,h,aa,cond_true,nr hi H.len]
  refine OS.mono (OS.bind (OU H (dh H hi h)) (fun v j g1 g2 g3=> ?_) fun v s v' r hb=> ?_) (Nat.le_succ _)
  · exact OS.mono (gw H g2 bD (fun h1 _=>OS.mono (L2 H N I Rq Rs L v A hL g3 (j+1) h1) (Nat.le_succ _)) fun s r hb=>CG _ hb ..) g1
  · simp only [nA hb.1,mb hb.r,aa]
    exact CG _ hb ..
theorem U5 (H:Ok l) (hi:i<l.length) (h:au (ag l i) ij=true):OS QF l (i+1) (fun _ _=>Co (yt l i)) (fun _ _=>BH (vt l i)):=by
 refine OS.DO (F:=fun m x=>Cp m x) (G:=fun m x=>BI m x) ?_
 have hf: ∀ m,Cp m (yt l i)=(c8 (yt l (i+1))).bind fun r3=>(bQ r3.2 ko).bind fun r4=>(c8 r4).bind fun a1=>(bQ a1.2 ru).bind fun a2=>(c8 a2).bind fun a3=>(bQ a3.2 eN).bind fun a4=>(c8 a4).bind fun a5=>(bQ a5.2 ew).bind fun r6=>(bQ r6 rC).bind fun r7=>(l6 r7 ec).bind fun r8=>(bQ r8.2 bD).bind fun r9=>yD m r9 r3.1 a1.1 a3.1 a5.1 r8.1 (ag l i).At:=fun m=>by
  unfold Cp wH
  rw [mo hi,aa]
  dsimp only
  rw [oB hi H.len h,aa]
  simp only [Option.bind_assoc,aa]
  rfl
 have hg: ∀ m,BI m (vt l i)=(cT (vt l (i+1))).bind fun r3=>(bO r3.2 ko).bind fun r4=>(cT r4).bind fun a1=>(bO a1.2 ru).bind fun a2=>(cT a2).bind fun a3=>(bO a3.2 eN).bind fun a4=>(cT a4).bind fun a5=>(bO a5.2 ew).bind fun r6=>(bO r6 rC).bind fun r7=>(tq r7).bind fun r8=>(bO r8.2 bD).bind fun r9=>vD m r9 r3.1 a1.1 a3.1 a5.1 r8.1 (ag l i).At:=fun m=>by
  unfold BI
  rw [Dt hi,aa]
  dsimp only
  rw [nr hi H.len]
  rfl
 simp only [hf,hg]
 refine lf H (dh H hi h) (fun h1 _=>OS.mono (gw H h1 ko (fun h2 _=>OS.mono (lf H h2 (fun h3 _=>OS.mono (gw H h3 ru (fun h4 _=>OS.mono (lf H h4 (fun h5 _=>OS.mono (gw H h5 eN (fun h6 _=>OS.mono (lf H h6 (fun h7 _=>OS.mono (gw H h7 ew (fun h8 _=>OS.mono (gw H h8 rC (fun h9 _=>OS.mono (OS.bind (OU H h9) (fun v j g1 g2 g3=>OS.mono (gw H g2 bD (fun h10 _=>OS.mono (S8 H _ _ _ _ v _ g3 _ h10) (Nat.le_succ _)) fun s r hb=>KY _ hb ..) g1) fun v s v' r hb=> ?_) (Nat.le_succ _)) fun s r hb=> ?_) (Nat.le_succ _)) fun s r hb=> ?_) (Nat.le_succ _)) fun v s v' r hb=> ?_) (Nat.le_succ _)) fun s r hb=> ?_) (Nat.le_succ _)) fun v s v' r hb=> ?_) (Nat.le_succ _)) fun s r hb=> ?_) (Nat.le_succ _)) fun v s v' r hb=> ?_) (Nat.le_succ _)) fun s r hb=> ?_) (Nat.le_succ _)) fun v s v' r hb=> ?_
 all_goals
  obtain ⟨e1,e2⟩:=Zo hb
  simp only [nA hb.1,CA hb.1,F1 hb.1,mb hb.r,Cv hb.r,FT hb.r,e1,e2,aa]
  exact KY _ hb ..
end
end
end Go.Sy.Ex
