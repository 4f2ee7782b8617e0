import Derived.Lib.ItoaMem
import Derived.Lib.ParseIntB
import Derived.Test.YtaedejmdommaeaaGreatDoorLChartReadsa
set_option linter.unusedVariables false
set_option linter.unusedSimpArgs false
namespace Go.Sy.Ex
open Go.Sy
theorem ym (d:Nat) (h:d<10):(UInt8.ofNat (48+d)).toNat=48+d:=by
 have : ∀ d,d<10→(UInt8.ofNat (48+d)).toNat=48+d:=by decide+kernel
 exact this d h
theorem o8 {u:Nat} (h:u<10):Lib.decDigits u= [UInt8.ofNat (48+u)]:=by rw [Lib.decDigits,dif_pos h]
theorem A7 {u:Nat} (h: ¬ u<10):Lib.decDigits u=Lib.decDigits (u / 10)++ [UInt8.ofNat (48+u % 10)]:=by rw [Lib.decDigits,dif_neg h]
theorem J3: ∀ (n u:Nat),u≤n→ ∀ c ∈ Lib.decDigits u,48≤c.toNat∧c.toNat≤57:=by
 intro n
 induction n with
 | zero=>
  intro u h c hc
  have :u=0:=by omega
  subst this
  rw [o8 (by decide),List.mem_singleton] at hc
  subst hc; decide
 | succ n ih=>
  intro u h c hc
  by_cases hs:u<10
  · rw [o8 hs,List.mem_singleton] at hc
    subst hc; rw [ym u hs]; omega
  · rw [A7 hs,List.mem_append,List.mem_singleton] at hc
    rcases hc with hc | rfl
    · exact ih (u / 10) (by omega) c hc
    · rw [ym _ (by omega)]; omega
theorem A8: ∀ u,Lib.decDigits u≠ []:=fun u=>by
 by_cases hs:u<10
 · rw [o8 hs]; simp
 · rw [A7 hs]; simp
theorem Xq: ∀ (l:List UInt8) (acc a:Nat) (c:UInt8),Lib.parseUintM (2 ^ 64 - 1) acc l= .ok a→Lib.parseUintM (2 ^ 64 - 1) acc (l++ [c])=Lib.parseUintM (2 ^ 64 - 1) a [c]:=by
 intro l
 induction l with
 | nil=>intro acc a c h; cases h; rfl
 | cons b l ih=>
  intro acc a c h
  rw [List.cons_append]
  unfold Lib.parseUintM at h ⊢
  split at h
  · rename_i hb
    rw [if_pos hb]
    split at h
    · cases h
    · rename_i h1
      rw [if_neg h1]
      split at h
      · cases h
      · rename_i h2
        rw [if_neg h2]
        have :=ih _ _ c h
        rw [this]
        rfl
  · cases h
theorem MU: ∀ (n u:Nat),u≤n→u≤9223372036854775808→Lib.parseUintM (2 ^ 64 - 1) 0 (Lib.decDigits u)= .ok u:=by
 intro n
 induction n with
 | zero=>
  intro u h hu
  have :u=0:=by omega
  subst this
  rw [o8 (by decide)]
  rfl
 | succ n ih=>
  intro u h hu
  by_cases hs:u<10
  · rw [o8 hs]
    unfold Lib.parseUintM
    rw [ym u hs,if_pos (by omega),if_neg (by omega),if_neg (by omega)]
    unfold Lib.parseUintM
    congr 1; omega
  · rw [A7 hs,Xq _ _ _ _ (ih (u / 10) (by omega) (by omega))]
    unfold Lib.parseUintM
    rw [ym _ (by omega),if_pos (by omega),if_neg (by omega),if_neg (by omega)]
    unfold Lib.parseUintM
    congr 1; omega
theorem Xr (v:Int) (h0: -9223372036854775808≤v) (h1:v≤9223372036854775807):Lib.parseIntB 64 (Lib.itoa v)= .ok v:=by
 unfold Lib.itoa
 by_cases hv:v<0
 · rw [if_pos hv]
   have hu:v.natAbs≤9223372036854775808:=by omega
   unfold Lib.parseIntB Lib.parseUintB
   simp only []
   have hif:(if (45:UInt8).toNat=43∨(45:UInt8).toNat=45 then Lib.decDigits v.natAbs else 45::Lib.decDigits v.natAbs)=Lib.decDigits v.natAbs:=if_pos (.inr rfl)
   rw [hif,if_neg (A8 _),MU _ _ (Nat.le_refl _) hu]
   have h45:(45:UInt8).toNat=45:=rfl
   simp only [h45,not_true_eq_false,false_and,if_false,true_and,if_true]
   rw [if_neg (by omega)]
   congr 1; omega
 · rw [if_neg hv]
   have hu:v.toNat≤9223372036854775807:=by omega
   have hne:=A8 v.toNat
   obtain ⟨c,r,Bp⟩: ∃ c r,Lib.decDigits v.toNat=c::r:=by
    cases hd:Lib.decDigits v.toNat with
    | nil=>exact absurd hd hne
    | cons c r=>exact ⟨c,r,rfl⟩
   have hc:=J3 _ _ (Nat.le_refl v.toNat) c (by rw [Bp]; simp)
   have hp:=MU _ _ (Nat.le_refl v.toNat) (by omega)
   rw [Bp] at hp ⊢
   unfold Lib.parseIntB Lib.parseUintB
   simp only []
   rw [if_neg (show ¬ (c.toNat=43∨c.toNat=45) by omega),if_neg (by simp),hp]
   simp only [show ¬ c.toNat=45 by omega,not_false_eq_true,true_and,false_and,if_false]
   rw [if_neg (by omega)]
   congr 1; omega
theorem J4: ∀ (n u:Nat),u≤n→1≤u→(Lib.decDigits u).getD 0 0≠48
 | 0,u,h,h1=>by omega
 | n+1,u,h,h1=>by
  by_cases h10:u<10
  · rw [o8 h10]
    show UInt8.ofNat (48+u)≠48
    intro e
    have :=ym u h10
    rw [e] at this
    have h48:(48:UInt8).toNat=48:=rfl
    omega
  · rw [A7 h10]
    have :=J4 n (u / 10) (by omega) (by omega)
    have hne:=A8 (u / 10)
    cases hd:Lib.decDigits (u / 10) with
    | nil=>exact absurd hd hne
    | cons c l=>rw [hd] at this; exact this
theorem zf {n:Int} (h:0≤n):Lib.itoa n=Lib.decDigits n.toNat:=by unfold Lib.itoa; rw [if_neg (by omega)]
theorem BE {n:Int} (h:0≤n): ∀ c ∈ Lib.itoa n,dg c=true:=fun c hc=>by
 rw [zf h] at hc
 exact (yl c).2 (J3 n.toNat n.toNat (Nat.le_refl _) c hc)
theorem Ge {n:Int} (h:0≤n):Lib.itoa n≠ []:=by rw [zf h]; exact A8 _
theorem V3 {n:Int} (h:0≤n) (h1:n≤9223372036854775807):n7 (Lib.itoa n)=(n,0):=by
 rw [← MI _ (Ge h) (BE h)]
 unfold numOf
 rw [if_neg,Xr n (by omega) h1]
 rintro ⟨h2,h3⟩
 rw [zf h] at h2 h3
 by_cases h0:n.toNat<10
 · rw [o8 h0] at h2; simp at h2
 · exact J4 n.toNat n.toNat (Nat.le_refl _) (by omega) h3
theorem Pq (p:UInt8→Bool) (l:List UInt8) (h: ∀ c ∈ l,p c=true):l.takeWhile p=l:=by
 induction l with
 | nil=>rfl
 | cons a l ih=>rw [List.takeWhile_cons_of_pos (h a (by simp)),ih fun c hc=>h c (by simp [hc])]
theorem W5 {b:UInt8} (h:nm b=true):nX b=false:=by
 have :=(W9 (b:=b) (by simpa [nm] using h)).1
 exact decide_eq_false this
theorem OV {s:List UInt8} (h: ∀ c ∈ s,nm c=true):gH s=s:=by
 cases s with
 | nil=>rfl
 | cons a l=>unfold gH; rw [List.dropWhile_cons_of_neg (by simp [W5 (h a (by simp))])]
theorem Lx.one {s:List UInt8} {tk:Tk} (h0:s≠ []) (hs:gH s=s) (hh:nW s=some (tk,s.length)):Lx s [tk]:=fun n=>by
 have :=g_.cons (n:=n) (L:= []) hs h0 hh (by rw [List.drop_length]; exact .nil rfl)
 exact ⟨_,this,rfl⟩
theorem Lx.num {n:Int} (h:0≤n) (h1:n≤9223372036854775807):Lx (Lib.itoa n) [(2,Lib.itoa n,n)]:=by
 refine Lx.one (Ge h) (OV fun c hc=>by simp [nm,BE h c hc]) ?_
 have yZ:=Pq dg _ (BE h)
 have hn:=V3 h h1
 cases hi:Lib.itoa n with
 | nil=>exact absurd hi (Ge h)
 | cons a l=>
  rw [hi] at yZ hn
  rw [vG,if_pos (BE h a (by rw [hi]; simp)),yZ,hn]
  rfl
theorem W4 {s:List UInt8} (h:mP s=true):s≠ []∧s.length≤24∧er s=false∧lt (s.getD 0 0)=true∧ ∀ c ∈ s,nm c=true:=by
 unfold mP at h
 simp only [Bool.and_eq_true,decide_eq_true_eq,Bool.not_eq_true',List.all_eq_true] at h
 obtain ⟨⟨⟨⟨h1,h2⟩,h3⟩,h4⟩,h5⟩:=h
 exact ⟨h1,h2,h3,h4,h5⟩
theorem Lx.word {s:List UInt8} (h0:s≠ []) (h1:s.length≤24) (h2:lt (s.getD 0 0)=true) (h3: ∀ c ∈ s,nm c=true):Lx s [(1,s,0)]:=by
 refine Lx.one h0 (OV h3) ?_
 have yZ:=Pq nm _ h3
 cases hs:s with
 | nil=>exact absurd hs h0
 | cons a l=>
  rw [hs] at yZ h2 h1
  have h2:lt a=true:=h2
  rw [vG,if_neg (by rw [J7 _ h2]; simp),if_pos h2,yZ,if_neg (by omega)]
theorem Lx.name {s:List UInt8} (h:mP s=true):Lx s [(1,s,0)]:=by
 obtain ⟨h1,h2,_,h4,h5⟩:=W4 h
 exact Lx.word h1 h2 h4 h5
end Go.Sy.Ex
namespace Go.Sy.Ex
open Go.Sy
inductive T where
 | num (n:Int) | var (s:List UInt8) | arg | zd (s:List UInt8) | un (k:Int) (t:T) | bin (k:Int) (a b:T)
def T.kind:T→Int
 | .num _=>1 | .var _=>2 | .arg=>3 | .zd _=>4 | .un k _=>k | .bin k _ _=>k
def lvl (k:Int):Int:=if k=19 then 1 else if k=18 then 2 else if 12≤k∧k≤17 then 3 else if k=10∨k=11 then 4 else if 7≤k∧k≤9 then 5 else if k=5∨k=6 then 6 else 7
def BP (k:Int):Int:=if lvl k=3 then 4 else lvl k
def CP (k:Int):Int:=if lvl k=3 then 4 else lvl k+1
abbrev xh:List (List UInt8×Int×Int):= [(gB,19,1),(gz,18,2),(qi,12,3),(gE,13,3),(qh,14,3),(gD,15,3),(gC,16,3),(gA,17,3),(qk,10,4),(fR,11,4),(qn,7,5),(qm,8,5),(qj,9,5)]
def Ai (k:Int):List UInt8:=match xh.find? (fun p=>p.2.1 == k) with
 | some p=>p.1
 | none=> []
def cU (s:List UInt8):Int×Int:=match xh.find? (fun p=>p.1 == s) with
 | some p=>p.2
 | none=>(0,0)
theorem sign_eq (s:List UInt8):tB s=some (cU s):=by
 unfold tB cU xh
 by_cases tJ:s=gB
 · subst tJ; decide+kernel
 rw [if_neg tJ,List.find?_cons,show (gB == s)=false from beq_false_of_ne (Ne.symm tJ)]
 dsimp only
 by_cases tH:s=gz
 · subst tH; decide+kernel
 rw [if_neg tH,List.find?_cons,show (gz == s)=false from beq_false_of_ne (Ne.symm tH)]
 dsimp only
 by_cases tN:s=qi
 · subst tN; decide+kernel
 rw [if_neg tN,List.find?_cons,show (qi == s)=false from beq_false_of_ne (Ne.symm tN)]
 dsimp only
 by_cases tO:s=gE
 · subst tO; decide+kernel
 rw [if_neg tO,List.find?_cons,show (gE == s)=false from beq_false_of_ne (Ne.symm tO)]
 dsimp only
 by_cases tL:s=qh
 · subst tL; decide+kernel
 rw [if_neg tL,List.find?_cons,show (qh == s)=false from beq_false_of_ne (Ne.symm tL)]
 dsimp only
 by_cases tM:s=gD
 · subst tM; decide+kernel
 rw [if_neg tM,List.find?_cons,show (gD == s)=false from beq_false_of_ne (Ne.symm tM)]
 dsimp only
 by_cases tK:s=gC
 · subst tK; decide+kernel
 rw [if_neg tK,List.find?_cons,show (gC == s)=false from beq_false_of_ne (Ne.symm tK)]
 dsimp only
 by_cases tI:s=gA
 · subst tI; decide+kernel
 rw [if_neg tI,List.find?_cons,show (gA == s)=false from beq_false_of_ne (Ne.symm tI)]
 dsimp only
 by_cases tR:s=qk
 · subst tR; decide+kernel
 rw [if_neg tR,List.find?_cons,show (qk == s)=false from beq_false_of_ne (Ne.symm tR)]
 dsimp only
 by_cases tP:s=fR
 · subst tP; decide+kernel
 rw [if_neg tP,List.find?_cons,show (fR == s)=false from beq_false_of_ne (Ne.symm tP)]
 dsimp only
 by_cases tT:s=qn
 · subst tT; decide+kernel
 rw [if_neg tT,List.find?_cons,show (qn == s)=false from beq_false_of_ne (Ne.symm tT)]
 dsimp only
 by_cases tS:s=qm
 · subst tS; decide+kernel
 rw [if_neg tS,List.find?_cons,show (qm == s)=false from beq_false_of_ne (Ne.symm tS)]
 dsimp only
 by_cases tQ:s=qj
 · subst tQ; decide+kernel
 rw [if_neg tQ,List.find?_cons,show (qj == s)=false from beq_false_of_ne (Ne.symm tQ)]
 dsimp only
 rfl
def Is:T→ak→Prop
 | .num n,e=>e.Kind=1∧e.N=n∧e.Name= []∧e.Kids= []
 | .var s,e=>e.Kind=2∧e.N=0∧e.Name=s∧e.Kids= []
 | .arg,e=>e.Kind=3∧e.N=0∧e.Name= []∧e.Kids= []
 | .zd s,e=>e.Kind=4∧e.N=0∧e.Name=s∧e.Kids= []
 | .un k t,e=>e.Kind=k∧e.N=0∧e.Name= []∧ ∃ x,e.Kids= [x]∧Is t x
 | .bin k a b,e=>e.Kind=k∧e.N=0∧e.Name= []∧ ∃ x y,e.Kids= [x,y]∧Is a x∧Is b y
theorem eta (e:ak):ak.mk e.Kind e.N e.Name e.Kids e.At=e:=by cases e; rfl
theorem Is.kind {t:T} {e:ak} (h:Is t e):e.Kind=t.kind:=by cases t <;> exact h.1
def T.ok:T→Prop
 | .num n=>0≤n∧n≤9223372036854775807
 | .var s=>mP s=true
 | .arg=>True
 | .zd s=>mP s=true
 | .un k t=>(k=5∨k=6)∧t.ok
 | .bin k a b=>(7≤k∧k≤19)∧a.ok∧b.ok
def par (c:Prop) [Decidable c] (s:List UInt8):List UInt8:=if c then 40::s++ [41] else s
def pr:T→Int→List UInt8
 | .num n,a=>par (7<a) (Lib.itoa n)
 | .var s,a=>par (7<a) s
 | .arg,a=>par (7<a) [36]
 | .zd s,a=>par (7<a) (uQ++s++cD)
 | .un k t,a=>par (6<a) ((if k=5 then 45 else 33)::pr t 6)
 | .bin k x y,a=>par (lvl k<a) (pr x (BP k)++(cH++Ai k++cH)++pr y (CP k))
def T.sz:T→Nat
 | .un _ t=>t.sz+1
 | .bin _ a b=>a.sz+b.sz+1
 | _=>1
end Go.Sy.Ex
namespace Go.Sy.Ex
open Go.Sy
end Go.Sy.Ex
namespace Go.Sy.Ex
open Go.Sy
def st (l:List ai) (i o:Nat):aP:=⟨⟨l,(i:Int),⟨0,0⟩⟩,(o:Int)⟩
def ag (l:List ai) (i:Nat):ai:=l.getD i ai.z
def az (t:ai) (s:List UInt8):Bool:=decide ((t.Kind=3∨t.Kind=1)∧t.Text=s)
section
variable {l:List ai} {i o:Nat}
theorem zp:og (st l i o)=some (true,st l i o):=rfl
theorem rC (hi:i<l.length):iK (st l i o)=some (ag l i,st l i o):=by
 unfold iK
 rw [zp,aa]
 have h1: ¬ ((i:Nat):Int)<0:=by omega
 have h2: ¬ (l.length:Int)≤((i:Nat):Int):=by omega
 have h3:0≤((i:Nat):Int):=by omega
 have h4:((i:Nat):Int)<(l.length:Int):=by omega
 simp only [Bool.not_true,cond_false,st,Int.toNat_natCast,h1,h2,h3,h4,if_true,if_false]; rfl
theorem BD (hi:i<l.length) (s:List UInt8):lJ (st l i o) s=some (az (ag l i) s,st l i o):=by
 unfold lJ az
 rw [rC hi,aa]
 dsimp only
 by_cases h3:(ag l i).Kind=3
 · rw [if_pos h3]; congr 2; rw [decide_eq_decide]; simp [h3]
 · rw [if_neg h3]
   by_cases h1:(ag l i).Kind=1
   · rw [if_pos h1]; congr 2; rw [decide_eq_decide]; simp [h1]
   · rw [if_neg h1]
     congr 2
     symm
     rw [decide_eq_false_iff_not]
     rintro ⟨h | h,_⟩ <;> contradiction
theorem cG (hi:i<l.length) (hl:l.length≤100000):an (((i:Nat):Int)+1)=((i+1:Nat):Int):=by rw [bP (by omega) (by omega)]; omega
theorem Ds (hi:i<l.length) (hl:l.length≤100000) (s:List UInt8):oh (st l i o) s=some (az (ag l i) s,if az (ag l i) s=true then st l (i+1) o else st l i o):=by
 unfold oh
 rw [BD hi,aa]
 dsimp only
 cases h:az (ag l i) s with
 | true=>
  rw [cond_true,if_pos rfl]
  show some (true,(⟨⟨l,an (((i:Nat):Int)+1),⟨0,0⟩⟩,(o:Int)⟩:aP))=_
  rw [cG hi hl]; rfl
 | false=>rw [cond_false,if_neg (by simp)]
theorem Dy (hi:i<l.length) (hl:l.length≤100000) {s:List UInt8} (h:az (ag l i) s=true):jG (st l i o) s=some (st l (i+1) o):=by
 unfold jG
 rw [Ds hi hl,aa,h]; rfl
theorem Gc (hi:i<l.length):pT (st l i o)=some (decide ((ag l i).Kind=1)&& !er (ag l i).Text,st l i o):=by
 unfold pT
 rw [rC hi,aa]
 dsimp only
 by_cases h1:(ag l i).Kind=1
 · rw [if_pos h1,Gt,aa,decide_eq_true h1]; rfl
 · rw [if_neg h1,decide_eq_false h1]; rfl
theorem MC (hi:i<l.length) (hl:l.length≤100000) (h1:(ag l i).Kind=1) (h2:er (ag l i).Text=false):mY (st l i o)=some ((ag l i).Text,st l (i+1) o):=by
 unfold mY
 rw [Gc hi,aa]
 dsimp only
 rw [decide_eq_true h1,h2]
 show (if 0≤an (an (((i:Nat):Int)+1) - 1) then if an (an (((i:Nat):Int)+1) - 1)<(l.length:Int) then some ((l.getD (an (an (((i:Nat):Int)+1) - 1)).toNat ai.z).Text,(⟨⟨l,an (((i:Nat):Int)+1),⟨0,0⟩⟩,(o:Int)⟩:aP)) else none else none)=_
 rw [cG hi hl,show an (((i+1:Nat):Int) - 1)=((i:Nat):Int) from by rw [bP (by omega) (by omega)]; omega,if_pos (by omega),if_pos (by omega),Int.toNat_natCast]
 rfl
theorem yj (hi:i<l.length) (hl:l.length≤100000) (ho:o<12) (a:Int):jU (st l i o) a=some (true,st l (i+1) (o+1)):=by
 unfold jU
 show (if ((o:Nat):Int)=12 then _ else some (true,(⟨⟨l,an (((i:Nat):Int)+1),⟨0,0⟩⟩,an (((o:Nat):Int)+1)⟩:aP)))=_
 rw [if_neg (by omega),cG hi hl,show an (((o:Nat):Int)+1)=((o+1:Nat):Int) from by rw [bP (by omega) (by omega)]; omega]
 rfl
end
def Seq (l:List ai) (i:Nat):List Tk→Prop
 | []=>True
 | k::K=>i<l.length∧strip (ag l i)=k∧Seq l (i+1) K
theorem Seq.append {l:List ai} : ∀ {i:Nat} {K K':List Tk},Seq l i (K++K')↔Seq l i K∧Seq l (i+K.length) K'
 | i,[],K'=>by simp [Seq]
 | i,k::K,K'=>by
  rw [List.cons_append]
  simp only [Seq,List.length_cons]
  rw [Seq.append,show i+1+K.length=i+(K.length+1) from by omega]
  constructor
  · rintro ⟨a,b,c,d⟩; exact ⟨⟨a,b,c⟩,d⟩
  · rintro ⟨⟨a,b,c⟩,d⟩; exact ⟨a,b,c,d⟩
def rH (c:Prop) [Decidable c] (K:List Tk):List Tk:=if c then (3,cQ,0)::K++ [(3,cD,0)] else K
def toks:T→Int→List Tk
 | .num n,a=>rH (7<a) [(2,Lib.itoa n,n)]
 | .var s,a=>rH (7<a) [(1,s,0)]
 | .arg,a=>rH (7<a) [(3,su,0)]
 | .zd s,a=>rH (7<a) [(1,kJ,0),(3,cQ,0),(1,s,0),(3,cD,0)]
 | .un k t,a=>rH (6<a) ((3,if k=5 then fR else oz,0)::toks t 6)
 | .bin k x y,a=>rH (lvl k<a) (toks x (BP k)++(3,Ai k,0)::toks y (CP k))
def GK (c:Prop) [Decidable c] (n:Nat):Nat:=if c then n+1 else n
def n6:T→Int→Nat
 | .un k t,a=>GK (6<a) (n6 t 6+1)
 | .bin k x y,a=>GK (lvl k<a) (max (n6 x (BP k)) (n6 y (CP k)))
 | _,a=>GK (7<a) 0
def qt (t:ai):Int:=if t.Kind=3 then (cU t.Text).2 else 0
def P (t:T) (K:List Tk) (n:Nat) (m:Int):Prop:= ∀ (l:List ai) (i o:Nat),l.length≤100000→Seq l i K→i+K.length<l.length→o+n≤12→qt (ag l (i+K.length))<m→
 ∃ e Z,Is t e∧ ∀ k,Z≤k→e_ k (st l i o) m=some (e,st l (i+K.length) o)
def Sg (t:T) (K:List Tk) (n:Nat):Prop:= ∀ (l:List ai) (i o:Nat),l.length≤100000→Seq l i K→i+K.length<l.length→o+n≤12→
 ∃ e Z Z2,Is t e∧ ∀ k,Z≤k→ ∀ k2,Z2≤k2→kn (e_ k) k2 (st l i o)=some (e,st l (i+K.length) o)
noncomputable def loop (k k':Nat) (l:List ai) (i o:Nat) (m:Int) (e:ak):Option (ak×aP):=
 pg (e_ k) k' l ((i:Nat):Int) 0 0 ((o:Nat):Int) m 0 0 [] [] 0 e.Kind e.N e.Name e.Kids e.At
def Qp (t:T) (K:List Tk) (n:Nat) (m:Int):Prop:= ∀ (l:List ai) (i o:Nat),l.length≤100000→Seq l i K→i+K.length<l.length→o+n≤12→qt (ag l (i+K.length))≤m→
 ∃ e Z j,Is t e∧j<Z∧ ∀ k,Z≤k→e_ (k+1) (st l i o) m=loop k (k - j) l (i+K.length) o m e
theorem GN (k:Nat) (l:List ai) (i o:Nat) {m:Int} (hm:1≤m) (fN:m≤5) {e:ak} {i':Nat} (h:e_ k (st l i o) (m+1)=some (e,st l i' o)):
 e_ (k+1) (st l i o) m=loop k k l i' o m e:=by
 show qY (e_ k) k (st l i o) m=_
 unfold qY
 rw [if_neg (by omega),bP (by omega) (by omega),h,aa]
 rfl
theorem Mx (k k':Nat) (l:List ai) (i o:Nat) {m:Int} (hm:1≤m) (hi:i<l.length) (hs:qt (ag l i)≠m) (e:ak) (hk:1≤k'):loop k k' l i o m e=some (e,st l i o):=by
 obtain ⟨k',rfl⟩: ∃ j,k'=j+1:=⟨k' - 1,by omega⟩
 unfold loop
 simp only [pg]
 rw [show (aP.mk (aV.mk l ((i:Nat):Int) (aF.mk 0 0)) ((o:Nat):Int))=st l i o from rfl,rC hi,aa,sign_eq,aa,eta]
 dsimp only
 unfold qt at hs
 by_cases h3:(ag l i).Kind=3
 · rw [if_pos h3] at hs
   rw [if_neg (by simpa using h3),if_pos hs]
 · rw [if_pos h3]
end Go.Sy.Ex
namespace Go.Sy.Ex
open Go.Sy
theorem GL (k:Nat) (s:aP):e_ (k+1) s 6=(tA (e_ k) s).bind fun r1=>some (ak.mk r1.1.Kind r1.1.N r1.1.Name r1.1.Kids r1.1.At,r1.2):=by
 show qY (e_ k) k s 6=_
 unfold qY
 rw [if_pos rfl]
theorem P6 {t:T} {K:List Tk} {n:Nat} (h:Sg t K n):P t K n 6:=fun l i o hl hs hi ho _=>by
 obtain ⟨e,Z,Z2,he,hr⟩:=h l i o hl hs hi ho
 refine ⟨e,Z+1,he,fun k hk=> ?_⟩
 obtain ⟨k,rfl⟩: ∃ j,k=j+1:=⟨k - 1,by omega⟩
 rw [GL,show tA (e_ k) (st l i o)=some (e,st l (i+K.length) o) from bn Z2 fun j hj=>hr k (by omega) j hj,aa,eta]
theorem Qf {t:T} {K:List Tk} {n:Nat} {m:Int} (h1:1≤m) (h:Qp t K n m):P t K n m:=fun l i o hl hs hi ho hv=>by
 obtain ⟨e,Z,j,he,hj,hr⟩:=h l i o hl hs hi ho (by omega)
 refine ⟨e,Z+1,he,fun k hk=> ?_⟩
 obtain ⟨k,rfl⟩: ∃ j,k=j+1:=⟨k - 1,by omega⟩
 rw [hr k (by omega)]
 exact Mx k _ l _ o h1 hi (by omega) e (by omega)
theorem Qe {t:T} {K:List Tk} {n:Nat} {m:Int} (h1:1≤m) (h5:m≤5) (h:P t K n (m+1)):Qp t K n m:=fun l i o hl hs hi ho hv=>by
 obtain ⟨e,Z,he,hr⟩:=h l i o hl hs hi ho (by omega)
 exact ⟨e,Z+1,0,he,by omega,fun k hk=>by rw [GN k l i o h1 h5 (hr k (by omega)),Nat.sub_zero]⟩
theorem Qd {t:T} {K:List Tk} {n:Nat} {m:Int} (h1:1≤m) (h5:m≤5) (h:P t K n (m+1)):P t K n m:=Qf h1 (Qe h1 h5 h)
def Ar (t:T):Prop:=Sg t (toks t 6) (n6 t 6)∧(∀ m:Int,1≤m→m≤6→P t (toks t m) (n6 t m) m)∧ ∀ m:Int,1≤m→m≤5→m≠3→Qp t (toks t m) (n6 t m) m
theorem down {t:T} {K:List Tk} {n:Nat} (h6:P t K n 6): ∀ (j:Nat) (m:Int),m=6 - (j:Int)→1≤m→P t K n m
 | 0, m, hm, _ => by have : m = 6 := by omega
                     subst this; exact h6
 | j+1,m,hm,hl=>Qd (by omega) (by omega) (down h6 j (m+1) (by omega) (by omega))
theorem Sg.at {t:T} {K:List Tk} {n:Nat} (h:Sg t K n) (m:Int) (h1:1≤m) (h6:m≤6):P t K n m:=down (P6 h) (6 - m).toNat m (by omega) h1
end Go.Sy.Ex
namespace Go.Sy.Ex
open Go.Sy
def h2 (y:UInt8):Bool:= !decide (y=61∨y=62∨y=38∨y=124)
def h1 (x:UInt8):Bool:= !decide (x=45∨x=61∨x=33∨x=60∨x=62∨x=38∨x=124)
theorem Xp (x y:UInt8) (h:h2 y=true): [x,y] ∉ iI:=by
 unfold h2 at h
 simp only [Bool.not_eq_true',decide_eq_false_iff_not,not_or] at h
 simp [iI,h]
theorem Xo (x y:UInt8) (h:h1 x=true): [x,y] ∉ iI:=by
 unfold h1 at h
 simp only [Bool.not_eq_true',decide_eq_false_iff_not,not_or] at h
 simp [iI,h]
theorem aaG {a b:List UInt8} (h: ∀ y,b.head?=some y→nm y=false∧h2 y=true):kL a b=true:=by
 unfold kL
 split
 · rename_i x y hx hy
   obtain ⟨e1,e2⟩:=h y hy
   rw [e1,Bool.and_false,decide_eq_false (Xp x y e2)]; rfl
 · rfl
theorem aaF {a b:List UInt8} (h: ∀ x,a.getLast?=some x→nm x=false∧h1 x=true):kL a b=true:=by
 unfold kL
 split
 · rename_i x y hx hy
   obtain ⟨e1,e2⟩:=h x hx
   rw [e1,Bool.false_and,decide_eq_false (Xo x y e2)]; rfl
 · rfl
theorem Lx.par {c:Prop} [Decidable c] {s:List UInt8} {K:List Tk} (h:Lx s K):Lx (Ex.par c s) (rH c K):=by
 unfold Ex.par rH
 split
 · refine Lx.append (a:=40::s) (Lx.append (a:= [40]) (b:=s) (Ka:= [(3,cQ,0)]) (BM 2 (by decide)) h (aaF fun x hx=>by cases hx; decide)) (Kb:= [(3,cD,0)]) (BM 2 (by decide)) (aaG fun x hx=>by cases hx; decide)
 · exact h
theorem Lx.Ai {k:Int} (h:7≤k∧k≤19):Lx (cH++Ai k++cH) [(3,Ex.Ai k,0)]:=by
 have hk:k=7∨k=8∨k=9∨k=10∨k=11∨k=12∨k=13∨k=14∨k=15∨k=16∨k=17∨k=18∨k=19:=by omega
 rcases hk with rfl | rfl | rfl | rfl | rfl | rfl | rfl | rfl | rfl | rfl | rfl | rfl | rfl <;> exact BM 3 (by decide)
end Go.Sy.Ex
namespace Go.Sy.Ex
open Go.Sy
theorem Mm (c:Int):wz c=some (kq c):=by
 have fin: ∀ a:Bool,((a=true)↔((97≤c∧c≤122)∨(65≤c∧c≤90)∨c=95))→some a=some (kq c):=by
  intro a ha
  have e1:a=kq c:=by rw [Bool.eq_iff_iff,ha]; simp [kq]
  rw [e1]
 unfold wz
 repeat' split
 all_goals
  refine fin _ ?_
  first
   | (simp only [decide_eq_true_eq]; omega)
   | exact ⟨fun _=>by omega,fun _=>rfl⟩
theorem EL (c:Int):ux c=some (isDigit c):=by
 unfold ux isDigit
 by_cases h:48≤c
 · rw [if_pos h]; simp [h]
 · rw [if_neg h]; simp [h]
theorem aab (s:List UInt8): ∀ m n,n+m=35→ ∀ k,m+1≤k→wu k s Je ((n:Nat):Int)=some (decide (s ∈ oL.drop n)):=by
 intro m
 induction m with
 | zero=>
  intro n h k hk
  obtain ⟨k,rfl⟩: ∃ j,k=j+1:=⟨k - 1,by omega⟩
  obtain rfl:n=35:=by omega
  simp only [wu]
  rw [if_neg (by omega)]
  rfl
 | succ m ih=>
  intro n h k hk
  obtain ⟨k,rfl⟩: ∃ j,k=j+1:=⟨k - 1,by omega⟩
  have hlt:n<oL.length:=by rw [ab5]; omega
  have e:an ((n:Int)+1)=((n+1:Nat):Int):=by rw [bP (by omega) (by omega)]; omega
  have hlen:(n:Int)<(oL.length:Int):=by omega
  simp only [wu]
  rw [if_pos (by omega),if_pos (by omega),if_pos hlen,e,ih (n+1) (by omega) k (by omega),List.drop_eq_getElem_cons hlt]
  by_cases hx:oL.getD (((n:Nat):Int).toNat) []=s
  · rw [if_pos hx]
    rw [Int.toNat_natCast,cK _ hlt] at hx
    rw [hx]
    simp
  · rw [if_neg hx]
    rw [Int.toNat_natCast,cK _ hlt] at hx
    congr 1
    rw [decide_eq_decide,List.mem_cons]
    exact ⟨.inr,fun q=>q.elim (fun q=>absurd q.symm hx) id⟩
theorem aaa (s:List UInt8):Cl s=some (er s):=bn 36 fun k hk=>aab s 35 0 rfl k hk
end Go.Sy.Ex
namespace Go.Sy.Ex
open Go.Sy
def Fw:Nat→ak→Prop
 | 0,_=>False
 | n+1,e=>(e.Kids.length≤n+2∧e.Kids.length≤10000000000000)∧e.Name.length≤199999999999999∧(-9223372036854775808≤e.N∧e.N≤9223372036854775807)∧ ∀ x ∈ e.Kids,Fw n x
def Tr (e:ak):Prop:= ∃ t,Is t e∧t.ok
def inr:T→Nat
 | .un k t=>n6 t 6
 | .bin k x y=>max (n6 x (BP k)) (n6 y (CP k))
 | _=>0
end Go.Sy.Ex
namespace Go.Sy.Ex
open Go.Sy
theorem V0:Lib.itoa 2= [50]:=by rw [zf (by decide),show (2:Int).toNat=2 from rfl,o8 (by decide)]; rfl
theorem Fw.up: ∀ {n m:Nat} {e:ak},Fw n e→n≤m→Fw m e
 | 0,_,_,h,_=>h.elim
 | n+1,0,_,_,h=>by omega
 | n+1,m+1,e,⟨h1,h2,h3,h4⟩,h=>⟨by omega,h2,h3,fun x hx=>Fw.up (h4 x hx) (by omega)⟩
end Go.Sy.Ex
namespace Go.Sy.Ex
open Go.Sy
theorem nx {n:Nat} (h:n<100000000000000):an ((n:Int)+1)=((n+1:Nat):Int):=by rw [bP (by omega) (by omega)]; omega
end Go.Sy.Ex
namespace Go.Sy.Ex
open Go.Sy
end Go.Sy.Ex
namespace Go.Sy.Ex
open Go.Sy
end Go.Sy.Ex
namespace Go.Sy.Ex
open Go.Sy
end Go.Sy.Ex
namespace Go.Sy.Ex
open Go.Sy
theorem aad (t:List UInt8) (hl:t.length<200000000000000): ∀ m n,n+m=t.length→(∀ k,3*m+1≤k→kF k t ((n:Nat):Int)=some ((b8 false (t.drop n) n:Nat):Int))∧ ∀ k,3*m+2≤k→rQ k t ((n:Nat):Int)=some ((b8 true (t.drop n) n:Nat):Int):=by
 intro m
 induction m with
 | zero=>
  intro n h
  have hd:t.drop n= []:=List.drop_eq_nil_of_le (by omega)
  have h0: ∀ k,1≤k→kF k t ((n:Nat):Int)=some ((b8 false (t.drop n) n:Nat):Int):=by
   intro k hk
   obtain ⟨k,rfl⟩: ∃ j,k=j+1:=⟨k - 1,by omega⟩
   simp only [kF]
   rw [if_neg (by omega),hd]; rfl
  refine ⟨fun k hk=>h0 k (by omega),fun k hk=> ?_⟩
  obtain ⟨k,rfl⟩: ∃ j,k=j+1:=⟨k - 1,by omega⟩
  simp only [rQ]
  rw [if_neg (by omega),h0 k (by omega),hd]; rfl
 | succ m ih=>
  intro n h
  have hlt:n<t.length:=by omega
  obtain ⟨i0,i1⟩:=ih (n+1) (by omega)
  have e:an ((n:Int)+1)=((n+1:Nat):Int):=by rw [bP (by omega) (by omega)]; omega
  have hd:t.drop n=t[n]::t.drop (n+1):=List.drop_eq_getElem_cons hlt
  have qK:((t[n].toNat:Nat):Int)=10↔t[n]=10:=kO t[n] 10 (by decide)
  have AP:((t[n].toNat:Nat):Int)=32↔t[n]=32:=kO t[n] 32 (by decide)
  have c9:((t[n].toNat:Nat):Int)=9↔t[n]=9:=kO t[n] 9 (by decide)
  have AO:((t[n].toNat:Nat):Int)=13↔t[n]=13:=kO t[n] 13 (by decide)
  have xV:((t[n].toNat:Nat):Int)=35↔t[n]=35:=kO t[n] 35 (by decide)
  have h0: ∀ k,3*(m+1)+1≤k→kF k t ((n:Nat):Int)=some ((b8 false (t.drop n) n:Nat):Int):=by
   intro k hk
   obtain ⟨k,rfl⟩: ∃ j,k=j+1:=⟨k - 1,by omega⟩
   simp only [kF]
   have g1:(n:Int)<(t.length:Int):=by omega
   have g0:0≤(n:Int):=by omega
   simp only [g0,g1,if_true,Int.toNat_natCast,cK _ hlt,e]
   rw [hd,i0 k (by omega)]
   have l1:t[n]=35→rQ k t ((n:Nat):Int)=some ((b8 true (t.drop (n+1)) (n+1):Nat):Int):=by
    intro hb
    obtain ⟨k,rfl⟩: ∃ j,k=j+1:=⟨k - 1,by omega⟩
    simp only [rQ]
    rw [if_pos g1,if_pos g0,if_pos g1,Int.toNat_natCast,cK _ hlt,if_pos (by rw [hb]; decide),e]
    exact i1 k (by omega)
   simp only [b8]
   by_cases AK:t[n]=32
   · rw [if_pos (AP.2 AK),if_pos (.inl AK)]
   · rw [if_neg (fun q=>AK (AP.1 q))]
     by_cases b9:t[n]=9
     · rw [if_pos (c9.2 b9),if_pos (.inr (.inl b9))]
     · rw [if_neg (fun q=>b9 (c9.1 q))]
       by_cases iW:t[n]=10
       · rw [if_pos (qK.2 iW),if_pos (.inr (.inr (.inl iW)))]
       · rw [if_neg (fun q=>iW (qK.1 q))]
         by_cases AJ:t[n]=13
         · rw [if_pos (AO.2 AJ),if_pos (.inr (.inr (.inr AJ)))]
         · have hno: ¬ (t[n]=32∨t[n]=9∨t[n]=10∨t[n]=13):=fun q=>q.elim AK fun q=>q.elim b9 fun q=>q.elim iW AJ
           rw [if_neg (fun q=>AJ (AO.1 q)),if_neg hno]
           by_cases mj:t[n]=35
           · rw [if_pos (xV.2 mj),if_pos mj,l1 mj]
           · rw [if_neg (fun q=>mj (xV.1 q)),if_neg mj]
  refine ⟨h0,fun k hk=> ?_⟩
  obtain ⟨k,rfl⟩: ∃ j,k=j+1:=⟨k - 1,by omega⟩
  simp only [rQ]
  rw [if_pos (by omega),if_pos (by omega),if_pos (by omega),Int.toNat_natCast,cK _ hlt,e]
  by_cases iW:t[n]=10
  · rw [if_neg (fun q=>q (qK.2 iW)),h0 k (by omega),hd]
    simp only [b8]
    rw [if_pos (.inr (.inr (.inl iW))),if_pos iW]
  · rw [if_pos (fun q=>iW (qK.1 q)),i1 k (by omega),hd]
    simp only [b8]
    rw [if_neg iW]
theorem ab4 (t:List UInt8) (hl:t.length<200000000000000) (hd: ∀ c ∈ t,dg c=true): ∀ m n acc,n+m=t.length→acc<9223372036854775808→ ∀ k,m+1≤k→wC k t ((acc:Nat):Int) ((n:Nat):Int)=some (match oJ acc (t.drop n) with | some v=>((v:Int),true) | none=>(0,false)):=by
 intro m
 induction m with
 | zero=>
  intro n acc h ha k hk
  obtain ⟨k,rfl⟩: ∃ j,k=j+1:=⟨k - 1,by omega⟩
  simp only [wC]
  rw [if_neg (by omega),List.drop_eq_nil_of_le (by omega)]
  rfl
 | succ m ih=>
  intro n acc h ha k hk
  obtain ⟨k,rfl⟩: ∃ j,k=j+1:=⟨k - 1,by omega⟩
  have hlt:n<t.length:=by omega
  have hc:=(yl t[n]).1 (hd _ (List.getElem_mem hlt))
  have e:an ((n:Int)+1)=((n+1:Nat):Int):=by rw [bP (by omega) (by omega)]; omega
  have e1:Dz (((t[n]).toNat:Int) - 48)=((t[n].toNat - 48:Nat):Int):=by rw [acd (by omega) (by omega)]; omega
  have e2:an ((t[n].toNat - 48:Nat):Int)=((t[n].toNat - 48:Nat):Int):=bP (by omega) (by omega)
  have e3:an (9223372036854775807 - ((t[n].toNat - 48:Nat):Int))=((9223372036854775807 - (t[n].toNat - 48):Nat):Int):=by rw [bP (by omega) (by omega)]; omega
  have e4:Int.tdiv ((9223372036854775807 - (t[n].toNat - 48):Nat):Int) 10=(((9223372036854775807 - (t[n].toNat - 48)) / 10:Nat):Int):=by
   rw [Int.tdiv_eq_ediv_of_nonneg (by omega)]; omega
  have e5:an (((9223372036854775807 - (t[n].toNat - 48)) / 10:Nat):Int)=(((9223372036854775807 - (t[n].toNat - 48)) / 10:Nat):Int):=bP (by omega) (by omega)
  simp only [wC]
  rw [if_pos (by omega),if_pos (by omega),if_pos (by omega),if_pos (by decide),Int.toNat_natCast,cK _ hlt,e,e1,e2,e3,e4,e5,List.drop_eq_getElem_cons hlt]
  unfold oJ
  by_cases hb:(9223372036854775807 - (t[n].toNat - 48)) / 10<acc
  · rw [if_pos (by omega),if_pos hb]
  · rw [if_neg (by omega),if_neg hb]
    have e6:an (an (10*(acc:Int))+((t[n].toNat - 48:Nat):Int))=((10*acc+(t[n].toNat - 48):Nat):Int):=by
     rw [bP (n:=10*(acc:Int)) (by omega) (by omega),bP (by omega) (by omega)]; omega
    rw [e6]
    exact ih (n+1) _ (by omega) (by omega) k (by omega)
theorem ab3 (t:List UInt8) (hl:t.length<200000000000000) (hd: ∀ c ∈ t,dg c=true):om t=some (match oJ 0 t with | some v=>((v:Int),true) | none=>(0,false)):=
 bn (t.length+1) fun k hk=>ab4 t hl hd t.length 0 0 (by omega) (by omega) k hk
theorem Xg (s:List UInt8) (i:Nat) (hi:i<s.length) (one:List UInt8) (hl:one.length<200000000000000): ∀ m n,n+m=one.length→ ∀ k,m+1≤k→uz k s ((i:Nat):Int) one ((n:Nat):Int)=some (if s[i] ∈ one.drop n then 1 else 0):=by
 intro m
 induction m with
 | zero=>
  intro n h k hk
  obtain ⟨k,rfl⟩: ∃ j,k=j+1:=⟨k - 1,by omega⟩
  simp only [uz]
  rw [if_neg (by omega),List.drop_eq_nil_of_le (by omega)]
  simp
 | succ m ih=>
  intro n h k hk
  obtain ⟨k,rfl⟩: ∃ j,k=j+1:=⟨k - 1,by omega⟩
  have hlt:n<one.length:=by omega
  have e:an ((n:Int)+1)=((n+1:Nat):Int):=by rw [bP (by omega) (by omega)]; omega
  simp only [uz]
  rw [if_pos (by omega),if_pos (by omega),if_pos (by omega),if_pos (by omega),if_pos (by omega),Int.toNat_natCast,Int.toNat_natCast,cK _ hlt,cK _ hi,e,ih (n+1) (by omega) k (by omega),List.drop_eq_getElem_cons hlt]
  by_cases hx:s[i]=one[n]
  · rw [if_pos (by rw [hx]),if_pos (by rw [hx]; exact List.mem_cons_self ..)]
  · rw [if_neg (fun q=>hx (UInt8.toNat_inj.1 (by omega)))]
    congr 1
    have :(s[i] ∈ one[n]::one.drop (n+1))↔s[i] ∈ one.drop (n+1):=by rw [List.mem_cons]; exact ⟨fun q=>q.elim (fun q=>absurd q hx) id, .inr⟩
    simp only [this]
theorem aac (t:List UInt8) (n:Nat) (hl:t.length<200000000000000) (h:n<t.length):Co t ((n:Nat):Int)=some ((dP (t.drop n):Nat):Int):=by
 have e1:an ((n:Int)+1)=((n+1:Nat):Int):=by rw [bP (by omega) (by omega)]; omega
 have e2:an ((n:Int)+2)=((n+2:Nat):Int):=by rw [bP (by omega) (by omega)]; omega
 refine bn 50 fun k hk=> ?_
 obtain ⟨k,rfl⟩: ∃ j,k=j+8:=⟨k - 8,by omega⟩
 have hone:=Xg t n h ir (by decide) 20 0 (by decide) k (by omega)
 have k1:an ((0:Int)+1)=1:=by decide
 have k2:an ((1:Int)+1)=2:=by decide
 have k3:an ((2:Int)+1)=3:=by decide
 have k4:an ((3:Int)+1)=4:=by decide
 have k5:an ((4:Int)+1)=5:=by decide
 have k6:an ((5:Int)+1)=6:=by decide
 have k7:an ((6:Int)+1)=7:=by decide
 have LM:uz k t ((n:Nat):Int) ir 0=some (if t[n] ∈ ir then 1 else 0):=hone
 have fin:some (if t[n] ∈ ir then (1:Int) else 0)=some (((if t[n] ∈ ir then 1 else 0:Nat)):Int):=by split <;> rfl
 by_cases h1:n+1<t.length
 · have g1:((n+1:Nat):Int)<(t.length:Int):=by omega
   have g2:(0:Int)≤((n+2:Nat):Int):=by omega
   have g3:((n+2:Nat):Int)≤(t.length:Int):=by omega
   have g4:(0:Int)≤(n:Int):=by omega
   have g5:(n:Int)≤((n+2:Nat):Int):=by omega
   have hm: [t[n],t[n+1]] ∈ iI↔([t[n],t[n+1]]=fI∨ [t[n],t[n+1]]=gC∨ [t[n],t[n+1]]=gA∨ [t[n],t[n+1]]=gE∨ [t[n],t[n+1]]=gD∨ [t[n],t[n+1]]=gz∨ [t[n],t[n+1]]=gB):=by
    unfold iI
    rw [List.mem_cons,List.mem_cons,List.mem_cons,List.mem_cons,List.mem_cons,List.mem_cons,List.mem_singleton]
   have q0:(0:Int)<(([fI,gC,gA,gE,gD,gz,gB].length:Nat):Int):=by decide
   have q1:(1:Int)<(([fI,gC,gA,gE,gD,gz,gB].length:Nat):Int):=by decide
   have q2:(2:Int)<(([fI,gC,gA,gE,gD,gz,gB].length:Nat):Int):=by decide
   have q3:(3:Int)<(([fI,gC,gA,gE,gD,gz,gB].length:Nat):Int):=by decide
   have q4:(4:Int)<(([fI,gC,gA,gE,gD,gz,gB].length:Nat):Int):=by decide
   have q5:(5:Int)<(([fI,gC,gA,gE,gD,gz,gB].length:Nat):Int):=by decide
   have q6:(6:Int)<(([fI,gC,gA,gE,gD,gz,gB].length:Nat):Int):=by decide
   simp only [Cp,wB,D8,k1,k2,k3,k4,k5,k6,k7,e1,e2,g1,g2,g3,g4,g5,if_true,JZ t n h1,LM,OS t n h1]
   simp only [show (0:Int)<7 by decide,show (1:Int)<7 by decide,show (2:Int)<7 by decide,show (3:Int)<7 by decide,show (4:Int)<7 by decide,show (5:Int)<7 by decide,show (6:Int)<7 by decide,show ¬ (7:Int)<7 by decide,show (0:Int)≤0 by decide,show (0:Int)≤1 by decide,show (0:Int)≤2 by decide,show (0:Int)≤3 by decide,show (0:Int)≤4 by decide,show (0:Int)≤5 by decide,show (0:Int)≤6 by decide,if_true,if_false,q0,q1,q2,q3,q4,q5,q6]
   simp only [hm]
   by_cases p0: [t[n],t[n+1]]=fI
   · rw [if_pos (by exact p0),if_pos (.inl p0)]; rfl
   · rw [if_neg (by exact p0)]
     by_cases p1: [t[n],t[n+1]]=gC
     · rw [if_pos (by exact p1),if_pos (.inr (.inl p1))]; rfl
     · rw [if_neg (by exact p1)]
       by_cases p2: [t[n],t[n+1]]=gA
       · rw [if_pos (by exact p2),if_pos (.inr (.inr (.inl p2)))]; rfl
       · rw [if_neg (by exact p2)]
         by_cases p3: [t[n],t[n+1]]=gE
         · rw [if_pos (by exact p3),if_pos (.inr (.inr (.inr (.inl p3))))]; rfl
         · rw [if_neg (by exact p3)]
           by_cases p4: [t[n],t[n+1]]=gD
           · rw [if_pos (by exact p4),if_pos (.inr (.inr (.inr (.inr (.inl p4)))))]; rfl
           · rw [if_neg (by exact p4)]
             by_cases p5: [t[n],t[n+1]]=gz
             · rw [if_pos (by exact p5),if_pos (.inr (.inr (.inr (.inr (.inr (.inl p5))))))]; rfl
             · rw [if_neg (by exact p5)]
               by_cases p6: [t[n],t[n+1]]=gB
               · rw [if_pos (by exact p6),if_pos (.inr (.inr (.inr (.inr (.inr (.inr p6))))))]; rfl
               · rw [if_neg (by exact p6)]
                 have hn: ¬ ([t[n],t[n+1]]=fI∨ [t[n],t[n+1]]=gC∨ [t[n],t[n+1]]=gA∨ [t[n],t[n+1]]=gE∨ [t[n],t[n+1]]=gD∨ [t[n],t[n+1]]=gz∨ [t[n],t[n+1]]=gB):=fun q=>q.elim p0 fun q=>q.elim p1 fun q=>q.elim p2 fun q=>q.elim p3 fun q=>q.elim p4 fun q=>q.elim p5 p6
                 rw [if_neg hn]
                 exact fin
 · have g1: ¬ ((n+1:Nat):Int)<(t.length:Int):=by omega
   simp only [Cp,wB,D8,k1,k2,k3,k4,k5,k6,k7,e1,e2,g1,if_false,LM,OR t n (by omega:n+1=t.length)]
   simp only [show (0:Int)<7 by decide,show (1:Int)<7 by decide,show (2:Int)<7 by decide,show (3:Int)<7 by decide,show (4:Int)<7 by decide,show (5:Int)<7 by decide,show (6:Int)<7 by decide,show ¬ (7:Int)<7 by decide,if_true,if_false]
   exact fin
theorem Xe (s:List UInt8) (i:Nat) (hl:s.length<200000000000000): ∀ m n,n+m=s.length→i≤n→ ∀ k,m+1≤k→uy k s ((i:Nat):Int) 0 0 0 [] 0 ((n:Nat):Int) 0 ((i:Nat):Int) 0 [] 0=some (if i+24<dz nm s n then (ai.mk 0 0 0 [] 0,13) else (ai.mk 1 (i:Nat) (dz nm s n:Nat) (cut s ((i:Nat):Int) ((dz nm s n:Nat):Int)) 0,0)):=by
 intro m
 induction m with
 | zero=>
  intro n h hi k hk
  obtain ⟨k,rfl⟩: ∃ j,k=j+1:=⟨k - 1,by omega⟩
  simp only [uy]
  rw [if_neg (by omega),HH (by omega),bP (by omega) (by omega)]
  by_cases mL:i+24<n
  · rw [if_pos (by omega),if_pos mL]
  · rw [if_neg (by omega),if_neg mL,if_pos (by omega),if_pos (by omega),if_pos (by omega),if_pos (by omega)]
 | succ m ih=>
  intro n h hi k hk
  obtain ⟨k,rfl⟩: ∃ j,k=j+1:=⟨k - 1,by omega⟩
  have hlt:n<s.length:=by omega
  have e:an ((n:Int)+1)=((n+1:Nat):Int):=by rw [bP (by omega) (by omega)]; omega
  simp only [uy,Mm,EL,aa]
  rw [if_pos (by omega),if_pos (by omega),if_pos (by omega),Int.toNat_natCast,cK _ hlt,e,ih (n+1) (by omega) (by omega) k (by omega)]
  have tX:isDigit ((s[n].toNat:Nat):Int)=dg s[n]:=rfl
  have hlt':kq ((s[n].toNat:Nat):Int)=lt s[n]:=rfl
  rw [tX,hlt',bP (by omega) (by omega)]
  cases hL:lt s[n] with
  | true=>rw [cond_true,w5 hlt (by simp [nm,hL])]
  | false=>
   rw [cond_false,if_pos (by omega),if_pos (by omega)]
   cases hD:dg s[n] with
   | true=>rw [cond_true,w5 hlt (by simp [nm,hD])]
   | false=>
    rw [cond_false,HG hlt (by simp [nm,hL,hD])]
    by_cases mL:i+24<n
    · rw [if_pos (by omega),if_pos mL]
    · rw [if_neg (by omega),if_neg mL,if_pos (by omega),if_pos (by omega),if_pos (by omega),if_pos (by omega)]
noncomputable def BV (s:List UInt8) (i j:Nat):Option (ai×Int):=
 if i+1<j∧s.getD i 0=48 then some (ai.mk 0 0 0 [] 0,11) else
  (om (cut s ((i:Nat):Int) ((j:Nat):Int))).bind fun r=>bif !r.2 then some (ai.mk 0 0 0 [] 0,16) else some (ai.mk 2 (i:Nat) (j:Nat) (cut s ((i:Nat):Int) ((j:Nat):Int)) r.1,0)
theorem Xf (s:List UInt8) (i:Nat) (hl:s.length<200000000000000) (LB:i<s.length): ∀ m n,n+m=s.length→i≤n→ ∀ k,m+1≤k→wA k s ((i:Nat):Int) 0 0 0 [] 0 ((n:Nat):Int) 0 ((i:Nat):Int) 0 [] 0=BV s i (dz dg s n):=by
 have R4:((s[i].toNat:Nat):Int)=48↔s[i]=48:=kO s[i] 48 (by decide)
 have tail: ∀ n,n≤s.length→i≤n→(if 1<an ((n:Int) - (i:Int)) then
  if 0≤(i:Int) then
  if (i:Int)<(s.length:Int) then
  if ((s.getD (i:Int).toNat 0).toNat:Int)=48 then
  some (ai.mk 0 0 0 [] 0,11) else
  if 0≤(n:Int) then
  if (n:Int)≤(s.length:Int) then
  if 0≤(i:Int) then
  if (i:Int)≤(n:Int) then
  (om (cut s (i:Int) (n:Int))).bind fun r7=>
  bif !r7.2 then
  some (ai.mk 0 0 0 [] 0,16) else
  if 0≤(n:Int) then
  if (n:Int)≤(s.length:Int) then
  if 0≤(i:Int) then
  if (i:Int)≤(n:Int) then
  some (ai.mk 2 (i:Int) (n:Int) (cut s (i:Int) (n:Int)) r7.1,0) else none else none else none else none else none else none else none else none else none else none else
  if 0≤(n:Int) then
  if (n:Int)≤(s.length:Int) then
  if 0≤(i:Int) then
  if (i:Int)≤(n:Int) then
  (om (cut s (i:Int) (n:Int))).bind fun r8=>
  bif !r8.2 then
  some (ai.mk 0 0 0 [] 0,16) else
  if 0≤(n:Int) then
  if (n:Int)≤(s.length:Int) then
  if 0≤(i:Int) then
  if (i:Int)≤(n:Int) then
  some (ai.mk 2 (i:Int) (n:Int) (cut s (i:Int) (n:Int)) r8.1,0) else none else none else none else none else none else none else none else none)=BV s i n:=by
  intro n hn hi
  have q0:(0:Int)≤(i:Int):=by omega
  have q1:(i:Int)<(s.length:Int):=by omega
  have q2:(0:Int)≤(n:Int):=by omega
  have q3:(n:Int)≤(s.length:Int):=by omega
  have q4:(i:Int)≤(n:Int):=by omega
  simp only [q0,q1,q2,q3,q4,if_true,Int.toNat_natCast,cK _ LB,R4]
  unfold BV
  rw [bP (by omega) (by omega),cK _ LB]
  by_cases h1:i+1<n
  · rw [if_pos (by omega)]
    by_cases h2:s[i]=48
    · rw [if_pos h2,if_pos ⟨h1,h2⟩]
    · rw [if_neg h2,if_neg (fun q=>h2 q.2)]
  · rw [if_neg (by omega),if_neg (fun q=>h1 q.1)]
 intro m
 induction m with
 | zero=>
  intro n h hi k hk
  obtain ⟨k,rfl⟩: ∃ j,k=j+1:=⟨k - 1,by omega⟩
  simp only [wA]
  rw [if_neg (by omega),HH (by omega)]
  exact tail n (by omega) hi
 | succ m ih=>
  intro n h hi k hk
  obtain ⟨k,rfl⟩: ∃ j,k=j+1:=⟨k - 1,by omega⟩
  have hlt:n<s.length:=by omega
  have e:an ((n:Int)+1)=((n+1:Nat):Int):=by rw [bP (by omega) (by omega)]; omega
  simp only [wA,EL,aa]
  rw [if_pos (by omega),if_pos (by omega),if_pos (by omega),Int.toNat_natCast,cK _ hlt,e,ih (n+1) (by omega) (by omega) k (by omega)]
  have tX:isDigit ((s[n].toNat:Nat):Int)=dg s[n]:=rfl
  rw [tX]
  cases hD:dg s[n] with
  | true=>rw [cond_true,w5 hlt hD]
  | false=>
   rw [cond_false,HG hlt hD]
   exact tail n (by omega) hi
theorem Z8 (t:List UInt8) (n:Nat) (hl:t.length<200000000000000) (h:n<t.length):Cn t ((n:Nat):Int)=some (eA t n):=by
 refine bn (t.length+1) fun k hk=> ?_
 simp only [Hp,Mm,EL,aa,Int.toNat_natCast,cK _ h,aac t n hl h]
 rw [if_pos (by omega),if_pos (by omega),if_pos (by omega),if_pos (by omega)]
 have tX:isDigit ((t[n].toNat:Nat):Int)=dg t[n]:=rfl
 have hlt:kq ((t[n].toNat:Nat):Int)=lt t[n]:=rfl
 rw [tX,hlt]
 unfold eA
 rw [cK _ h]
 cases hL:lt t[n] with
 | true=>
  rw [cond_true,Xe t n hl (t.length - n) n (by omega) (Nat.le_refl _) k (by omega),J7 _ hL,vm]
  rfl
 | false=>
  rw [cond_false]
  cases hD:dg t[n] with
  | true=>
   rw [cond_true,Xf t n hl h (t.length - n) n (by omega) (Nat.le_refl _) k (by omega)]
   have r:=uM dg t n (by omega)
   have hc:cut t ((n:Nat):Int) ((dz dg t n:Nat):Int)=(t.drop n).takeWhile dg:=vm dg t n
   have hlen:((t.drop n).takeWhile dg).length≤t.length:=by
    have :=xw dg (t.drop n); rw [List.length_drop] at this; omega
   have acr:dz dg t n=n+((t.drop n).takeWhile dg).length:=rfl
   have hd0:((t.drop n).takeWhile dg).getD 0 0=t[n]:=by
    rw [List.drop_eq_getElem_cons h,List.takeWhile_cons_of_pos hD]; rfl
   unfold BV n7
   rw [hc,ab3 _ (by omega) (fun c hc=>Du _ _ c hc),aa,hd0,cK _ h]
   simp only [if_true]
   by_cases h1:1<((t.drop n).takeWhile dg).length∧t[n]=48
   · rw [if_pos ⟨by omega,h1.2⟩,if_pos h1]; rfl
   · rw [if_neg (fun q=>h1 ⟨by omega,q.2⟩),if_neg h1]
     cases oJ 0 ((t.drop n).takeWhile dg) with
     | some v=>rfl
     | none=>rfl
  | false=>
   rw [cond_false]
   have hs:=xg (t.drop n)
   rw [List.length_drop] at hs
   simp only [Bool.false_eq_true,if_false]
   by_cases hz:dP (t.drop n)=0
   · rw [if_pos (by omega),if_pos hz]
   · have e:an ((n:Int)+((dP (t.drop n):Nat):Int))=((n+dP (t.drop n):Nat):Int):=by rw [bP (by omega) (by omega)]; omega
     rw [e,if_neg (by omega),if_neg hz,if_pos (by omega),if_pos (by omega),if_pos (by omega),if_pos (by omega),EE]
theorem Ot (t:List UInt8) (n:Nat) (hl:t.length<200000000000000) (h:n≤t.length):zL t ((n:Nat):Int)=some ((b8 false (t.drop n) n:Nat):Int):=
 bn (3*(t.length - n)+1) fun k hk=>(aad t hl (t.length - n) n (by omega)).1 k hk
theorem X2 (t:List UInt8) (hl:t.length≤16384): ∀ m n,t.length≤n+m→n≤t.length→(∀ h:n<t.length,t[n]≠32)→ ∀ l:List ai,l.length≤n→ ∀ k k',m+1≤k→m+1≤k'→
 uw k t 0 0 l ((n:Nat):Int)=some (gM k' t l n):=by
 intro m
 induction m with
 | zero=>
  intro n h hn _ l FK k k' hk hk'
  obtain ⟨k,rfl⟩: ∃ j,k=j+1:=⟨k - 1,by omega⟩
  obtain ⟨k',rfl⟩: ∃ j,k'=j+1:=⟨k' - 1,by omega⟩
  · simp only [uw,gM,List.length_cons,List.length_nil]
    rw [if_neg (by omega),if_pos (by omega),if_neg (by omega),show (t.length:Int)=(n:Int) by omega]
 | succ m ih=>
  intro n h hn hb l FK k k' hk hk'
  obtain ⟨k,rfl⟩: ∃ j,k=j+1:=⟨k - 1,by omega⟩
  obtain ⟨k',rfl⟩: ∃ j,k'=j+1:=⟨k' - 1,by omega⟩
  by_cases hlt:n<t.length
  · have hi:(n:Int)<(t.length:Int):=by omega
    have Fz:(l.length+(0+1))*48≤140737488355328:=by omega
    simp only [uw,gM,List.length_cons,List.length_nil,hi,hlt,if_true,Z8 t n (by omega) hlt,aa,Fz]
    by_cases hz:(eA t n).2=0
    · simp only [hz,ne_eq,not_true_eq_false,if_false]
      obtain ⟨e,he,h1,h2,_⟩:=Dt t n hlt hz
      simp only [he,Ot t e (by omega) h2,aa,Int.toNat_natCast]
      have hg:=sB (t.drop e) false e
      rw [List.length_drop] at hg
      exact ih _ (by omega) (by omega) (fun hh=>Bh t e h2 hh) _ (by rw [List.length_append,List.length_singleton]; omega) k k' (by omega) (by omega)
    · simp only [hz,ne_eq,not_false_eq_true,if_true]
  · · simp only [uw,gM,List.length_cons,List.length_nil]
      rw [if_neg (by omega),if_pos (by omega),if_neg hlt,show (t.length:Int)=(n:Int) by omega]
theorem XZ (t:List UInt8):Cj t=some (hO t):=by
 refine bn (t.length+1) fun k hk=> ?_
 unfold Hj hO
 by_cases hl:16384<t.length
 · rw [if_pos (by omega),if_pos hl]
 · have hg:=sB t false 0
   rw [if_neg (by omega),if_neg hl,show (0:Int)=((0:Nat):Int) from rfl,Ot t 0 (by omega) (Nat.zero_le _),aa]
   exact (X2 t (by omega) t.length _ (by omega) (by rw [List.drop_zero]; omega) (fun hh=>Bh t 0 (Nat.zero_le _) hh) [] (Nat.zero_le _) k _ (by omega) (by omega))
end Go.Sy.Ex
namespace Go.Sy.Ex
open Go.Sy
def rs (l:List ai) (i o:Nat):aU:=⟨l,(i:Int),(o:Int),⟨0,0⟩⟩
def fU (t:ai):aF:=if t.Kind=4 then ⟨12,t.At⟩ else ⟨11,t.At⟩
theorem nI (t:ai):(fU t).Code≠0:=by unfold fU; split <;> (dsimp only; decide)
section
variable {l:List ai} {i o:Nat}
theorem qa (hi:i<l.length) (s:List UInt8):kG (rs l i o) s=some (az (ag l i) s,rs l i o):=by
 have h:dB l ((i:Nat):Int) s=some (az (ag l i) s):=by
  unfold dB az
  have e:l.getD ((i:Nat):Int).toNat ai.z=ag l i:=by rw [Int.toNat_natCast]; rfl
  rw [e]
  have a1:((i:Nat):Int)<(l.length:Int):=by omega
  have a2:0≤((i:Nat):Int):=by omega
  simp only [a1,a2,if_true]
  by_cases h3:(ag l i).Kind=3
  · rw [if_pos h3]; congr 1; rw [decide_eq_decide]; simp [h3]
  · rw [if_neg h3]
    by_cases h1:(ag l i).Kind=1
    · rw [if_pos h1]; congr 1; rw [decide_eq_decide]; simp [h1]
    · rw [if_neg h1]; congr 1; symm; rw [decide_eq_false_iff_not]; rintro ⟨h | h,_⟩ <;> contradiction
 show (dB l ((i:Nat):Int) s).bind _=_
 rw [h,aa]
theorem oe (hi:i<l.length):fG l ((i:Nat):Int)=some (fU (ag l i)):=by
 unfold fG fU
 have e:l.getD ((i:Nat):Int).toNat ai.z=ag l i:=by rw [Int.toNat_natCast]; rfl
 rw [e]
 have a1:((i:Nat):Int)<(l.length:Int):=by omega
 have a2:0≤((i:Nat):Int):=by omega
 simp only [a1,a2,if_true]
 split <;> rfl
theorem HN (hi:i<l.length):pZ (rs l i o)=some (ak.mk 0 0 [] [] 0,aU.mk l (i:Int) (o:Int) (fU (ag l i))):=by
 unfold pZ
 rw [if_pos (by rfl)]
 show (fG l ((i:Nat):Int)).bind _=_
 rw [oe hi,aa]; rfl
theorem Iu (hi:i<l.length):lM (st l i o)=some (aP.mk (aV.mk l (i:Int) (fU (ag l i))) (o:Int)):=by
 unfold lM
 rw [rC hi,aa]
 dsimp only
 unfold fU
 by_cases h4:(ag l i).Kind=4
 · rw [if_pos h4,if_pos h4]
   unfold mX
   rw [zp,aa]
   rfl
 · rw [if_neg h4,if_neg h4]
   unfold mX
   rw [zp,aa]
   rfl
theorem Ip (hi:i<l.length) (hl:l.length≤100000) {s:List UInt8} (h:az (ag l i) s=false):jG (st l i o) s=some (aP.mk (aV.mk l (i:Int) (fU (ag l i))) (o:Int)):=by
 unfold jG
 rw [Ds hi hl,aa,h]
 dsimp only [Bool.not_false,cond_true]
 rw [if_neg (by decide),Iu hi,aa]
 rfl
theorem CS (hi:i<l.length) (hl:l.length≤100000) {s:List UInt8} (h:az (ag l i) s=true):jm (rs l i o) s=some (rs l (i+1) o):=by
 unfold jm
 rw [if_neg (by intro q; exact q rfl),qa hi,aa,h]
 show some (aU.mk l (an ((i:Int)+1)) (o:Int) ⟨0,0⟩)=_
 rw [cG hi hl]; rfl
theorem HM (hi:i<l.length) {s:List UInt8} (h:az (ag l i) s=false):jm (rs l i o) s=some (aU.mk l (i:Int) (o:Int) (fU (ag l i))):=by
 unfold jm
 rw [if_neg (by intro q; exact q rfl),qa hi,aa,h]
 dsimp only [Bool.not_false,cond_true]
 rw [HN hi,aa]
 rfl
theorem qb (hi:i<l.length):jH l ((i:Nat):Int)=some (decide ((ag l i).Kind=1)&& !er (ag l i).Text):=by
 unfold jH
 have e:l.getD ((i:Nat):Int).toNat ai.z=ag l i:=by rw [Int.toNat_natCast]; rfl
 rw [e]
 have a1:((i:Nat):Int)<(l.length:Int):=by omega
 have a2:0≤((i:Nat):Int):=by omega
 simp only [a1,a2,if_true]
 by_cases h1:(ag l i).Kind=1
 · rw [if_pos h1,aaa,aa,decide_eq_true h1,Bool.true_and]
 · rw [if_neg h1,decide_eq_false h1,Bool.false_and]
theorem z7 (hi:i<l.length) (hl:l.length≤100000) (ho:o<12):jl (rs l i o)=some (true,rs l (i+1) (o+1)):=by
 unfold jl
 rw [if_neg (by show ¬ ((o:Nat):Int)=12; omega)]
 show some (true,aU.mk l (an ((i:Int)+1)) (an ((o:Int)+1)) ⟨0,0⟩)=_
 rw [cG hi hl,show an (((o:Nat):Int)+1)=((o+1:Nat):Int) from by rw [bP (by omega) (by omega)]; omega]
 rfl
theorem Oa (hi:i<l.length):jl (rs l i 12)=some (false,aU.mk l (i:Int) 12 ⟨14,(ag l i).At⟩):=by
 unfold jl
 rw [if_pos (by rfl),if_pos (by show (0:Int)≤(i:Int); omega),if_pos (by show ((i:Nat):Int)<(l.length:Int); omega)]
 show some (false,aU.mk l (i:Int) 12 ⟨14,(l.getD ((i:Nat):Int).toNat ai.z).At⟩)=_
 rw [Int.toNat_natCast]; rfl
theorem J6 (a:Int):jU (st l i 12) a=some (false,aP.mk (aV.mk l (i:Int) ⟨14,a⟩) 12):=by
 unfold jU
 rw [if_pos (by rfl)]
 unfold mX
 rw [zp,aa]
 rfl
end
section
variable {s:aP} (h:s.Row.aE.Code≠0)
include h
theorem GB:og s=some (false,s):=by unfold og; rw [decide_eq_false h]
theorem zm:iK s=some (ai.mk 4 0 0 [] 0,s):=by
 unfold iK; rw [GB h,aa]; rfl
theorem VY (x:List UInt8):lJ s x=some (false,s):=by
 unfold lJ; rw [zm h,aa]; rfl
theorem abh (x:List UInt8):oh s x=some (false,s):=by
 unfold oh; rw [VY h,aa]; rfl
theorem TU (c a:Int):mX s c a=some s:=by
 unfold mX; rw [GB h,aa]; rfl
theorem PI:lM s=some s:=by
 unfold lM; rw [zm h,aa]
 dsimp only
 rw [if_pos rfl,TU h,aa]
theorem Io (x:List UInt8):jG s x=some s:=by
 unfold jG; rw [abh h,aa]
 dsimp only [Bool.not_false,cond_true]
 rw [PI h,aa]
 rfl
theorem VZ:pT s=some (false,s):=by
 unfold pT; rw [zm h,aa]; rfl
theorem W3:mY s=some ([],s):=by
 unfold mY; rw [VZ h,aa]
 dsimp only [Bool.not_false,cond_true]
 rw [PI h,aa]
 rfl
end
theorem aau {s:aU} (h:s.bad.Code≠0) (x:List UInt8):jm s x=some s:=by unfold jm; rw [if_pos h]
theorem Kr (s:aP):aP.mk (aV.mk s.Row.L s.Row.At (aF.mk s.Row.aE.Code s.Row.aE.At)) s.bl=s:=by cases s; rename_i r o; cases r; rename_i l a f; cases f; rfl
theorem Od (s:aU):aU.mk s.l s.ah s.bl (aF.mk s.bad.Code s.bad.At)=s:=by cases s; rename_i l a o f; cases f; rfl
def Fe:Nat→ak→Prop
 | 0,_=>False
 | n+1,e=>e.Kids.length≤2∧ ∀ x ∈ e.Kids,Fe n x
def Fd (e:ak):Prop:= ∃ n,Fe n e
theorem Fe.up: ∀ {n m:Nat} {e:ak},Fe n e→n≤m→Fe m e
 | 0,_,_,h,_=>h.elim
 | n+1,0,_,_,h=>by omega
 | n+1,m+1,e,⟨h1,h4⟩,h=>⟨h1,fun x hx=>Fe.up (h4 x hx) (by omega)⟩
theorem Fd.leaf {e:ak} (h:e.Kids= []):Fd e:=⟨1,by rw [h]; decide,by rw [h]; intro x hx; cases hx⟩
theorem Fd.one {e x:ak} (h:e.Kids= [x]) (hx:Fd x):Fd e:=by
 obtain ⟨n,hn⟩:=hx
 exact ⟨n+1,by rw [h]; simp,by rw [h]; intro y hy; rw [List.mem_singleton] at hy; subst hy; exact hn⟩
theorem Fd.two {e x y:ak} (h:e.Kids= [x,y]) (hx:Fd x) (hy:Fd y):Fd e:=by
 obtain ⟨n,hn⟩:=hx
 obtain ⟨m,hm⟩:=hy
 refine ⟨max n m+1,by rw [h]; simp, ?_⟩
 rw [h]; intro z hz
 simp only [List.mem_cons,List.not_mem_nil,or_false] at hz
 rcases hz with rfl | rfl
 · exact hn.up (by omega)
 · exact hm.up (by omega)
def Out (l:List ai) (i o:Nat) (f:Nat→Nat→Option (ak×aP)) (g:Nat→Nat→Option (ak×aU)):Prop:=
 (∃ e i' Z,i≤i'∧i'<l.length∧Fd e∧(∀ k,Z≤k→ ∀ k2,Z≤k2→f k k2=some (e,st l i' o))∧ ∀ k,Z≤k→ ∀ k2,Z≤k2→g k k2=some (e,rs l i' o))∨
 (∃ e s e' s' Z,s.Row.aE.Code≠0∧s'.bad=s.Row.aE∧(∀ k,Z≤k→ ∀ k2,Z≤k2→f k k2=some (e,s))∧ ∀ k,Z≤k→ ∀ k2,Z≤k2→g k k2=some (e',s'))
def R (l:List ai) (m:Int) (i o:Nat):Prop:=Out l (i+1) o (fun k _=>e_ k (st l i o) m) (fun k _=>f_ k (rs l i o) m)
def SG (l:List ai) (i o:Nat):Prop:=Out l (i+1) o (fun k k2=>kn (e_ k) k2 (st l i o)) (fun k k2=>lO (f_ k) k2 (rs l i o))
structure Ok (l:List ai):Prop where
 len:l.length≤100000
 word: ∀ i,(ag l i).Kind=1→(ag l i).Text≠cQ
 more: ∀ i,i<l.length→(ag l i).Kind≠4→i+1<l.length
theorem ju {l:List ai} {i0 o:Nat} {f:Nat→Nat→Option (ak×aP)} {g:Nat→Nat→Option (ak×aU)} {e:ak} {s:aP} {e':ak} {s':aU} (Z:Nat) (h1:s.Row.aE.Code≠0) (h2:s'.bad=s.Row.aE) (hf: ∀ k,Z≤k→ ∀ k2,Z≤k2→f k k2=some (e,s)) (hg: ∀ k,Z≤k→ ∀ k2,Z≤k2→g k k2=some (e',s')):Out l i0 o f g:= .inr ⟨e,s,e',s',Z,h1,h2,hf,hg⟩
section
variable {l:List ai} (H:Ok l)
include H
theorem PR {i o:Nat} (hi:i<l.length) (ho:o≤12) (IH: ∀ j o',i<j→j<l.length→o'≤12→R l 1 j o'):
 Out l (i+1) o (fun k _=>mI (e_ k) (st l i o)) (fun k _=>j0 (f_ k) (rs l i o)):=by
 have hl:=H.len
 have more:=fun h4=>H.more i hi h4
 have a1:((i:Nat):Int)<(l.length:Int):=by omega
 have a2:0≤((i:Nat):Int):=by omega
 have et:l.getD ((i:Nat):Int).toNat ai.z=ag l i:=by rw [Int.toNat_natCast]; rfl
 have rst: ∀ i' o',aU.mk l ((i':Nat):Int) ((o':Nat):Int) ⟨0,0⟩=rs l i' o':=fun _ _=>rfl
 have f0: ∀ self,mI self (st l i o)=(if (ag l i).Kind=2 then
  some (ak.mk 1 (ag l i).N [] [] (ag l i).At,st l (i+1) o) else
  bif az (ag l i) su then some (ak.mk 3 0 [] [] (ag l i).At,st l (i+1) o) else
  bif decide ((ag l i).Kind=1)&& !er (ag l i).Text then some (ak.mk 2 0 (ag l i).Text [] (ag l i).At,st l (i+1) o) else
  bif az (ag l i) kJ then
  (jG (st l (i+1) o) cQ).bind fun r6=>
  (mY r6).bind fun r7=>
  (jG r7.2 cD).bind fun r8=>
  some (ak.mk 4 0 r7.1 [] (ag l i).At,r8) else
  bif !az (ag l i) cQ then
  (lM (st l i o)).bind fun aT=>
  some (ak.mk 0 0 [] [] 0,aT) else
  (jU (st l i o) (ag l i).At).bind fun bC=>
  bif !bC.1 then
  some (ak.mk 0 0 [] [] 0,bC.2) else
  (self bC.2 1).bind fun bp=>
  (jG bp.2 cD).bind fun bL=>
  some (ak.mk bp.1.Kind bp.1.N bp.1.Name bp.1.Kids bp.1.At,aP.mk bL.Row (an (bL.bl - 1)))):=fun self=>by
  unfold mI
  rw [rC hi,aa]
  dsimp only
  by_cases k2:(ag l i).Kind=2
  · rw [if_pos k2,if_pos k2]
    show some (_,(⟨⟨l,an (((i:Nat):Int)+1),⟨0,0⟩⟩,(o:Int)⟩:aP))=_
    rw [cG hi hl]; rfl
  rw [if_neg k2,if_neg k2,Ds hi hl,aa]
  dsimp only
  cases az (ag l i) su with
  | true=>rfl
  | false=>
   rw [cond_false,cond_false,if_neg (by decide),Gc hi,aa]
   dsimp only
   cases hn:(decide ((ag l i).Kind=1)&& !er (ag l i).Text) with
   | true=>
    rw [Bool.and_eq_true,decide_eq_true_eq,Bool.not_eq_true'] at hn
    rw [cond_true,cond_true,MC hi hl hn.1 hn.2,aa]
   | false=>
    rw [cond_false,cond_false,Ds hi hl,aa]
    dsimp only
    cases az (ag l i) kJ with
    | true=>rfl
    | false=>
     rw [cond_false,cond_false,if_neg (by decide),BD hi,aa]
 have g0: ∀ self,j0 self (rs l i o)=(if (ag l i).Kind=2 then
  some (ak.mk 1 (ag l i).N [] [] (ag l i).At,rs l (i+1) o) else
  bif az (ag l i) su then some (ak.mk 3 0 [] [] (ag l i).At,rs l (i+1) o) else
  bif az (ag l i) kJ then
  (jm (rs l (i+1) o) cQ).bind fun r3=>
  if r3.bad.Code≠0 then
  some (ak.mk 0 0 [] [] 0,r3) else
  (jH r3.l r3.ah).bind fun r4=>
  bif !r4 then
  (pZ r3).bind fun r5=>
  some (ak.mk r5.1.Kind r5.1.N r5.1.Name r5.1.Kids r5.1.At,r5.2) else
  if 0≤r3.ah then
  if r3.ah<(r3.l.length:Int) then
  (jm (aU.mk r3.l (an (r3.ah+1)) r3.bl r3.bad) cD).bind fun r6=>
  some (ak.mk 4 0 ((r3.l.getD r3.ah.toNat ai.z).Text) [] (ag l i).At,r6) else none else none else
  bif az (ag l i) cQ then
  (jl (rs l i o)).bind fun r8=>
  bif !r8.1 then
  some (ak.mk 0 0 [] [] 0,r8.2) else
  (self r8.2 1).bind fun r9=>
  (jm r9.2 cD).bind fun aT=>
  some (ak.mk r9.1.Kind r9.1.N r9.1.Name r9.1.Kids r9.1.At,aU.mk aT.l aT.ah (an (aT.bl - 1)) aT.bad) else
  bif decide ((ag l i).Kind=1)&& !er (ag l i).Text then
  some (ak.mk 2 0 (ag l i).Text [] (ag l i).At,rs l (i+1) o) else
  some (ak.mk 0 0 [] [] 0,aU.mk l (i:Int) (o:Int) (fU (ag l i)))):=fun self=>by
  unfold j0
  have BY:aU.mk l (an ((i:Int)+1)) (o:Int) ⟨0,0⟩=rs l (i+1) o:=by rw [cG hi hl]; rfl
  have q1:(rs l i o).ah=(i:Int):=rfl
  have q2:(rs l i o).l=l:=rfl
  have q3:(rs l i o).bl=(o:Int):=rfl
  have q4:(rs l i o).bad=⟨0,0⟩:=rfl
  rw [q1,q2,q3,q4,et,BY,if_pos a2,if_pos a1,qa hi,aa]
  by_cases k2:(ag l i).Kind=2
  · rw [if_pos k2,if_pos k2]
  rw [if_neg k2,if_neg k2]
  dsimp only
  rw [q1,q2,q3,q4,BY]
  cases az (ag l i) su with
  | true=>rfl
  | false=>
   rw [cond_false,cond_false,qa hi,aa]
   dsimp only
   rw [q1,q2,q3,q4,BY]
   cases az (ag l i) kJ with
   | true=>rfl
   | false=>
    rw [cond_false,cond_false,qa hi,aa]
    dsimp only
    cases az (ag l i) cQ with
    | true=>rfl
    | false=>
     rw [cond_false,cond_false,q1,q2,q3,q4,BY,qb hi,aa,HN hi,aa]
 by_cases k2:(ag l i).Kind=2
 · refine .inl ⟨ak.mk 1 (ag l i).N [] [] (ag l i).At,i+1,0,Nat.le_refl _,more (by omega),Fd.leaf rfl,fun k _ _ _=> ?_,fun k _ _ _=> ?_⟩
   · (try dsimp only); rw [f0,if_pos k2]
   · (try dsimp only); rw [g0,if_pos k2]
 cases hd:az (ag l i) su with
 | true=>
  have hk:=(of_decide_eq_true hd).1
  refine .inl ⟨ak.mk 3 0 [] [] (ag l i).At,i+1,0,Nat.le_refl _,more (by omega),Fd.leaf rfl,fun k _ _ _=> ?_,fun k _ _ _=> ?_⟩
  · (try dsimp only); rw [f0,if_neg k2,hd,cond_true]
  · (try dsimp only); rw [g0,if_neg k2,hd,cond_true]
 | false=>
  cases hn:(decide ((ag l i).Kind=1)&& !er (ag l i).Text) with
  | true=>
   have hn':=hn
   rw [Bool.and_eq_true,decide_eq_true_eq,Bool.not_eq_true'] at hn'
   have n1:az (ag l i) kJ=false:=by
    unfold az; rw [decide_eq_false_iff_not]; rintro ⟨_,q⟩; rw [q] at hn'; exact absurd hn'.2 (by decide)
   have n2:az (ag l i) cQ=false:=by
    unfold az; rw [decide_eq_false_iff_not]; rintro ⟨_,q⟩; exact H.word i hn'.1 q
   refine .inl ⟨ak.mk 2 0 (ag l i).Text [] (ag l i).At,i+1,0,Nat.le_refl _,more (by omega),Fd.leaf rfl,fun k _ _ _=> ?_,fun k _ _ _=> ?_⟩
   · (try dsimp only); rw [f0,if_neg k2,hd,cond_false,hn,cond_true]
   · (try dsimp only); rw [g0,if_neg k2,hd,cond_false,n1,cond_false,n2,cond_false,hn,cond_true]
  | false=>
   cases hin:az (ag l i) kJ with
   | true=>
    have hk:=(of_decide_eq_true hin).1
    have hm:=more (by omega)
    cases gu:az (ag l (i+1)) cQ with
    | false=>
     refine ju 0 (e:=ak.mk 4 0 [] [] (ag l i).At) (s:=aP.mk (aV.mk l ((i+1:Nat):Int) (fU (ag l (i+1)))) (o:Int)) (e':=ak.mk 0 0 [] [] 0) (s':=aU.mk l ((i+1:Nat):Int) (o:Int) (fU (ag l (i+1)))) (nI _) rfl (fun k _ _ _=> ?_) (fun k _ _ _=> ?_)
     · (try dsimp only); rw [f0,if_neg k2,hd,cond_false,hn,cond_false,hin,cond_true,Ip hm hl gu,aa,W3 (nI _),aa]
       dsimp only
       rw [Io (nI _),aa]
     · (try dsimp only); rw [g0,if_neg k2,hd,cond_false,hin,cond_true,HM hm gu,aa,if_pos (nI _)]
    | true=>
     have hk':=(of_decide_eq_true gu).1
     have hm2:=H.more (i+1) hm (by omega)
     have b1:(rs l (i+1) o).bad.Code=0:=rfl
     have b2:(rs l (i+1) o).l=l:=rfl
     have b3:(rs l (i+1) o).ah=((i+1:Nat):Int):=rfl
     cases hnm:(decide ((ag l (i+1+1)).Kind=1)&& !er (ag l (i+1+1)).Text) with
     | false=>
      refine ju 0 (e:=ak.mk 4 0 [] [] (ag l i).At) (s:=aP.mk (aV.mk l ((i+1+1:Nat):Int) (fU (ag l (i+1+1)))) (o:Int)) (e':=ak.mk 0 0 [] [] 0) (s':=aU.mk l ((i+1+1:Nat):Int) (o:Int) (fU (ag l (i+1+1)))) (nI _) rfl (fun k _ _ _=> ?_) (fun k _ _ _=> ?_)
      · (try dsimp only); rw [f0,if_neg k2,hd,cond_false,hn,cond_false,hin,cond_true,Dy hm hl gu,aa]
        have hname:mY (st l (i+1+1) o)=some ([],aP.mk (aV.mk l ((i+1+1:Nat):Int) (fU (ag l (i+1+1)))) (o:Int)):=by
         unfold mY
         rw [Gc hm2,aa,hnm]
         dsimp only [Bool.not_false,cond_true]
         rw [Iu hm2,aa]
         rfl
        rw [hname,aa]
        dsimp only
        rw [Io (nI _),aa]
      · (try dsimp only); rw [g0,if_neg k2,hd,cond_false,hin,cond_true,CS hm hl gu,aa,if_neg (by intro q; exact q rfl)]
        show (jH l ((i+1+1:Nat):Int)).bind _=_
        rw [qb hm2,hnm,aa]
        rw [Bool.not_false,cond_true]
        rw [HN hm2,aa]
     | true=>
      have FM:=hnm
      rw [Bool.and_eq_true,decide_eq_true_eq,Bool.not_eq_true'] at FM
      have h_:=H.more (i+1+1) hm2 (by omega)
      have nU: ∀ self,mI self (st l i o)=(jG (st l (i+1+1+1) o) cD).bind fun r8=>some (ak.mk 4 0 (ag l (i+1+1)).Text [] (ag l i).At,r8):=fun self=>by
       rw [f0,if_neg k2,hd,cond_false,hn,cond_false,hin,cond_true,Dy hm hl gu,aa,MC hm2 hl FM.1 FM.2,aa]
      have nV: ∀ self,j0 self (rs l i o)=(jm (rs l (i+1+1+1) o) cD).bind fun r6=>some (ak.mk 4 0 (ag l (i+1+1)).Text [] (ag l i).At,r6):=fun self=>by
       rw [g0,if_neg k2,hd,cond_false,hin,cond_true,CS hm hl gu,aa,if_neg (by intro q; exact q rfl)]
       show (jH l ((i+1+1:Nat):Int)).bind _=_
       rw [qb hm2,hnm,aa]
       rw [Bool.not_true,cond_false]
       rw [if_pos (by show (0:Int)≤((i+1+1:Nat):Int); omega),if_pos (by show ((i+1+1:Nat):Int)<(l.length:Int); omega)]
       show (jm (aU.mk l (an (((i+1+1:Nat):Int)+1)) (o:Int) ⟨0,0⟩) cD).bind _=_
       rw [cG hm2 hl]
       rfl
      cases iG:az (ag l (i+1+1+1)) cD with
      | false=>
       refine ju 0 (e:=ak.mk 4 0 (ag l (i+1+1)).Text [] (ag l i).At) (s:=aP.mk (aV.mk l ((i+1+1+1:Nat):Int) (fU (ag l (i+1+1+1)))) (o:Int)) (e':=ak.mk 4 0 (ag l (i+1+1)).Text [] (ag l i).At) (s':=aU.mk l ((i+1+1+1:Nat):Int) (o:Int) (fU (ag l (i+1+1+1)))) (nI _) rfl (fun k _ _ _=> ?_) (fun k _ _ _=> ?_)
       · (try dsimp only); rw [nU,Ip h_ hl iG,aa]
       · (try dsimp only); rw [nV,HM h_ iG,aa]
      | true=>
       have U5:=(of_decide_eq_true iG).1
       refine .inl ⟨ak.mk 4 0 (ag l (i+1+1)).Text [] (ag l i).At,i+1+1+1+1,0,by omega,H.more _ h_ (by omega),Fd.leaf rfl,fun k _ _ _=> ?_,fun k _ _ _=> ?_⟩
       · (try dsimp only); rw [nU,Dy h_ hl iG,aa]
       · (try dsimp only); rw [nV,CS h_ hl iG,aa]
   | false=>
    cases gu:az (ag l i) cQ with
    | false=>
     refine ju 0 (e:=ak.mk 0 0 [] [] 0) (s:=aP.mk (aV.mk l (i:Int) (fU (ag l i))) (o:Int)) (e':=ak.mk 0 0 [] [] 0) (s':=aU.mk l (i:Int) (o:Int) (fU (ag l i))) (nI _) rfl (fun k _ _ _=> ?_) (fun k _ _ _=> ?_)
     · (try dsimp only); rw [f0,if_neg k2,hd,cond_false,hn,cond_false,hin,cond_false,gu,Bool.not_false,cond_true,Iu hi,aa]
     · (try dsimp only); rw [g0,if_neg k2,hd,cond_false,hin,cond_false,gu,cond_false,hn,cond_false]
    | true=>
     have hk:=(of_decide_eq_true gu).1
     have hm:=more (by omega)
     have nU: ∀ self,mI self (st l i o)=_:=fun self=>by
      rw [f0,if_neg k2,hd,cond_false,hn,cond_false,hin,cond_false,gu,Bool.not_true,cond_false]
     have nV: ∀ self,j0 self (rs l i o)=_:=fun self=>by
      rw [g0,if_neg k2,hd,cond_false,hin,cond_false,gu,cond_true]
     by_cases h12:o=12
     · subst h12
       refine ju 0 (e:=ak.mk 0 0 [] [] 0) (s:=aP.mk (aV.mk l (i:Int) ⟨14,(ag l i).At⟩) 12) (e':=ak.mk 0 0 [] [] 0) (s':=aU.mk l (i:Int) 12 ⟨14,(ag l i).At⟩) (by show (14:Int)≠0; decide) rfl (fun k _ _ _=> ?_) (fun k _ _ _=> ?_)
       · (try dsimp only); rw [nU,J6,aa]; rfl
       · (try dsimp only); rw [nV,Oa hi,aa]; rfl
     · have hw:an (((o+1:Nat):Int) - 1)=(o:Int):=by rw [bP (by omega) (by omega)]; omega
       rcases IH (i+1) (o+1) (by omega) hm (by omega) with ⟨e,i',Z,h1,h2,h3,hf,hg⟩ | ⟨e,s,e',s',Z,h1,h2,hf,hg⟩
       · cases iG:az (ag l i') cD with
         | false=>
          refine ju Z (e:=e) (s:=aP.mk (aV.mk l ((i':Nat):Int) (fU (ag l i'))) (an (((o+1:Nat):Int) - 1))) (e':=e) (s':=aU.mk l ((i':Nat):Int) (an (((o+1:Nat):Int) - 1)) (fU (ag l i'))) (nI _) rfl (fun k hk _ hk2=> ?_) (fun k hk _ hk2=> ?_)
          · have hf':=hf k hk _ hk2
            dsimp only at hf' ⊢; rw [nU,yj hi hl (by omega),aa]
            dsimp only [Bool.not_true,cond_false]
            rw [hf',aa,Ip h2 hl iG,aa,eta]
            rfl
          · have hg':=hg k hk _ hk2
            dsimp only at hg' ⊢; rw [nV,z7 hi hl (by omega),aa]
            dsimp only [Bool.not_true,cond_false]
            rw [hg',aa,HM h2 iG,aa,eta]
            rfl
         | true=>
          have U5:=(of_decide_eq_true iG).1
          refine .inl ⟨e,i'+1,Z,by omega,H.more _ h2 (by omega),h3,fun k hk _ hk2=> ?_,fun k hk _ hk2=> ?_⟩
          · have hf':=hf k hk _ hk2
            dsimp only at hf' ⊢; rw [nU,yj hi hl (by omega),aa]
            dsimp only [Bool.not_true,cond_false]
            rw [hf',aa,Dy h2 hl iG,aa,eta]
            show some (e,(⟨⟨l,((i'+1:Nat):Int),⟨0,0⟩⟩,an (((o+1:Nat):Int) - 1)⟩:aP))=_
            rw [hw]; rfl
          · have hg':=hg k hk _ hk2
            dsimp only at hg' ⊢; rw [nV,z7 hi hl (by omega),aa]
            dsimp only [Bool.not_true,cond_false]
            rw [hg',aa,CS h2 hl iG,aa,eta]
            show some (e,(⟨l,((i'+1:Nat):Int),an (((o+1:Nat):Int) - 1),⟨0,0⟩⟩:aU))=_
            rw [hw]; rfl
       · refine ju Z (e:=e) (s:=aP.mk s.Row (an (s.bl - 1))) (e':=e') (s':=aU.mk s'.l s'.ah (an (s'.bl - 1)) s'.bad) h1 h2 (fun k hk _ hk2=> ?_) (fun k hk _ hk2=> ?_)
         · have hf':=hf k hk _ hk2
           dsimp only at hf' ⊢; rw [nU,yj hi hl (by omega),aa]
           dsimp only [Bool.not_true,cond_false]
           rw [hf',aa,Io h1,aa,eta]
           rfl
         · have hg':=hg k hk _ hk2
           dsimp only at hg' ⊢; rw [nV,z7 hi hl (by omega),aa]
           dsimp only [Bool.not_true,cond_false]
           rw [hg',aa,aau (by rw [h2]; exact h1),aa,eta]
           rfl
theorem Ql {i o:Nat} (hi:i<l.length) (ho:o≤12) (IH: ∀ j o',i<j→j<l.length→o'≤12→R l 1 j o') (IS: ∀ j o',i<j→j<l.length→o'≤12→SG l j o'):SG l i o:=by
 have hl:=H.len
 have a1:((i:Nat):Int)<(l.length:Int):=by omega
 have a2:0≤((i:Nat):Int):=by omega
 have et:l.getD ((i:Nat):Int).toNat ai.z=ag l i:=by rw [Int.toNat_natCast]; rfl
 have q1:(rs l i o).ah=(i:Int):=rfl
 have q2:(rs l i o).l=l:=rfl
 have fb: ∀ self k2,kn self (k2+1) (st l i o)=(bif az (ag l i) fR then
  (jU (st l i o) (ag l i).At).bind fun r3=>
  bif !r3.1 then
  some (ak.mk 0 0 [] [] 0,r3.2) else
  (kn self k2 r3.2).bind fun r4=>
  some (ak.mk 5 0 [] [ak.mk r4.1.Kind r4.1.N r4.1.Name r4.1.Kids r4.1.At] (ag l i).At,aP.mk r4.2.Row (an (r4.2.bl - 1))) else
  bif az (ag l i) oz then
  (jU (st l i o) (ag l i).At).bind fun r3=>
  bif !r3.1 then
  some (ak.mk 0 0 [] [] 0,r3.2) else
  (kn self k2 r3.2).bind fun r4=>
  some (ak.mk 6 0 [] [ak.mk r4.1.Kind r4.1.N r4.1.Name r4.1.Kids r4.1.At] (ag l i).At,aP.mk r4.2.Row (an (r4.2.bl - 1))) else
  mI self (st l i o)):=fun self k2=>by
  show Bc (kn self k2) self k2 (st l i o)=_
  unfold Bc
  rw [rC hi,aa]
  dsimp only
  rw [BD hi,aa]
  dsimp only
  cases az (ag l i) fR with
  | true=>rfl
  | false=>
   rw [cond_false,cond_false,BD hi,aa]
   dsimp only
   cases az (ag l i) oz with
   | true=>rfl
   | false=>
    rw [cond_false,cond_false]
    cases mI self (st l i o) with
    | none=>rfl
    | some r=>rw [aa,eta]
 have gb: ∀ self k2,lO self (k2+1) (rs l i o)=(bif az (ag l i) fR then
  (jl (rs l i o)).bind fun r3=>
  bif !r3.1 then
  some (ak.mk 0 0 [] [] 0,r3.2) else
  (lO self k2 r3.2).bind fun r4=>
  some (ak.mk 5 0 [] [ak.mk r4.1.Kind r4.1.N r4.1.Name r4.1.Kids r4.1.At] (ag l i).At,aU.mk r4.2.l r4.2.ah (an (r4.2.bl - 1)) r4.2.bad) else
  bif az (ag l i) oz then
  (jl (rs l i o)).bind fun r3=>
  bif !r3.1 then
  some (ak.mk 0 0 [] [] 0,r3.2) else
  (lO self k2 r3.2).bind fun r4=>
  some (ak.mk 6 0 [] [ak.mk r4.1.Kind r4.1.N r4.1.Name r4.1.Kids r4.1.At] (ag l i).At,aU.mk r4.2.l r4.2.ah (an (r4.2.bl - 1)) r4.2.bad) else
  j0 self (rs l i o)):=fun self k2=>by
  show Cy (lO self k2) self k2 (rs l i o)=_
  unfold Cy
  rw [qa hi,aa]
  dsimp only
  cases hm:az (ag l i) fR with
  | true=>
   have hb:az (ag l i) oz=false:=by
    have :=(of_decide_eq_true hm).2
    unfold az; rw [decide_eq_false_iff_not]; rintro ⟨_,q⟩; rw [this] at q; cases q
   rw [cond_true,cond_true,qa hi,aa]
   dsimp only
   rw [hb,cond_false,if_neg (by decide),q1,q2,et,if_pos a2,if_pos a1]
  | false=>
   rw [cond_false,cond_false,qa hi,aa]
   dsimp only
   cases az (ag l i) oz with
   | true=>
    rw [cond_true,cond_true,if_neg (by decide),q1,q2,et,if_pos a2,if_pos a1]
   | false=>
    rw [cond_false,cond_false,if_pos rfl]
    cases j0 self (rs l i o) with
    | none=>rfl
    | some r=>rw [aa,eta]
 have OP: ∀ K:Int,((ag l i).Kind=3∨(ag l i).Kind=1)→
  (∀ self k2,kn self (k2+1) (st l i o)=(jU (st l i o) (ag l i).At).bind fun r3=>
   bif !r3.1 then
   some (ak.mk 0 0 [] [] 0,r3.2) else
   (kn self k2 r3.2).bind fun r4=>
   some (ak.mk K 0 [] [ak.mk r4.1.Kind r4.1.N r4.1.Name r4.1.Kids r4.1.At] (ag l i).At,aP.mk r4.2.Row (an (r4.2.bl - 1))))→
  (∀ self k2,lO self (k2+1) (rs l i o)=(jl (rs l i o)).bind fun r3=>
   bif !r3.1 then
   some (ak.mk 0 0 [] [] 0,r3.2) else
   (lO self k2 r3.2).bind fun r4=>
   some (ak.mk K 0 [] [ak.mk r4.1.Kind r4.1.N r4.1.Name r4.1.Kids r4.1.At] (ag l i).At,aU.mk r4.2.l r4.2.ah (an (r4.2.bl - 1)) r4.2.bad))→SG l i o:=fun K hk fb gb=>by
  have hm:=H.more i hi (by omega)
  by_cases h12:o=12
  · subst h12
    refine ju 1 (e:=ak.mk 0 0 [] [] 0) (s:=aP.mk (aV.mk l (i:Int) ⟨14,(ag l i).At⟩) 12) (e':=ak.mk 0 0 [] [] 0) (s':=aU.mk l (i:Int) 12 ⟨14,(ag l i).At⟩) (by show (14:Int)≠0; decide) rfl (fun k hk k2 hk2=> ?_) (fun k hk k2 hk2=> ?_)
    · obtain ⟨k2,rfl⟩: ∃ j,k2=j+1:=⟨k2 - 1,by omega⟩
      rw [fb,J6,aa]; rfl
    · obtain ⟨k2,rfl⟩: ∃ j,k2=j+1:=⟨k2 - 1,by omega⟩
      rw [gb,Oa hi,aa]; rfl
  · have hw:an (((o+1:Nat):Int) - 1)=(o:Int):=by rw [bP (by omega) (by omega)]; omega
    rcases IS (i+1) (o+1) (by omega) hm (by omega) with ⟨e,i',Z,h1,h2,h3,hf,hg⟩ | ⟨e,s,e',s',Z,h1,h2,hf,hg⟩
    · refine .inl ⟨ak.mk K 0 [] [e] (ag l i).At,i',Z+1,by omega,h2,Fd.one rfl h3,fun k hk k2 hk2=> ?_,fun k hk k2 hk2=> ?_⟩
      · obtain ⟨k2,rfl⟩: ∃ j,k2=j+1:=⟨k2 - 1,by omega⟩
        have hf':=hf k (by omega) k2 (by omega)
        dsimp only at hf' ⊢
        rw [fb,yj hi hl (by omega),aa]
        dsimp only [Bool.not_true,cond_false]
        rw [hf',aa,eta]
        show some (_,(⟨⟨l,((i':Nat):Int),⟨0,0⟩⟩,an (((o+1:Nat):Int) - 1)⟩:aP))=_
        rw [hw]; rfl
      · obtain ⟨k2,rfl⟩: ∃ j,k2=j+1:=⟨k2 - 1,by omega⟩
        have hg':=hg k (by omega) k2 (by omega)
        dsimp only at hg' ⊢
        rw [gb,z7 hi hl (by omega),aa]
        dsimp only [Bool.not_true,cond_false]
        rw [hg',aa,eta]
        show some (_,(⟨l,((i':Nat):Int),an (((o+1:Nat):Int) - 1),⟨0,0⟩⟩:aU))=_
        rw [hw]; rfl
    · refine ju (Z+1) (e:=ak.mk K 0 [] [e] (ag l i).At) (s:=aP.mk s.Row (an (s.bl - 1))) (e':=ak.mk K 0 [] [e'] (ag l i).At) (s':=aU.mk s'.l s'.ah (an (s'.bl - 1)) s'.bad) h1 h2 (fun k hk k2 hk2=> ?_) (fun k hk k2 hk2=> ?_)
      · obtain ⟨k2,rfl⟩: ∃ j,k2=j+1:=⟨k2 - 1,by omega⟩
        have hf':=hf k (by omega) k2 (by omega)
        dsimp only at hf' ⊢
        rw [fb,yj hi hl (by omega),aa]
        dsimp only [Bool.not_true,cond_false]
        rw [hf',aa,eta]
        rfl
      · obtain ⟨k2,rfl⟩: ∃ j,k2=j+1:=⟨k2 - 1,by omega⟩
        have hg':=hg k (by omega) k2 (by omega)
        dsimp only at hg' ⊢
        rw [gb,z7 hi hl (by omega),aa]
        dsimp only [Bool.not_true,cond_false]
        rw [hg',aa,eta]
        rfl
 cases hm:az (ag l i) fR with
 | true=>exact OP 5 (of_decide_eq_true hm).1 (fun self k2=>by rw [fb,hm,cond_true]) (fun self k2=>by rw [gb,hm,cond_true])
 | false=>
  cases hb:az (ag l i) oz with
  | true=>exact OP 6 (of_decide_eq_true hb).1 (fun self k2=>by rw [fb,hm,cond_false,hb,cond_true]) (fun self k2=>by rw [gb,hm,cond_false,hb,cond_true])
  | false=>
   have fc: ∀ self k2,kn self (k2+1) (st l i o)=mI self (st l i o):=fun self k2=>by rw [fb,hm,cond_false,hb,cond_false]
   have gc: ∀ self k2,lO self (k2+1) (rs l i o)=j0 self (rs l i o):=fun self k2=>by rw [gb,hm,cond_false,hb,cond_false]
   rcases PR H hi ho IH with ⟨e,i',Z,h1,h2,h3,hf,hg⟩ | ⟨e,s,e',s',Z,h1,h2,hf,hg⟩
   · refine .inl ⟨e,i',Z+1,h1,h2,h3,fun k hk k2 hk2=> ?_,fun k hk k2 hk2=> ?_⟩
     · obtain ⟨k2,rfl⟩: ∃ j,k2=j+1:=⟨k2 - 1,by omega⟩
       dsimp only; rw [fc]; exact hf k (by omega) k (by omega)
     · obtain ⟨k2,rfl⟩: ∃ j,k2=j+1:=⟨k2 - 1,by omega⟩
       dsimp only; rw [gc]; exact hg k (by omega) k (by omega)
   · refine ju (e:=e) (s:=s) (e':=e') (s':=s') (Z+1) h1 h2 (fun k hk k2 hk2=> ?_) (fun k hk k2 hk2=> ?_)
     · obtain ⟨k2,rfl⟩: ∃ j,k2=j+1:=⟨k2 - 1,by omega⟩
       rw [fc]; exact hf k (by omega) k (by omega)
     · obtain ⟨k2,rfl⟩: ∃ j,k2=j+1:=⟨k2 - 1,by omega⟩
       rw [gc]; exact hg k (by omega) k (by omega)
omit H in
theorem R6 {i o:Nat} (h:SG l i o):R l 6 i o:=by
 have p6: ∀ k,f_ (k+1) (rs l i o) 6=(wG (f_ k) (rs l i o)).bind fun r1=>some (ak.mk r1.1.Kind r1.1.N r1.1.Name r1.1.Kids r1.1.At,r1.2):=fun k=>by
  show rT (f_ k) k _ 6=_
  unfold rT
  rw [if_pos rfl]
 rcases h with ⟨e,i',Z,h1,h2,h3,hf,hg⟩ | ⟨e,s,e',s',Z,h1,h2,hf,hg⟩
 · refine .inl ⟨e,i',Z+1,h1,h2,h3,fun k hk k2 hk2=> ?_,fun k hk k2 hk2=> ?_⟩
   · obtain ⟨k,rfl⟩: ∃ j,k=j+1:=⟨k - 1,by omega⟩
     dsimp only
     rw [GL,show tA (e_ k) (st l i o)=some (e,st l i' o) from bn Z fun j hj=>hf k (by omega) j hj,aa,eta]
   · obtain ⟨k,rfl⟩: ∃ j,k=j+1:=⟨k - 1,by omega⟩
     dsimp only
     rw [p6,show wG (f_ k) (rs l i o)=some (e,rs l i' o) from bn Z fun j hj=>hg k (by omega) j hj,aa,eta]
 · refine ju (e:=e) (s:=s) (e':=e') (s':=s') (Z+1) h1 h2 (fun k hk k2 hk2=> ?_) (fun k hk k2 hk2=> ?_)
   · obtain ⟨k,rfl⟩: ∃ j,k=j+1:=⟨k - 1,by omega⟩
     rw [GL,show tA (e_ k) (st l i o)=some (e,s) from bn Z fun j hj=>hf k (by omega) j hj,aa,eta]
   · obtain ⟨k,rfl⟩: ∃ j,k=j+1:=⟨k - 1,by omega⟩
     rw [p6,show wG (f_ k) (rs l i o)=some (e',s') from bn Z fun j hj=>hg k (by omega) j hj,aa,eta]
end
theorem L9 {m:Int} (hm:1≤m) (fN:m≤5) (s:List UInt8):zN m s=some (if (cU s).2=m then (cU s).1 else 0):=by
 have cZ: ∀ own kd:Int,(iM m own kd).bind (fun r=>some r)=some (if own=m then kd else 0):=fun own kd=>by
  unfold iM
  by_cases h:m=own
  · rw [if_pos h,aa,if_pos h.symm]
  · rw [if_neg h,aa,if_neg (fun q=>h q.symm)]
 unfold zN
 simp only [cZ]
 by_cases tJ:s=gB
 · subst tJ
   rw [show cU gB=(19,1) from by decide]
   simp
 rw [if_neg tJ]
 by_cases tH:s=gz
 · subst tH
   rw [show cU gz=(18,2) from by decide]
   simp
 rw [if_neg tH]
 by_cases tN:s=qi
 · subst tN
   rw [show cU qi=(12,3) from by decide]
   simp
 rw [if_neg tN]
 by_cases tO:s=gE
 · subst tO
   rw [show cU gE=(13,3) from by decide]
   simp
 rw [if_neg tO]
 by_cases tL:s=qh
 · subst tL
   rw [show cU qh=(14,3) from by decide]
   simp
 rw [if_neg tL]
 by_cases tM:s=gD
 · subst tM
   rw [show cU gD=(15,3) from by decide]
   simp
 rw [if_neg tM]
 by_cases tK:s=gC
 · subst tK
   rw [show cU gC=(16,3) from by decide]
   simp
 rw [if_neg tK]
 by_cases tI:s=gA
 · subst tI
   rw [show cU gA=(17,3) from by decide]
   simp
 rw [if_neg tI]
 by_cases tR:s=qk
 · subst tR
   rw [show cU qk=(10,4) from by decide]
   simp
 rw [if_neg tR]
 by_cases tP:s=fR
 · subst tP
   rw [show cU fR=(11,4) from by decide]
   simp
 rw [if_neg tP]
 by_cases tT:s=qn
 · subst tT
   rw [show cU qn=(7,5) from by decide]
   simp
 rw [if_neg tT]
 by_cases tS:s=qm
 · subst tS
   rw [show cU qm=(8,5) from by decide]
   simp
 rw [if_neg tS]
 by_cases tQ:s=qj
 · subst tQ
   rw [show cU qj=(9,5) from by decide]
   simp
 rw [if_neg tQ]
 rw [show cU s=(0,0) from by
  unfold cU xh
  simp only [List.find?_cons,List.find?_nil,show (gB == s)=false from beq_false_of_ne (Ne.symm tJ),show (gz == s)=false from beq_false_of_ne (Ne.symm tH),show (qi == s)=false from beq_false_of_ne (Ne.symm tN),show (gE == s)=false from beq_false_of_ne (Ne.symm tO),show (qh == s)=false from beq_false_of_ne (Ne.symm tL),show (gD == s)=false from beq_false_of_ne (Ne.symm tM),show (gC == s)=false from beq_false_of_ne (Ne.symm tK),show (gA == s)=false from beq_false_of_ne (Ne.symm tI),show (qk == s)=false from beq_false_of_ne (Ne.symm tR),show (fR == s)=false from beq_false_of_ne (Ne.symm tP),show (qn == s)=false from beq_false_of_ne (Ne.symm tT),show (qm == s)=false from beq_false_of_ne (Ne.symm tS),show (qj == s)=false from beq_false_of_ne (Ne.symm tQ)]]
 rw [if_neg (by show ¬ (0:Int)=m; omega)]
theorem aaI {s:List UInt8} (h:(cU s).2≠0):(cU s).1≠0:=by
 unfold cU at h ⊢
 cases hf:xh.find? (fun p=>p.1 == s) with
 | none=>rw [hf] at h; exact absurd rfl h
 | some p=>
  have hm:=List.mem_of_find?_eq_some hf
  simp only [xh,List.mem_cons,List.not_mem_nil,or_false] at hm
  dsimp only
  rcases hm with rfl | rfl | rfl | rfl | rfl | rfl | rfl | rfl | rfl | rfl | rfl | rfl | rfl <;> decide
noncomputable def sn (k k':Nat) (l:List ai) (i o:Nat) (m:Int) (e:ak):Option (ak×aU):=
 pY (f_ k) k' l ((i:Nat):Int) ((o:Nat):Int) 0 0 m 0 0 [] [] 0 e.Kind e.N e.Name e.Kids e.At
theorem Oo (k:Nat) {l:List ai} {i o:Nat} {m:Int} (hm:1≤m) (fN:m≤5) {e:ak} {i':Nat} (h:f_ k (rs l i o) (m+1)=some (e,rs l i' o)):
 f_ (k+1) (rs l i o) m=sn k k l i' o m e:=by
 show rT (f_ k) k (rs l i o) m=_
 unfold rT
 rw [if_neg (by omega),bP (by omega) (by omega),h,aa]
 rfl
theorem Z_ (k:Nat) {l:List ai} {i o:Nat} {m:Int} (hm:1≤m) (fN:m≤5) {e:ak} {s:aU} (hs:s.bad.Code≠0) (hk:1≤k) (h:f_ k (rs l i o) (m+1)=some (e,s)):
 f_ (k+1) (rs l i o) m=some (e,s):=by
 show rT (f_ k) k (rs l i o) m=_
 unfold rT
 rw [if_neg (by omega),bP (by omega) (by omega),h,aa]
 obtain ⟨k',rfl⟩: ∃ j,k=j+1:=⟨k - 1,by omega⟩
 rw [pY.eq_2,if_neg hs,Od,eta]
theorem Xt {k:Nat} {l:List ai} {i o:Nat} {m:Int} (h1:1≤m) (h5:m≤5) {e:ak} {s:aP} (hs:s.Row.aE.Code≠0) (hk:1≤k) (h:e_ k (st l i o) (m+1)=some (e,s)):e_ (k+1) (st l i o) m=some (e,s):=by
 show qY (e_ k) k (st l i o) m=_
 unfold qY
 rw [if_neg (by omega),bP (by omega) (by omega),h,aa]
 obtain ⟨k',rfl⟩: ∃ j,k=j+1:=⟨k - 1,by omega⟩
 simp only [pg]
 rw [Kr,zm hs,aa,sign_eq,aa]
 dsimp only
 rw [if_pos (by decide),eta]
theorem WQ (k k':Nat) {l:List ai} (hl:l.length≤100000) (i o:Nat) {m:Int} (hm:1≤m) (fN:m≤5) (hi:i<l.length) (h3:(ag l i).Kind=3) (hg:(cU (ag l i).Text).2=m) (e:ak) {y:ak} {s:aP} (hs:s.Row.aE.Code≠0)
 (hy:e_ k (st l (i+1) o) (m+1)=some (y,s)):
 loop k (k'+2) l i o m e=some (ak.mk (cU (ag l i).Text).1 0 [] [e,y] (ag l i).At,s):=by
 unfold loop
 rw [pg.eq_2]
 rw [show (aP.mk (aV.mk l ((i:Nat):Int) (aF.mk 0 0)) ((o:Nat):Int))=st l i o from rfl,rC hi,aa,sign_eq,aa,eta]
 dsimp only
 rw [if_neg (by simp [h3]),if_neg (by simp [hg])]
 rw [show (aP.mk (aV.mk (st l i o).Row.L (an ((st l i o).Row.At+1)) (st l i o).Row.aE) (st l i o).bl)=st l (i+1) o from by
  show (⟨⟨l,an (((i:Nat):Int)+1),⟨0,0⟩⟩,(o:Int)⟩:aP)=_
  rw [cG hi hl]; rfl]
 rw [bP (by omega) (by omega),hy,aa]
 simp only [eta]
 by_cases h_:m=3
 · rw [if_pos h_]
 · rw [if_neg h_,pg.eq_2,Kr,zm hs,aa,sign_eq,aa]
   dsimp only
   rw [if_pos (by decide)]
theorem Z7 (k k':Nat) {l:List ai} (i o:Nat) {m:Int} (hm:1≤m) (fN:m≤5) (hi:i<l.length) (hs:qt (ag l i)≠m) (e:ak):sn k (k'+2) l i o m e=some (e,rs l i o):=by
 unfold sn
 have et:l.getD ((i:Nat):Int).toNat ai.z=ag l i:=by rw [Int.toNat_natCast]; rfl
 rw [pY.eq_2,if_pos rfl,if_pos (by omega),if_pos (by omega),if_pos (by omega),et,eta]
 unfold qt at hs
 by_cases h3:(ag l i).Kind=3
 · rw [if_pos h3] at hs
   rw [if_pos h3,Cw.eq_2,if_pos (by omega),if_pos (by omega),et,L9 hm fN,aa,if_neg hs,if_pos rfl,eta]
   rfl
 · rw [if_neg h3]; rfl
theorem Oe (k k':Nat) {l:List ai} (hl:l.length≤100000) (i o:Nat) {m:Int} (hm:1≤m) (fN:m≤5) (hi:i<l.length) (h3:(ag l i).Kind=3) (hg:(cU (ag l i).Text).2=m) (e:ak) {y:ak} {s:aU}
 (hy:f_ k (rs l (i+1) o) (m+1)=some (y,s)):
 sn k (k'+2) l i o m e=if m=3 then some (ak.mk (cU (ag l i).Text).1 0 [] [e,y] (ag l i).At,s) else
  pY (f_ k) k' s.l s.ah s.bl s.bad.Code s.bad.At m 0 0 [] [] 0 (cU (ag l i).Text).1 0 [] [e,y] (ag l i).At:=by
 unfold sn
 have et:l.getD ((i:Nat):Int).toNat ai.z=ag l i:=by rw [Int.toNat_natCast]; rfl
 rw [pY.eq_2,if_pos rfl,if_pos (by omega),if_pos (by omega),if_pos (by omega),et,if_pos h3,Cw.eq_2,if_pos (by omega),if_pos (by omega),et,L9 hm fN,aa,if_pos hg]
 rw [if_neg (aaI (by omega)),if_pos (by omega),if_pos (by omega),cG hi hl,bP (by omega) (by omega)]
 rw [show aU.mk l ((i+1:Nat):Int) ((o:Nat):Int) (aF.mk 0 0)=rs l (i+1) o from rfl,hy,aa]
 simp only [eta]
theorem LP {l:List ai} (H:Ok l) {i o:Nat} {m:Int} (hm:1≤m) (fN:m≤5) (ho:o≤12) (IH: ∀ j,i<j→j<l.length→R l (m+1) j o):
 ∀ (r i':Nat) (e:ak),l.length≤i'+r→i≤i'→i'<l.length→Fd e→Out l i' o (fun k k2=>loop k k2 l i' o m e) (fun k k2=>sn k k2 l i' o m e)
 | 0,i',e,hr,_,hi,_=>by omega
 | r+1,i',e,hr,h0,hi,pG=>by
  by_cases hs:qt (ag l i')=m
  case neg=>
   refine .inl ⟨e,i',2,Nat.le_refl _,hi,pG,fun k hk k2 hk2=> ?_,fun k hk k2 hk2=> ?_⟩
   · exact Mx k k2 l i' o hm hi hs e (by omega)
   · obtain ⟨k2,rfl⟩: ∃ j,k2=j+2:=⟨k2 - 2,by omega⟩
     exact Z7 k k2 i' o hm fN hi hs e
  have h3:(ag l i').Kind=3:=by
   unfold qt at hs
   by_cases h3:(ag l i').Kind=3
   · exact h3
   · rw [if_neg h3] at hs; omega
  have hg:(cU (ag l i').Text).2=m:=by unfold qt at hs; rwa [if_pos h3] at hs
  have Bw:=H.more i' hi (by omega)
  rcases IH (i'+1) (by omega) Bw with ⟨y,vO,Z,h1,h2,Lz,hf,hg'⟩ | ⟨y,s,y',s',Z,h1,h2,hf,hg'⟩
  · have hstep: ∀ k k2,Z≤k→loop k (k2+1) l i' o m e=if m=3 then some (ak.mk (cU (ag l i').Text).1 0 [] [e,y] (ag l i').At,st l vO o) else loop k k2 l vO o m (ak.mk (cU (ag l i').Text).1 0 [] [e,y] (ag l i').At):=fun k k2 hk=>by
     have hy:=hf k hk k hk
     dsimp only at hy
     have ht:strip (ag l i')=(3,(ag l i').Text,(ag l i').N):=by unfold strip; rw [h3]
     unfold loop
     rw [pg.eq_2]
     rw [show (aP.mk (aV.mk l ((i':Nat):Int) (aF.mk 0 0)) ((o:Nat):Int))=st l i' o from rfl,rC hi,aa,sign_eq,aa,eta]
     dsimp only
     rw [if_neg (by simp [h3]),if_neg (by simp [hg])]
     rw [show (aP.mk (aV.mk (st l i' o).Row.L (an ((st l i' o).Row.At+1)) (st l i' o).Row.aE) (st l i' o).bl)=st l (i'+1) o from by
      show (⟨⟨l,an (((i':Nat):Int)+1),⟨0,0⟩⟩,(o:Int)⟩:aP)=_
      rw [cG hi H.len]; rfl]
     rw [bP (by omega) (by omega),hy,aa]
     simp only [eta]
     rfl
    have HF: ∀ k k2,Z≤k→sn k (k2+2) l i' o m e=if m=3 then some (ak.mk (cU (ag l i').Text).1 0 [] [e,y] (ag l i').At,rs l vO o) else sn k k2 l vO o m (ak.mk (cU (ag l i').Text).1 0 [] [e,y] (ag l i').At):=fun k k2 hk=>
     Oe k k2 H.len i' o hm fN hi h3 hg e (hg' k hk k hk)
    by_cases h_:m=3
    · refine .inl ⟨ak.mk (cU (ag l i').Text).1 0 [] [e,y] (ag l i').At,vO,Z+2,by omega,h2,Fd.two rfl pG Lz,fun k hk k2 hk2=> ?_,fun k hk k2 hk2=> ?_⟩
      · obtain ⟨k2,rfl⟩: ∃ j,k2=j+1:=⟨k2 - 1,by omega⟩
        dsimp only; rw [hstep k k2 (by omega),if_pos h_]
      · obtain ⟨k2,rfl⟩: ∃ j,k2=j+2:=⟨k2 - 2,by omega⟩
        dsimp only; rw [HF k k2 (by omega),if_pos h_]
    · rcases LP H hm fN ho IH r vO (ak.mk (cU (ag l i').Text).1 0 [] [e,y] (ag l i').At) (by omega) (by omega) h2 (Fd.two rfl pG Lz) with ⟨e2,j,Z2,j1,j2,j3,jf,jg⟩ | ⟨e2,s,EN,s',Z2,j1,j2,jf,jg⟩
      · refine .inl ⟨e2,j,Z+Z2+2,by omega,j2,j3,fun k hk k2 hk2=> ?_,fun k hk k2 hk2=> ?_⟩
        · obtain ⟨k2,rfl⟩: ∃ j,k2=j+1:=⟨k2 - 1,by omega⟩
          dsimp only; rw [hstep k k2 (by omega),if_neg h_]; exact jf k (by omega) k2 (by omega)
        · obtain ⟨k2,rfl⟩: ∃ j,k2=j+2:=⟨k2 - 2,by omega⟩
          dsimp only; rw [HF k k2 (by omega),if_neg h_]; exact jg k (by omega) k2 (by omega)
      · refine ju (e:=e2) (s:=s) (e':=EN) (s':=s') (Z+Z2+2) j1 j2 (fun k hk k2 hk2=> ?_) (fun k hk k2 hk2=> ?_)
        · obtain ⟨k2,rfl⟩: ∃ j,k2=j+1:=⟨k2 - 1,by omega⟩
          rw [hstep k k2 (by omega),if_neg h_]; exact jf k (by omega) k2 (by omega)
        · obtain ⟨k2,rfl⟩: ∃ j,k2=j+2:=⟨k2 - 2,by omega⟩
          rw [HF k k2 (by omega),if_neg h_]; exact jg k (by omega) k2 (by omega)
  · refine ju (e:=ak.mk (cU (ag l i').Text).1 0 [] [e,y] (ag l i').At) (s:=s) (e':=ak.mk (cU (ag l i').Text).1 0 [] [e,y'] (ag l i').At) (s':=s') (Z+3) h1 h2 (fun k hk k2 hk2=> ?_) (fun k hk k2 hk2=> ?_)
    · obtain ⟨k2,rfl⟩: ∃ j,k2=j+2:=⟨k2 - 2,by omega⟩
      exact WQ k k2 H.len i' o hm fN hi h3 hg e h1 (hf k (by omega) k (by omega))
    · obtain ⟨k2,rfl⟩: ∃ j,k2=j+3:=⟨k2 - 3,by omega⟩
      rw [Oe k (k2+1) H.len i' o hm fN hi h3 hg e (hg' k (by omega) k (by omega))]
      by_cases h_:m=3
      · rw [if_pos h_]
      · rw [if_neg h_,pY.eq_2,if_neg (by rw [h2]; exact h1),Od]
theorem Qi {l:List ai} (H:Ok l) {i o:Nat} {m:Int} (hm:1≤m) (fN:m≤5) (hi:i<l.length) (ho:o≤12) (IH: ∀ j,i<j→j<l.length→R l (m+1) j o) (h:R l (m+1) i o):R l m i o:=by
 rcases h with ⟨e,i',Z,h1,h2,pG,hf,hg⟩ | ⟨e,s,e',s',Z,h1,h2,hf,hg⟩
 · rcases LP H hm fN ho IH l.length i' e (by omega) (by omega) h2 pG with ⟨e2,j,Z2,j1,j2,j3,jf,jg⟩ | ⟨e2,s,EN,s',Z2,j1,j2,jf,jg⟩
   · refine .inl ⟨e2,j,Z+Z2+1,by omega,j2,j3,fun k hk k2 hk2=> ?_,fun k hk k2 hk2=> ?_⟩
     · obtain ⟨k,rfl⟩: ∃ j,k=j+1:=⟨k - 1,by omega⟩
       dsimp only; rw [GN k l i o hm fN (hf k (by omega) k (by omega))]; exact jf k (by omega) k (by omega)
     · obtain ⟨k,rfl⟩: ∃ j,k=j+1:=⟨k - 1,by omega⟩
       dsimp only; rw [Oo k hm fN (hg k (by omega) k (by omega))]; exact jg k (by omega) k (by omega)
   · refine ju (e:=e2) (s:=s) (e':=EN) (s':=s') (Z+Z2+1) j1 j2 (fun k hk k2 hk2=> ?_) (fun k hk k2 hk2=> ?_)
     · obtain ⟨k,rfl⟩: ∃ j,k=j+1:=⟨k - 1,by omega⟩
       rw [GN k l i o hm fN (hf k (by omega) k (by omega))]; exact jf k (by omega) k (by omega)
     · obtain ⟨k,rfl⟩: ∃ j,k=j+1:=⟨k - 1,by omega⟩
       rw [Oo k hm fN (hg k (by omega) k (by omega))]; exact jg k (by omega) k (by omega)
 · refine ju (e:=e) (s:=s) (e':=e') (s':=s') (Z+2) h1 h2 (fun k hk k2 hk2=> ?_) (fun k hk k2 hk2=> ?_)
   · obtain ⟨k,rfl⟩: ∃ j,k=j+1:=⟨k - 1,by omega⟩
     exact Xt hm fN h1 (by omega) (hf k (by omega) k (by omega))
   · obtain ⟨k,rfl⟩: ∃ j,k=j+1:=⟨k - 1,by omega⟩
     exact Z_ k hm fN (by rw [h2]; exact h1) (by omega) (hg k (by omega) k (by omega))
theorem both {l:List ai} (H:Ok l): ∀ (n i o:Nat),l.length≤i+n→i<l.length→o≤12→SG l i o∧ ∀ (j:Nat) (m:Int),m=6 - (j:Int)→1≤m→R l m i o
 | 0,i,o,hn,hi,_=>by omega
 | n+1,i,o,hn,hi,ho=>by
  have IH: ∀ j o',i<j→j<l.length→o'≤12→SG l j o'∧ ∀ (q:Nat) (m:Int),m=6 - (q:Int)→1≤m→R l m j o':=fun j o' h1 h2 h3=>both H n j o' (by omega) h2 h3
  have hS:=Ql H hi ho (fun j o' h1 h2 h3=>(IH j o' h1 h2 h3).2 5 1 rfl (by decide)) (fun j o' h1 h2 h3=>(IH j o' h1 h2 h3).1)
  refine ⟨hS,fun j=> ?_⟩
  induction j with
  | zero=>
   intro m hm h1
   have :m=6:=by omega
   subst this
   exact R6 hS
  | succ j ih=>
   intro m hm h1
   exact Qi H h1 (by omega) hi ho (fun q h2 h3=>(IH q o h2 h3 ho).2 j (m+1) (by omega) (by omega)) (ih (m+1) (by omega) (by omega))
end Go.Sy.Ex
namespace Go.Sy.Ex
open Go.Sy
def Wd (x:ai):Prop:=x.Kind=1→x.Text≠cQ
theorem abi (t:List UInt8) (n:Nat):Wd (eA t n).1:=by
 unfold eA
 split
 · dsimp only
   split <;> (intro h; revert h; dsimp only; intro h; cases h)
 · split
   · split
     · intro h; cases h
     · intro _ h
       have hm:(40:UInt8) ∈ (t.drop n).takeWhile nm:=by
        have h':(t.drop n).takeWhile nm= [40]:=h
        rw [h']; simp
       have :=Du nm (t.drop n) 40 hm
       revert this; decide
   · split <;> (intro h; cases h)
theorem I8 (t:List UInt8): ∀ (k:Nat) (l:List ai) (n:Nat),n≤t.length→t.length<n+k→(gM k t l n).2.Code=0→(∀ x ∈ l,Wd x)→ ∃ L z,(gM k t l n).1=L++ [z]∧z.Kind=4∧ ∀ x ∈ L,Wd x
 | 0,l,n,h1,h2,_,_=>by omega
 | k+1,l,n,h1,h2,h3,h4=>by
  simp only [gM] at h3 ⊢
  by_cases hn:n<t.length
  · rw [if_pos hn] at h3 ⊢
    by_cases hz:(eA t n).2≠0
    · rw [if_pos hz] at h3; exact absurd h3 hz
    · rw [if_neg hz] at h3 ⊢
      obtain ⟨e,he,h5,h6,_⟩:=Dt t n hn (Classical.not_not.1 hz)
      rw [he,Int.toNat_natCast] at h3 ⊢
      have hg:=sB (t.drop e) false e
      rw [List.length_drop] at hg
      refine I8 t k _ _ (by omega) (by omega) h3 fun x hx=> ?_
      rw [List.mem_append,List.mem_singleton] at hx
      rcases hx with hx | rfl
      · exact h4 x hx
      · exact abi t n
  · rw [if_neg hn]
    exact ⟨l,_,rfl,rfl,h4⟩
theorem Re {t:List UInt8} (h:(hO t).2.Code=0):Ok (hO t).1∧0<(hO t).1.length:=by
 have hlen:=I9 t
 obtain ⟨L,z,h1,h2,h3⟩: ∃ L z,(hO t).1=L++ [z]∧z.Kind=4∧ ∀ x ∈ L,Wd x:=by
  unfold hO at h ⊢
  by_cases hl:16384<t.length
  · rw [if_pos hl] at h; exact absurd h (by decide)
  · rw [if_neg hl] at h ⊢
    have hg:=sB t false 0
    exact I8 t _ [] _ (by omega) (by omega) h (fun x hx=>by cases hx)
 rw [h1] at hlen ⊢
 rw [List.length_append,List.length_singleton] at hlen
 refine ⟨⟨by rw [List.length_append,List.length_singleton]; omega,fun i hk=> ?_,fun i hi hk=> ?_⟩,by simp⟩
 · unfold ag at hk ⊢
   by_cases hi:i<(L++ [z]).length
   · rw [cK _ hi] at hk ⊢
     by_cases hi2:i<L.length
     · rw [List.getElem_append_left hi2] at hk ⊢
       exact h3 _ (List.getElem_mem hi2) hk
     · rw [List.getElem_append_right (by omega)] at hk
       simp only [List.getElem_singleton] at hk
       rw [h2] at hk; cases hk
   · rw [List.getD_eq_getElem?_getD,List.getElem?_eq_none (by omega)] at hk
     cases hk
 · rw [List.length_append,List.length_singleton] at hi ⊢
   by_cases hi2:i<L.length
   · omega
   · exfalso; apply hk
     unfold ag
     rw [cK _ (by rw [List.length_append,List.length_singleton]; omega),List.getElem_append_right (by omega)]
     simp only [List.getElem_singleton]
     exact h2
theorem Xx {v n:Int} (hn:0<n) (hn2:n≤1152921504606846976): ∃ r,zK v n=some r∧0≤r∧r<n:=by
 unfold zK
 rw [if_pos (by omega)]
 have h1:v.tmod n<n:=Int.tmod_lt_of_pos v hn
 have h2: -n<v.tmod n:=by
  have h:=Int.tmod_lt_of_pos (-v) hn
  rw [Int.neg_tmod] at h; omega
 by_cases h:v.tmod n<0
 · rw [if_pos h,bP (by omega) (by omega)]; exact ⟨_,rfl,by omega,by omega⟩
 · rw [if_neg h]; exact ⟨_,rfl,by omega,by omega⟩
end Go.Sy.Ex
namespace Go.Sy.Ex
open Go.Sy
def at' (l:List ai) (i o:Nat):aH:=⟨⟨l,(i:Int),⟨0,0⟩⟩,(o:Int)⟩
section
variable {l:List ai} {i o:Nat}
theorem kV:jZ (at' l i o)=some (true,at' l i o):=rfl
theorem oS (hi:i<l.length):iJ (at' l i o)=some (ag l i,at' l i o):=by
 unfold iJ
 rw [kV,aa]
 have h1: ¬ ((i:Nat):Int)<0:=by omega
 have h2: ¬ (l.length:Int)≤((i:Nat):Int):=by omega
 have h3:0≤((i:Nat):Int):=by omega
 have h4:((i:Nat):Int)<(l.length:Int):=by omega
 simp only [Bool.not_true,cond_false,at',Int.toNat_natCast,h1,h2,h3,h4,if_true,if_false]; rfl
theorem oR (hi:i<l.length) (s:List UInt8):jY (at' l i o) s=some (az (ag l i) s,at' l i o):=by
 unfold jY az
 rw [oS hi,aa]
 dsimp only
 by_cases h3:(ag l i).Kind=3
 · rw [if_pos h3]; congr 2; rw [decide_eq_decide]; simp [h3]
 · rw [if_neg h3]
   by_cases h1:(ag l i).Kind=1
   · rw [if_pos h1]; congr 2; rw [decide_eq_decide]; simp [h1]
   · rw [if_neg h1]
     congr 2
     symm
     rw [decide_eq_false_iff_not]
     rintro ⟨h | h,_⟩ <;> contradiction
theorem iB (hi:i<l.length) (hl:l.length≤100000) (s:List UInt8):ij (at' l i o) s=some (az (ag l i) s,if az (ag l i) s=true then at' l (i+1) o else at' l i o):=by
 unfold ij
 rw [oR hi,aa]
 dsimp only
 cases h:az (ag l i) s with
 | true=>
  rw [cond_true,if_pos rfl]
  show some (true,(⟨⟨l,an (((i:Nat):Int)+1),⟨0,0⟩⟩,(o:Int)⟩:aH))=_
  rw [cG hi hl]; rfl
 | false=>rw [cond_false,if_neg (by simp)]
theorem vc (hi:i<l.length) (hl:l.length≤100000) {s:List UInt8} (h:az (ag l i) s=true):dx (at' l i o) s=some (at' l (i+1) o):=by
 unfold dx
 rw [iB hi hl,aa,h]; rfl
theorem AD (hi:i<l.length):pS (at' l i o)=some (decide ((ag l i).Kind=1)&& !er (ag l i).Text,at' l i o):=by
 unfold pS
 rw [oS hi,aa]
 dsimp only
 by_cases h1:(ag l i).Kind=1
 · rw [if_pos h1,Gt,aa,decide_eq_true h1]; rfl
 · rw [if_neg h1,decide_eq_false h1]; rfl
theorem I_ (hi:i<l.length) (hl:l.length≤100000) (h1:(ag l i).Kind=1) (h2:er (ag l i).Text=false):gw (at' l i o)=some ((ag l i).Text,at' l (i+1) o):=by
 unfold gw
 rw [AD hi,aa]
 dsimp only
 rw [decide_eq_true h1,h2]
 show (if 0≤an (an (((i:Nat):Int)+1) - 1) then if an (an (((i:Nat):Int)+1) - 1)<(l.length:Int) then some ((l.getD (an (an (((i:Nat):Int)+1) - 1)).toNat ai.z).Text,(⟨⟨l,an (((i:Nat):Int)+1),⟨0,0⟩⟩,(o:Int)⟩:aH)) else none else none)=_
 rw [cG hi hl,show an (((i+1:Nat):Int) - 1)=((i:Nat):Int) from by rw [bP (by omega) (by omega)]; omega,if_pos (by omega),if_pos (by omega),Int.toNat_natCast]
 rfl
end
structure H where
 kind:Int
 name:List UInt8
 ev:List UInt8
 x:Option T
 n:Int
inductive B where
 | nil | cons (h:H) (th el rest:B)
def xok (x:Option T):Prop:=match x with
 | none=>True
 | some t=>t.ok∧n6 t 1≤12
def H.ok (h:H) (th el:B):Prop:=xok h.x∧
 ((h.kind=1∧mP h.name=true∧h.ev= []∧h.x≠none∧h.n=0∧th= .nil∧el= .nil)∨
  (h.kind=2∧h.name= []∧mP h.ev=true∧h.n=0∧th= .nil∧el= .nil)∨
  (h.kind=3∧mP h.name=true∧mP h.ev=true∧h.n=0∧th= .nil∧el= .nil)∨
  (h.kind=4∧mP h.name=true∧h.ev= []∧h.x≠none∧h.n=0∧th= .nil∧el= .nil)∨
  (h.kind=5∧mP h.name=true∧h.ev= []∧h.x=none∧h.n=0∧th= .nil∧el= .nil)∨
  (h.kind=6∧h.name= []∧h.ev= []∧h.x≠none∧h.n=0)∨
  (h.kind=7∧h.name= []∧h.ev= []∧h.x=none∧0≤h.n∧h.n≤9223372036854775807∧el= .nil))
def B.ok:B→Prop
 | .nil=>True
 | .cons h th el rest=>h.ok th el∧th.ok∧el.ok∧rest.ok
def B.isNil:B→Bool
 | .nil=>true
 | _=>false
end Go.Sy.Ex
namespace Go.Sy.Ex
open Go.Sy
end Go.Sy.Ex
namespace Go.Sy.Ex
open Go.Sy
end Go.Sy.Ex
namespace Go.Sy.Ex
open Go.Sy
theorem td (a:aj):aj.mk a.Kind a.Name a.Event a.X a.N a.eU a.eB a.At=a:=by cases a; rfl
def B.sz:B→Nat
 | .nil=>1
 | .cons _ th el rest=>th.sz+el.sz+rest.sz+1
end Go.Sy.Ex
namespace Go.Sy.Ex
open Go.Sy
end Go.Sy.Ex
namespace Go.Sy.Ex
open Go.Sy
abbrev b1:B:= .cons ⟨2,[],[101],some (.num 1),0⟩ .nil .nil (.cons ⟨7,[],[],none,2⟩ .nil .nil .nil)
def bd (t:ai):aF:=if t.Kind=4 then ⟨12,t.At⟩ else ⟨11,t.At⟩
theorem iC (t:ai):(bd t).Code≠0:=by unfold bd; split <;> (dsimp only; decide)
theorem xT {l:List ai} {i o:Nat} (hi:i<l.length) (hl:l.length≤100000) {s:List UInt8} (h:az (ag l i) s=false):dx (at' l i o) s=some (aH.mk (aV.mk l (i:Int) (bd (ag l i))) (o:Int)):=by
 unfold dx
 rw [iB hi hl,aa,h,Bool.not_false,cond_true,if_neg (by decide)]
 have hw:iL (at' l i o)=some (aH.mk (aV.mk l (i:Int) (bd (ag l i))) (o:Int)):=by
  unfold iL
  rw [oS hi,aa]
  dsimp only
  unfold bd
  by_cases h4:(ag l i).Kind=4
  · rw [if_pos h4,if_pos h4]
    unfold gV
    rw [kV,aa]
    rfl
  · rw [if_neg h4,if_neg h4]
    unfold gV
    rw [kV,aa]
    rfl
 dsimp only
 rw [hw,aa]
section
variable {s:aH} (h:s.Row.aE.Code≠0)
include h
theorem xQ:jZ s=some (false,s):=by unfold jZ; rw [decide_eq_false h]
theorem D3:iJ s=some (ai.mk 4 0 0 [] 0,s):=by
 unfold iJ; rw [xQ h,aa]; rfl
theorem D2 (x:List UInt8):jY s x=some (false,s):=by
 unfold jY; rw [D3 h,aa]; rfl
theorem Eb (x:List UInt8):ij s x=some (false,s):=by
 unfold ij; rw [D2 h,aa]; rfl
theorem Rb (c a:Int):gV s c a=some s:=by
 unfold gV; rw [xQ h,aa]; rfl
theorem Jh:iL s=some s:=by
 unfold iL; rw [D3 h,aa]
 dsimp only
 rw [if_pos rfl,Rb h,aa]
theorem tf (x:List UInt8):dx s x=some s:=by
 unfold dx; rw [Eb h,aa]
 rw [Bool.not_false,cond_true]
 dsimp only
 rw [Jh h,aa]
theorem AE (self:aH→Option (List aj×aH)) (k:Nat) (acc:List aj):jP self (k+1) s.Row.L s.Row.At s.Row.aE.Code s.Row.aE.At s.bl acc=some (acc,aH.mk s.Row (an (s.bl - 1))):=by
 rw [jP.eq_2]
 rw [show aH.mk (aV.mk s.Row.L s.Row.At (aF.mk s.Row.aE.Code s.Row.aE.At)) s.bl=s from by cases s; rename_i r o; cases r; rename_i l a f; cases f; rfl,xQ h,aa,cond_false]
end
end Go.Sy.Ex
namespace Go.Sy.Ex
open Go.Sy
def sN {α:Type} (Q:α→Prop) (l:List ai) (i o:Nat) (f:Option (α×aH)) (g:Option (α×Int×aF)):Prop:=
 (∃ v j,i≤j∧j<l.length∧Q v∧f=some (v,at' l j o)∧g=some (v,((j:Nat):Int),⟨0,0⟩))∨
 (∃ v s v' j',s.Row.aE.Code≠0∧f=some (v,s)∧g=some (v',j',s.Row.aE))
def gm (X:List ak):Prop:=X.length≤1∧ ∀ e ∈ X,Fd e
def sL (a:aj):Prop:=gm a.X∧a.eU= []∧a.eB= []
theorem gm.nil:gm []:=⟨Nat.zero_le _,fun e h=>by cases h⟩
theorem gm.one {e:ak} (h:Fd e):gm [e]:=⟨Nat.le_refl _,fun x hx=>by rw [List.mem_singleton] at hx; subst hx; exact h⟩
theorem fY {l:List ai} {i:Nat} (hi:i<l.length) (s:List UInt8):dB l ((i:Nat):Int) s=some (az (ag l i) s):=by
 have h:=qa (o:=0) hi s
 unfold kG at h
 have e1:(rs l i 0).l=l:=rfl
 have e2:(rs l i 0).ah=(i:Int):=rfl
 rw [e1,e2] at h
 cases hq:dB l (i:Int) s with
 | none=>rw [hq] at h; cases h
 | some b=>rw [hq,aa] at h; cases h; rfl
theorem eg {l:List ai} (H:Ok l) {i:Nat} (hi:i<l.length) {s:List UInt8} (h:az (ag l i) s=true):i+1<l.length:=
 H.more i hi (by have :=(of_decide_eq_true h).1; omega)
theorem Al {l:List ai} (H:Ok l) {i:Nat} (hi:i<l.length) {s:List UInt8} (h:az (ag l i) s=true):jI l (i:Int) s=some (((i+1:Nat):Int),⟨0,0⟩):=by
 unfold jI
 rw [fY hi,aa,h,Bool.not_true,cond_false,cG hi H.len]
theorem Dx {l:List ai} {i:Nat} (hi:i<l.length) {s:List UInt8} (h:az (ag l i) s=false):jI l (i:Int) s=some (0,bd (ag l i)):=by
 unfold jI
 rw [fY hi,aa,h,Bool.not_false,cond_true,oe hi,aa]; rfl
theorem Ec {l:List ai} {i o:Nat} (hi:i<l.length):iL (at' l i o)=some (aH.mk (aV.mk l (i:Int) (bd (ag l i))) (o:Int)):=by
 unfold iL
 rw [oS hi,aa]
 dsimp only
 unfold bd
 by_cases h4:(ag l i).Kind=4
 · rw [if_pos h4,if_pos h4]
   unfold gV
   rw [kV,aa]
   rfl
 · rw [if_neg h4,if_neg h4]
   unfold gV
   rw [kV,aa]
   rfl
theorem Ri {s:aH} (h:s.Row.aE.Code≠0):gw s=some ([],s):=by
 unfold gw
 have hn:pS s=some (false,s):=by unfold pS; rw [D3 h,aa]; rfl
 rw [hn,aa,Bool.not_false,cond_true]
 dsimp only
 rw [Jh h,aa]
theorem zn {l:List ai} (H:Ok l) {i o:Nat} (hi:i<l.length):sN (fun _=>True) l (i+1) o (gw (at' l i o)) (gy l (i:Int)):=by
 cases hn:(decide ((ag l i).Kind=1)&& !er (ag l i).Text) with
 | true=>
  have hn':=hn
  rw [Bool.and_eq_true,decide_eq_true_eq,Bool.not_eq_true'] at hn'
  refine .inl ⟨(ag l i).Text,i+1,Nat.le_refl _,H.more i hi (by omega),trivial,I_ hi H.len hn'.1 hn'.2, ?_⟩
  unfold gy
  rw [qb hi,aa,hn,Bool.not_true,cond_false,if_pos (by omega),if_pos (by omega),cG hi H.len,Int.toNat_natCast]
  rfl
 | false=>
  refine .inr ⟨[],aH.mk (aV.mk l (i:Int) (bd (ag l i))) (o:Int),[],0,iC _, ?_, ?_⟩
  · unfold gw
    rw [AD hi,aa,hn,Bool.not_false,cond_true]
    dsimp only
    rw [Ec hi,aa]
  · unfold gy
    rw [qb hi,aa,hn,Bool.not_false,cond_true,oe hi,aa]
    rfl
theorem MV {l:List ai} (H:Ok l) {i:Nat} (hi:i<l.length):
 (∃ e j,i+1≤j∧j<l.length∧Fd e∧mG l (i:Int)=some (e,((j:Nat):Int),⟨0,0⟩)∧jk l (i:Int)=some (e,((j:Nat):Int),⟨0,0⟩))∨
 (∃ f,f.Code≠0∧mG l (i:Int)=some (ak.mk 0 0 [] [] 0,0,f)∧jk l (i:Int)=some (ak.mk 0 0 [] [] 0,0,f)):=by
 rcases (both H l.length i 0 (by omega) hi (by decide)).2 5 1 rfl (by decide) with ⟨e,i',Z,h1,h2,pG,hf,hg⟩ | ⟨e,s,e',s',Z,h1,h2,hf,hg⟩
 · refine .inl ⟨e,i',h1,h2,pG, ?_, ?_⟩
   · unfold mG
     rw [show yu (aP.mk (aV.mk l (i:Int) (aF.mk 0 0)) 0) 1=some (e,st l i' 0) from bn Z fun k hk=>hf k hk k hk,aa,zp,aa,Bool.not_true,cond_false,eta]
     rfl
   · unfold jk
     rw [show zO (aU.mk l (i:Int) 0 (aF.mk 0 0)) 1=some (e,rs l i' 0) from bn Z fun k hk=>hg k hk k hk,aa,if_neg (by intro q; exact q rfl),eta]
     rfl
 · refine .inr ⟨s.Row.aE,h1, ?_, ?_⟩
   · unfold mG
     rw [show yu (aP.mk (aV.mk l (i:Int) (aF.mk 0 0)) 0) 1=some (e,s) from bn Z fun k hk=>hf k hk k hk,aa,GB h1,aa,Bool.not_false,cond_true]
   · unfold jk
     rw [show zO (aU.mk l (i:Int) 0 (aF.mk 0 0)) 1=some (e',s') from bn Z fun k hk=>hg k hk k hk,aa,h2,if_pos h1]
theorem KG {l:List ai} (H:Ok l) {i o:Nat} (hi:i<l.length):
 (∃ e j,i+1≤j∧j<l.length∧Fd e∧ke (at' l i o)=some ([e],at' l j o)∧jk l (i:Int)=some (e,((j:Nat):Int),⟨0,0⟩))∨
 (∃ X s,s.Row.aE.Code≠0∧ke (at' l i o)=some (X,s)∧jk l (i:Int)=some (ak.mk 0 0 [] [] 0,0,s.Row.aE)):=by
 have hu:ke (at' l i o)=(mG l (i:Int)).bind fun r2=>
  (gV (at' l i o) r2.2.2.Code r2.2.2.At).bind fun r3=>
  some ([ak.mk r2.1.Kind r2.1.N r2.1.Name r2.1.Kids r2.1.At],aH.mk (aV.mk r3.Row.L r2.2.1 r3.Row.aE) r3.bl):=by
  unfold ke
  rw [kV,aa,Bool.not_true,cond_false]
  rfl
 rcases MV H hi with ⟨e,j,h1,h2,h3,h4,h5⟩ | ⟨f,h1,h2,h3⟩
 · refine .inl ⟨e,j,h1,h2,h3, ?_,h5⟩
   rw [hu,h4,aa]
   dsimp only
   unfold gV
   rw [kV,aa,cond_true,aa,eta]
   rfl
 · refine .inr ⟨[ak.mk 0 0 [] [] 0],aH.mk (aV.mk l 0 f) (o:Int),h1, ?_,h3⟩
   rw [hu,h2,aa]
   dsimp only
   unfold gV
   rw [kV,aa,cond_true,aa]
   rfl
theorem D1 {s:aH} (h:s.Row.aE.Code≠0):ke s=some ([],s):=by
 unfold ke
 rw [xQ h,aa,Bool.not_false,cond_true]
theorem Eg {l:List ai} (H:Ok l) {i o:Nat} (hi:i<l.length):sN gm l (i+1) o (jt (at' l i o)) (kH l (i:Int)):=by
 cases gu:az (ag l i) cQ with
 | false=>
  refine .inr ⟨[],aH.mk (aV.mk l (i:Int) (bd (ag l i))) (o:Int),[],0,iC _, ?_, ?_⟩
  · unfold jt
    rw [xT hi H.len gu,aa,D1 (iC _),aa]
    dsimp only
    rw [tf (iC _),aa]
  · unfold kH
    rw [Dx hi gu,aa,if_pos (iC _)]
 | true=>
  have hm:=eg H hi gu
  have f0:jt (at' l i o)=(ke (at' l (i+1) o)).bind fun r2=>(dx r2.2 cD).bind fun r3=>some (r2.1,r3):=by
   unfold jt
   rw [vc hi H.len gu,aa]
  have g0:kH l (i:Int)=(jk l ((i+1:Nat):Int)).bind fun r2=>
   if r2.2.2.Code≠0 then
   some ([],0,r2.2.2) else
   (jI l r2.2.1 cD).bind fun r3=>
   some ([ak.mk r2.1.Kind r2.1.N r2.1.Name r2.1.Kids r2.1.At],r3.1,r3.2):=by
   unfold kH
   rw [Al H hi gu,aa,if_neg (by simp)]
  rcases KG (o:=o) H hm with ⟨e,j,h1,h2,h3,h4,h5⟩ | ⟨X,s,h1,h2,h3⟩
  · cases iG:az (ag l j) cD with
    | true=>
     refine .inl ⟨[e],j+1,by omega,eg H h2 iG,gm.one h3, ?_, ?_⟩
     · rw [f0,h4,aa]
       dsimp only
       rw [vc h2 H.len iG,aa]
     · rw [g0,h5,aa]
       dsimp only
       rw [if_neg (by simp),Al H h2 iG,aa,eta]
    | false=>
     refine .inr ⟨[e],aH.mk (aV.mk l (j:Int) (bd (ag l j))) (o:Int),[e],0,iC _, ?_, ?_⟩
     · rw [f0,h4,aa]
       dsimp only
       rw [xT h2 H.len iG,aa]
     · rw [g0,h5,aa]
       dsimp only
       rw [if_neg (by simp),Dx h2 iG,aa,eta]
  · refine .inr ⟨X,s,[],0,h1, ?_, ?_⟩
    · rw [f0,h2,aa]
      dsimp only
      rw [tf h1,aa]
    · rw [g0,h3,aa]
      dsimp only
      rw [if_pos h1]
theorem Mz {l:List ai} (H:Ok l) {i o:Nat} (hi:i<l.length):sN gm l i o (nH (at' l i o)) (p7 l (i:Int)):=by
 unfold nH p7
 rw [oR hi,aa,fY hi,aa]
 dsimp only
 cases gu:az (ag l i) cQ with
 | false=>exact .inl ⟨[],i,Nat.le_refl _,hi,gm.nil,rfl,rfl⟩
 | true=>
  rw [Bool.not_true,cond_false,cond_false]
  rcases Eg (o:=o) H hi with ⟨v,j,h1,h2,hq,h3,h4⟩ | ⟨v,s,v',j',h1,h2,h3⟩
  · exact .inl ⟨v,j,by omega,h2,hq,by rw [h3,aa],by rw [h4,aa]⟩
  · exact .inr ⟨v,s,v',j',h1,by rw [h2,aa],by rw [h3,aa]⟩
end Go.Sy.Ex
namespace Go.Sy.Ex
open Go.Sy
noncomputable def jK (l:List ai) (a:aj) (p:Int) (f:aF):Option (aj×Int×aF):=
 if f.Code≠0 then some (aj.mk 0 [] [] [] 0 [] [] 0,0,f) else (jI l p bw).bind fun r=>some (a,r.1,r.2)
theorem R2 (k:Nat) (l:List ai) (p:Int) (K:Int) (N E:List UInt8) (X:List ak) (n:Int) (T L:List aj) (A c fa:Int):kI (k+1) l p 0 [] [] [] 0 [] [] 0 0 0 K N E X n T L A c fa=jK l (aj.mk K N E X n T L A) p ⟨c,fa⟩:=by
 rw [kI.eq_2]; rfl
theorem Ab {l:List ai} (H:Ok l) {i j o:Nat} (hij:i≤j) (hj:j<l.length) (a:aj) (hQ:sL a):sN sL l i o ((dx (at' l j o) bw).bind fun r=>some (a,r)) (jK l a ((j:Nat):Int) ⟨0,0⟩):=by
 unfold jK
 rw [if_neg (by simp)]
 cases h:az (ag l j) bw with
 | true=>exact .inl ⟨a,j+1,by omega,eg H hj h,hQ,by rw [vc hj H.len h,aa],by rw [Al H hj h,aa]⟩
 | false=>exact .inr ⟨a,aH.mk (aV.mk l (j:Int) (bd (ag l j))) (o:Int),a,0,iC _,by rw [xT hj H.len h,aa],by rw [Dx hj h,aa]⟩
theorem nk {l:List ai} {i o:Nat} {s:aH} (h:s.Row.aE.Code≠0) (a a':aj) (p:Int):sN sL l i o ((dx s bw).bind fun r=>some (a,r)) (jK l a' p s.Row.aE):=by
 unfold jK
 rw [if_pos h]
 exact .inr ⟨a,s,_,_,h,by rw [tf h,aa],rfl⟩
theorem D4 {s:aH} (h:s.Row.aE.Code≠0):nH s=some ([],s):=by
 unfold nH
 rw [D2 h,aa,Bool.not_false,cond_true]
theorem Rd {s:aH} (h:s.Row.aE.Code≠0):jt s=some ([],s):=by
 unfold jt
 rw [tf h,aa,D1 h,aa]
 dsimp only
 rw [tf h,aa]
theorem kM {l : List ai} {i : Nat} (hi : i < l.length) (hl : l.length ≤ 100000) (r : Option (aj × Int × aF)) (h : (bif az (ag l i) lU then
      (gy l ((i+1:Nat):Int)).bind fun r2=>
      if r2.2.2.Code=0 then (p7 l r2.2.1).bind fun r3=>jK l (aj.mk 2 [] r2.1 r3.1 0 [] [] (ag l i).At) r3.2.1 ⟨r3.2.2.Code,r3.2.2.At⟩
      else jK l (aj.mk 2 [] r2.1 [] 0 [] [] (ag l i).At) r2.2.1 ⟨r2.2.2.Code,r2.2.2.At⟩
 else bif az (ag l i) lW then
  (gy l ((i+1:Nat):Int)).bind fun r5=>
  if r5.2.2.Code=0 then
   (gy l r5.2.1).bind fun r6=>
   if r6.2.2.Code=0 then (p7 l r6.2.1).bind fun r7=>jK l (aj.mk 3 r5.1 r6.1 r7.1 0 [] [] (ag l i).At) r7.2.1 ⟨r7.2.2.Code,r7.2.2.At⟩
   else jK l (aj.mk 3 r5.1 r6.1 [] 0 [] [] (ag l i).At) r6.2.1 ⟨r6.2.2.Code,r6.2.2.At⟩
  else jK l (aj.mk 3 r5.1 [] [] 0 [] [] (ag l i).At) r5.2.1 ⟨r5.2.2.Code,r5.2.2.At⟩
 else bif az (ag l i) lT then
  (gy l ((i+1:Nat):Int)).bind fun aT=>
  if aT.2.2.Code=0 then (kH l aT.2.1).bind fun bC=>jK l (aj.mk 4 aT.1 [] bC.1 0 [] [] (ag l i).At) bC.2.1 ⟨bC.2.2.Code,bC.2.2.At⟩
  else jK l (aj.mk 4 aT.1 [] [] 0 [] [] (ag l i).At) aT.2.1 ⟨aT.2.2.Code,aT.2.2.At⟩
 else bif az (ag l i) nc then
  (gy l ((i+1:Nat):Int)).bind fun bL=>jK l (aj.mk 5 bL.1 [] [] 0 [] [] (ag l i).At) bL.2.1 ⟨bL.2.2.Code,bL.2.2.At⟩
 else (p8 l (i:Int)).bind fun bE=>jK l (aj.mk bE.1.Kind bE.1.Name bE.1.Event bE.1.X bE.1.N bE.1.eU bE.1.eB bE.1.At) bE.2.1 ⟨bE.2.2.Code,bE.2.2.At⟩)=r) (hr:r≠none):p9 l (i:Int)=r:=by
 cases hr':r with
 | none=>exact absurd hr' hr
 | some v=>
  rw [← hr']
  subst hr'
  refine bn 1 fun k hk=> ?_
  obtain ⟨k,rfl⟩: ∃ j,k=j+1:=⟨k - 1,by omega⟩
  show CC (k+1) l (i:Int)=some v
  rw [← h]
  unfold CC
  have et:l.getD ((i:Nat):Int).toNat ai.z=ag l i:=by rw [Int.toNat_natCast]; rfl
  rw [if_pos (by omega),if_pos (by omega),fY hi,aa,cG hi hl,et]
  simp only [R2]
  cases az (ag l i) lU with
  | true=>rfl
  | false=>
   rw [cond_false,cond_false,fY hi,aa]
   cases az (ag l i) lW with
   | true=>
    rw [cond_true,cond_true]
    cases gy l ((i+1:Nat):Int) with
    | none=>rfl
    | some r5=>
     rw [aa,aa]
     by_cases c5:r5.2.2.Code=0
     · rw [if_pos c5,if_pos c5]
     · rw [if_neg c5,if_neg c5,if_neg c5]
   | false=>
    rw [cond_false,cond_false,fY hi,aa]
    cases az (ag l i) lT with
    | true=>rfl
    | false=>
     rw [cond_false,cond_false,fY hi,aa]
theorem DW {l : List ai} {i o : Nat} (hi : i < l.length) (hl : l.length ≤ 100000) (hif : az (ag l i) j7 = false) (hlo : az (ag l i) jJ = false) (self : aH → Option (List aj × aH)) : iV self (at' l i o) = (bif decide ((ag l i).Kind = 1) && !er (ag l i).Text then
      (gw (at' l i o)).bind fun r3=>
      (dx r3.2 oB).bind fun r4=>
      (ke r4).bind fun r5=>
      (dx r5.2 bw).bind fun r6=>
      some (aj.mk 1 r3.1 [] r5.1 0 [] [] (ag l i).At,r6) else
      bif az (ag l i) lU then
      (gw (at' l (i+1) o)).bind fun r8=>
      (nH r8.2).bind fun r9=>
      (dx r9.2 bw).bind fun aT=>
      some (aj.mk 2 [] r8.1 r9.1 0 [] [] (ag l i).At,aT) else
      bif az (ag l i) lW then
      (gw (at' l (i+1) o)).bind fun bp=>
      (gw bp.2).bind fun bL=>
      (nH bL.2).bind fun bE=>
      (dx bE.2 bw).bind fun ep=>
      some (aj.mk 3 bp.1 bL.1 bE.1 0 [] [] (ag l i).At,ep) else
      bif az (ag l i) lT then
      (gw (at' l (i+1) o)).bind fun jB=>
      (jt jB.2).bind fun jC=>
      (dx jC.2 bw).bind fun lG=>
      some (aj.mk 4 jB.1 [] jC.1 0 [] [] (ag l i).At,lG) else
      bif az (ag l i) nc then
      (gw (at' l (i+1) o)).bind fun oa=>
      (dx oa.2 bw).bind fun uq=>
      some (aj.mk 5 oa.1 [] [] 0 [] [] (ag l i).At,uq) else
      (iL (at' l i o)).bind fun v_=>
      (dx v_ bw).bind fun we=>
      some (aj.mk 0 [] [] [] 0 [] [] (ag l i).At,we)):=by
 unfold iV
 rw [oS hi,aa]
 dsimp only
 rw [AD hi,aa]
 dsimp only
 cases (decide ((ag l i).Kind=1)&& !er (ag l i).Text) with
 | true=>rfl
 | false=>
  rw [cond_false,cond_false,iB hi hl,aa]
  dsimp only
  cases az (ag l i) lU with
  | true=>rfl
  | false=>
   rw [cond_false,cond_false,if_neg (by decide),iB hi hl,aa]
   dsimp only
   cases az (ag l i) lW with
   | true=>rfl
   | false=>
    rw [cond_false,cond_false,if_neg (by decide),iB hi hl,aa]
    dsimp only
    cases az (ag l i) lT with
    | true=>rfl
    | false=>
     rw [cond_false,cond_false,if_neg (by decide),iB hi hl,aa]
     dsimp only
     cases az (ag l i) nc with
     | true=>rfl
     | false=>
      rw [cond_false,cond_false,if_neg (by decide),oR hi,aa,hif,cond_false]
      dsimp only
      rw [oR hi,aa,hlo,cond_false]
theorem Q_ {l:List ai} (H:Ok l) {i o:Nat} (hi:i<l.length) (hif:az (ag l i) j7=false) (hlo:az (ag l i) jJ=false) (self:aH→Option (List aj×aH)):sN sL l (i+1) o (iV self (at' l i o)) (p9 l (i:Int)):=by
 have hl:=H.len
 have f0:=DW (o:=o) hi hl hif hlo self
 have nm: ∀ s,er s=true→az (ag l i) s=true→(decide ((ag l i).Kind=1)&& !er (ag l i).Text)=false:=fun s hs h=>by
  have :=(of_decide_eq_true h).2
  rw [this,hs]; simp
 rw [f0]
 cases d_:az (ag l i) lU with
 | true=>
  have hm:=eg H hi d_
  rw [nm lU (by decide) d_,cond_false,cond_true]
  rcases zn (o:=o) H hm with ⟨v,j,h1,h2, -,h3,h4⟩ | ⟨v,s,v',j',h1,h2,h3⟩
  · rcases Mz (o:=o) H h2 with ⟨X,j2,g1,g2,gx,g3,g4⟩ | ⟨X,s,X',j',g1,g2,g3⟩
    · have key:=Ab (o:=o) H (i:=i+1) (show i+1≤j2 by omega) g2 (aj.mk 2 [] v X 0 [] [] (ag l i).At) ⟨gx,rfl,rfl⟩
      rw [h3,aa,g3,aa]
      rw [kM hi hl _ (by rw [d_,cond_true,h4,aa,if_pos rfl,g4,aa]) (by rcases key with ⟨_,_,_,_,_,_,q⟩ | ⟨_,_,_,_,_,_,q⟩ <;> (intro e; exact absurd (q.symm.trans e) (by simp)))]
      exact key
    · have key:=nk (l:=l) (i:=i+1) (o:=o) g1 (aj.mk 2 [] v X 0 [] [] (ag l i).At) (aj.mk 2 [] v X' 0 [] [] (ag l i).At) j'
      rw [h3,aa,g2,aa]
      rw [kM hi hl _ (by rw [d_,cond_true,h4,aa,if_pos rfl,g3,aa]) (by rcases key with ⟨_,_,_,_,_,_,q⟩ | ⟨_,_,_,_,_,_,q⟩ <;> (intro e; exact absurd (q.symm.trans e) (by simp)))]
      exact key
  · have key:=nk (l:=l) (i:=i+1) (o:=o) h1 (aj.mk 2 [] v [] 0 [] [] (ag l i).At) (aj.mk 2 [] v' [] 0 [] [] (ag l i).At) j'
    rw [h2,aa]
    dsimp only
    rw [D4 h1,aa]
    rw [kM hi hl _ (by rw [d_,cond_true,h3,aa,if_neg h1]) (by rcases key with ⟨_,_,_,_,_,_,q⟩ | ⟨_,_,_,_,_,_,q⟩ <;> (intro e; exact absurd (q.symm.trans e) (by simp)))]
    exact key
 | false=>
 rw [cond_false]
 cases dw:az (ag l i) lW with
 | true=>
  have hm:=eg H hi dw
  rw [nm lW (by decide) dw,cond_false,cond_true]
  rcases zn (o:=o) H hm with ⟨v,j,h1,h2, -,h3,h4⟩ | ⟨v,s,v',j',h1,h2,h3⟩
  · rcases zn (o:=o) H h2 with ⟨u,j1,k1,k2, -,k3,k4⟩ | ⟨u,s,u',j',k1,k2,k3⟩
    · rcases Mz (o:=o) H k2 with ⟨X,j2,g1,g2,gx,g3,g4⟩ | ⟨X,s,X',j',g1,g2,g3⟩
      · have key:=Ab (o:=o) H (i:=i+1) (show i+1≤j2 by omega) g2 (aj.mk 3 v u X 0 [] [] (ag l i).At) ⟨gx,rfl,rfl⟩
        rw [h3,aa]
        dsimp only
        rw [k3,aa,g3,aa]
        rw [kM hi hl _ (by rw [d_,cond_false,dw,cond_true,h4,aa,if_pos rfl,k4,aa,if_pos rfl,g4,aa]) (by rcases key with ⟨_,_,_,_,_,_,q⟩ | ⟨_,_,_,_,_,_,q⟩ <;> (intro e; exact absurd (q.symm.trans e) (by simp)))]
        exact key
      · have key:=nk (l:=l) (i:=i+1) (o:=o) g1 (aj.mk 3 v u X 0 [] [] (ag l i).At) (aj.mk 3 v u X' 0 [] [] (ag l i).At) j'
        rw [h3,aa]
        dsimp only
        rw [k3,aa,g2,aa]
        rw [kM hi hl _ (by rw [d_,cond_false,dw,cond_true,h4,aa,if_pos rfl,k4,aa,if_pos rfl,g3,aa]) (by rcases key with ⟨_,_,_,_,_,_,q⟩ | ⟨_,_,_,_,_,_,q⟩ <;> (intro e; exact absurd (q.symm.trans e) (by simp)))]
        exact key
    · have key:=nk (l:=l) (i:=i+1) (o:=o) k1 (aj.mk 3 v u [] 0 [] [] (ag l i).At) (aj.mk 3 v u' [] 0 [] [] (ag l i).At) j'
      rw [h3,aa]
      dsimp only
      rw [k2,aa]
      dsimp only
      rw [D4 k1,aa]
      rw [kM hi hl _ (by rw [d_,cond_false,dw,cond_true,h4,aa,if_pos rfl,k3,aa,if_neg k1]) (by rcases key with ⟨_,_,_,_,_,_,q⟩ | ⟨_,_,_,_,_,_,q⟩ <;> (intro e; exact absurd (q.symm.trans e) (by simp)))]
      exact key
  · have key:=nk (l:=l) (i:=i+1) (o:=o) h1 (aj.mk 3 v [] [] 0 [] [] (ag l i).At) (aj.mk 3 v' [] [] 0 [] [] (ag l i).At) j'
    rw [h2,aa]
    dsimp only
    rw [Ri h1,aa]
    dsimp only
    rw [D4 h1,aa]
    rw [kM hi hl _ (by rw [d_,cond_false,dw,cond_true,h3,aa,if_neg h1]) (by rcases key with ⟨_,_,_,_,_,_,q⟩ | ⟨_,_,_,_,_,_,q⟩ <;> (intro e; exact absurd (q.symm.trans e) (by simp)))]
    exact key
 | false=>
 rw [cond_false]
 cases har:az (ag l i) lT with
 | true=>
  have hm:=eg H hi har
  rw [nm lT (by decide) har,cond_false,cond_true]
  rcases zn (o:=o) H hm with ⟨v,j,h1,h2, -,h3,h4⟩ | ⟨v,s,v',j',h1,h2,h3⟩
  · rcases Eg (o:=o) H h2 with ⟨X,j2,g1,g2,gx,g3,g4⟩ | ⟨X,s,X',j',g1,g2,g3⟩
    · have key:=Ab (o:=o) H (i:=i+1) (show i+1≤j2 by omega) g2 (aj.mk 4 v [] X 0 [] [] (ag l i).At) ⟨gx,rfl,rfl⟩
      rw [h3,aa]
      dsimp only
      rw [g3,aa]
      rw [kM hi hl _ (by rw [d_,cond_false,dw,cond_false,har,cond_true,h4,aa,if_pos rfl,g4,aa]) (by rcases key with ⟨_,_,_,_,_,_,q⟩ | ⟨_,_,_,_,_,_,q⟩ <;> (intro e; exact absurd (q.symm.trans e) (by simp)))]
      exact key
    · have key:=nk (l:=l) (i:=i+1) (o:=o) g1 (aj.mk 4 v [] X 0 [] [] (ag l i).At) (aj.mk 4 v [] X' 0 [] [] (ag l i).At) j'
      rw [h3,aa]
      dsimp only
      rw [g2,aa]
      rw [kM hi hl _ (by rw [d_,cond_false,dw,cond_false,har,cond_true,h4,aa,if_pos rfl,g3,aa]) (by rcases key with ⟨_,_,_,_,_,_,q⟩ | ⟨_,_,_,_,_,_,q⟩ <;> (intro e; exact absurd (q.symm.trans e) (by simp)))]
      exact key
  · have key:=nk (l:=l) (i:=i+1) (o:=o) h1 (aj.mk 4 v [] [] 0 [] [] (ag l i).At) (aj.mk 4 v' [] [] 0 [] [] (ag l i).At) j'
    rw [h2,aa]
    dsimp only
    rw [Rd h1,aa]
    rw [kM hi hl _ (by rw [d_,cond_false,dw,cond_false,har,cond_true,h3,aa,if_neg h1]) (by rcases key with ⟨_,_,_,_,_,_,q⟩ | ⟨_,_,_,_,_,_,q⟩ <;> (intro e; exact absurd (q.symm.trans e) (by simp)))]
    exact key
 | false=>
 rw [cond_false]
 cases hca:az (ag l i) nc with
 | true=>
  have hm:=eg H hi hca
  rw [nm nc (by decide) hca,cond_false,cond_true]
  rcases zn (o:=o) H hm with ⟨v,j,h1,h2, -,h3,h4⟩ | ⟨v,s,v',j',h1,h2,h3⟩
  · have key:=Ab (o:=o) H (i:=i+1) (show i+1≤j by omega) h2 (aj.mk 5 v [] [] 0 [] [] (ag l i).At) ⟨gm.nil,rfl,rfl⟩
    rw [h3,aa]
    rw [kM hi hl _ (by rw [d_,cond_false,dw,cond_false,har,cond_false,hca,cond_true,h4,aa]) (by rcases key with ⟨_,_,_,_,_,_,q⟩ | ⟨_,_,_,_,_,_,q⟩ <;> (intro e; exact absurd (q.symm.trans e) (by simp)))]
    exact key
  · have key:=nk (l:=l) (i:=i+1) (o:=o) h1 (aj.mk 5 v [] [] 0 [] [] (ag l i).At) (aj.mk 5 v' [] [] 0 [] [] (ag l i).At) j'
    rw [h2,aa]
    rw [kM hi hl _ (by rw [d_,cond_false,dw,cond_false,har,cond_false,hca,cond_true,h3,aa]) (by rcases key with ⟨_,_,_,_,_,_,q⟩ | ⟨_,_,_,_,_,_,q⟩ <;> (intro e; exact absurd (q.symm.trans e) (by simp)))]
    exact key
 | false=>
 rw [cond_false]
 have et:l.getD ((i:Nat):Int).toNat ai.z=ag l i:=by rw [Int.toNat_natCast]; rfl
 have sq: ∀ (r:Option (aj×Int×aF)),((p8 l (i:Int)).bind fun bE=>jK l (aj.mk bE.1.Kind bE.1.Name bE.1.Event bE.1.X bE.1.N bE.1.eU bE.1.eB bE.1.At) bE.2.1 ⟨bE.2.2.Code,bE.2.2.At⟩)=r→r≠none→p9 l (i:Int)=r:=fun r h hr=>kM hi hl r (by rw [d_,cond_false,dw,cond_false,har,cond_false,hca,cond_false]; exact h) hr
 cases hn:(decide ((ag l i).Kind=1)&& !er (ag l i).Text) with
 | false=>
  have key:=nk (l:=l) (i:=i+1) (o:=o) (s:=aH.mk (aV.mk l (i:Int) (bd (ag l i))) (o:Int)) (iC _) (aj.mk 0 [] [] [] 0 [] [] (ag l i).At) (aj.mk 1 [] [] [] 0 [] [] (ag l i).At) 0
  rw [cond_false,Ec hi,aa]
  have s0:p8 l (i:Int)=some (aj.mk 1 [] [] [] 0 [] [] (ag l i).At,0,bd (ag l i)):=by
   unfold p8 gy
   rw [if_pos (by omega),if_pos (by omega),qb hi,aa,hn,Bool.not_false,cond_true,oe hi,aa,aa,et]
   dsimp only
   rw [if_pos (nI _)]
   rfl
  rw [sq _ (by rw [s0,aa]) (by rcases key with ⟨_,_,_,_,_,_,q⟩ | ⟨_,_,_,_,_,_,q⟩ <;> (intro e; exact absurd (q.symm.trans e) (by simp)))]
  exact key
 | true=>
  have hn':=hn
  rw [Bool.and_eq_true,decide_eq_true_eq,Bool.not_eq_true'] at hn'
  have hm:=H.more i hi (by omega)
  have s0:p8 l (i:Int)=(jI l ((i+1:Nat):Int) oB).bind fun r2=>
   if r2.2.Code≠0 then
   some (aj.mk 1 (ag l i).Text [] [] 0 [] [] (ag l i).At,0,r2.2) else
   (jk l r2.1).bind fun r3=>
   some (aj.mk 1 (ag l i).Text [] [ak.mk r3.1.Kind r3.1.N r3.1.Name r3.1.Kids r3.1.At] 0 [] [] (ag l i).At,r3.2.1,r3.2.2):=by
   unfold p8 gy
   rw [if_pos (by omega),if_pos (by omega),qb hi,aa,hn,Bool.not_true,cond_false,if_pos (by omega),if_pos (by omega),cG hi hl,et,aa]
   dsimp only
   rw [if_neg (by simp)]
  rw [cond_true,I_ hi hl hn'.1 hn'.2,aa]
  dsimp only
  cases heq:az (ag l (i+1)) oB with
  | false=>
   have key:=nk (l:=l) (i:=i+1) (o:=o) (s:=aH.mk (aV.mk l ((i+1:Nat):Int) (bd (ag l (i+1)))) (o:Int)) (iC _) (aj.mk 1 (ag l i).Text [] [] 0 [] [] (ag l i).At) (aj.mk 1 (ag l i).Text [] [] 0 [] [] (ag l i).At) 0
   rw [xT hm hl heq,aa,D1 (iC _),aa]
   rw [sq _ (by rw [s0,Dx hm heq,aa,if_pos (iC _),aa]) (by rcases key with ⟨_,_,_,_,_,_,q⟩ | ⟨_,_,_,_,_,_,q⟩ <;> (intro e; exact absurd (q.symm.trans e) (by simp)))]
   exact key
  | true=>
   have hm2:=eg H hm heq
   rw [vc hm hl heq,aa]
   rcases KG (o:=o) H hm2 with ⟨e,j,h1,h2,h3,h4,h5⟩ | ⟨X,s,h1,h2,h3⟩
   · have key:=Ab (o:=o) H (i:=i+1) (show i+1≤j by omega) h2 (aj.mk 1 (ag l i).Text [] [e] 0 [] [] (ag l i).At) ⟨gm.one h3,rfl,rfl⟩
     rw [h4,aa]
     rw [sq _ (by rw [s0,Al H hm heq,aa,if_neg (by simp),h5,aa,aa,eta]) (by rcases key with ⟨_,_,_,_,_,_,q⟩ | ⟨_,_,_,_,_,_,q⟩ <;> (intro e; exact absurd (q.symm.trans e) (by simp)))]
     exact key
   · have key:=nk (l:=l) (i:=i+1) (o:=o) h1 (aj.mk 1 (ag l i).Text [] X 0 [] [] (ag l i).At) (aj.mk 1 (ag l i).Text [] [ak.mk 0 0 [] [] 0] 0 [] [] (ag l i).At) 0
     rw [h2,aa]
     rw [sq _ (by rw [s0,Al H hm heq,aa,if_neg (by simp),h3,aa,aa]) (by rcases key with ⟨_,_,_,_,_,_,q⟩ | ⟨_,_,_,_,_,_,q⟩ <;> (intro e; exact absurd (q.symm.trans e) (by simp)))]
     exact key
end Go.Sy.Ex
namespace Go.Sy.Ex
open Go.Sy
def Fl:Nat→List aj→Prop
 | 0,_=>False
 | n+1,l=>l.length≤100000∧ ∀ a ∈ l,gm a.X∧Fl n a.eU∧Fl n a.eB
def FL (l:List aj):Prop:= ∃ n,Fl n l
theorem Fl.up: ∀ {n m:Nat} {l:List aj},Fl n l→n≤m→Fl m l
 | 0,_,_,h,_=>h.elim
 | n+1,0,_,_,h=>by omega
 | n+1,m+1,l,⟨h1,h2⟩,h=>⟨h1,fun a ha=>⟨(h2 a ha).1,Fl.up (h2 a ha).2.1 (by omega),Fl.up (h2 a ha).2.2 (by omega)⟩⟩
theorem FL.nil:FL []:=⟨1,Nat.zero_le _,fun a ha=>by cases ha⟩
def AF (a:aj):Prop:=gm a.X∧FL a.eU∧FL a.eB
theorem sL.af {a:aj} (h:sL a):AF a:=⟨h.1,by rw [h.2.1]; exact FL.nil,by rw [h.2.2]; exact FL.nil⟩
theorem FL.push {l:List aj} {a:aj} (h:FL l) (ha:AF a) (hl:l.length<100000):FL (l++ [a]):=by
 obtain ⟨n,hn⟩:=h
 obtain ⟨hx,⟨m,hm⟩,⟨p,hp⟩⟩:=ha
 cases n with
 | zero=>exact hn.elim
 | succ n=>
  refine ⟨max n (max m p)+1,by rw [List.length_append,List.length_singleton]; omega,fun b hb=> ?_⟩
  rw [List.mem_append,List.mem_singleton] at hb
  rcases hb with hb | rfl
  · exact ⟨(hn.2 b hb).1,Fl.up (hn.2 b hb).2.1 (by omega),Fl.up (hn.2 b hb).2.2 (by omega)⟩
  · exact ⟨hx,Fl.up hm (by omega),Fl.up hp (by omega)⟩
def BS (l:List ai) (i d:Nat):Prop:=
 (∃ v j Z,i+1≤j∧j<l.length∧FL v∧(∀ k,Z≤k→e9 k (at' l i d)=some (v,at' l j d))∧ ∀ k,Z≤k→ga k l (i:Int) (d:Int)=some (v,((j:Nat):Int),⟨0,0⟩))∨
 (∃ v s Z,s.Row.aE.Code≠0∧(∀ k,Z≤k→e9 k (at' l i d)=some (v,s))∧ ∀ k,Z≤k→ga k l (i:Int) (d:Int)=some ([],0,s.Row.aE))
noncomputable def gI (k:Nat) (l:List ai) (i d:Nat):Option (aj×Int×aF):=
 bif az (ag l i) j7 then zQ (ga k) l (i:Int) ((d+1:Nat):Int) else bif az (ag l i) jJ then zR (ga k) l (i:Int) ((d+1:Nat):Int) else p9 l (i:Int)
def IT (l:List ai) (i d:Nat):Prop:=
 (∃ a j Z,i+1≤j∧j<l.length∧AF a∧(∀ k,Z≤k→iV (e9 k) (at' l i (d+1))=some (a,at' l j (d+1)))∧ ∀ k,Z≤k→gI k l i d=some (a,((j:Nat):Int),⟨0,0⟩))∨
 (∃ a s a' p Z,s.Row.aE.Code≠0∧(∀ k,Z≤k→iV (e9 k) (at' l i (d+1))=some (a,s))∧ ∀ k,Z≤k→gI k l i d=some (a',p,s.Row.aE))
theorem vP {t:ai} {s s':List UInt8} (h:az t s=true) (hne:s≠s'):az t s'=false:=by
 unfold az; rw [decide_eq_false_iff_not]; rintro ⟨_,q⟩; exact hne ((of_decide_eq_true h).2.symm.trans q)
theorem I7 {l:List ai} {i o:Nat} (hi:i<l.length) (hl:l.length≤100000) {w:List UInt8} (hw:az (ag l i) w=true) (hc:w=j7∨w=jJ) (self:aH→Option (List aj×aH)):
 iV self (at' l i o)=s_ self (at' l i o) (aj.mk 0 [] [] [] 0 [] [] (ag l i).At):=by
 have be: ∀ x:Option (aj×aH),(x.bind fun r=>some (aj.mk r.1.Kind r.1.Name r.1.Event r.1.X r.1.N r.1.eU r.1.eB r.1.At,r.2))=x:=fun x=>by
  cases x with
  | none=>rfl
  | some r=>rw [aa,td]
 have hn:(decide ((ag l i).Kind=1)&& !er (ag l i).Text)=false:=by
  rw [(of_decide_eq_true hw).2]
  rcases hc with rfl | rfl
  · rw [show er j7=true from by decide]; simp
  · rw [show er jJ=true from by decide]; simp
 unfold iV
 rw [oS hi,aa]
 dsimp only
 rw [AD hi,aa,hn,cond_false]
 dsimp only
 rw [iB hi hl,aa,vP hw (by rcases hc with rfl | rfl <;> decide),cond_false,if_neg (by decide)]
 dsimp only
 rw [iB hi hl,aa,vP hw (by rcases hc with rfl | rfl <;> decide),cond_false,if_neg (by decide)]
 dsimp only
 rw [iB hi hl,aa,vP hw (by rcases hc with rfl | rfl <;> decide),cond_false,if_neg (by decide)]
 dsimp only
 rw [iB hi hl,aa,vP hw (by rcases hc with rfl | rfl <;> decide),cond_false,if_neg (by decide)]
 dsimp only
 rw [oR hi,aa]
 dsimp only
 rcases hc with rfl | rfl
 · rw [hw,cond_true,cond_true,be]
 · rw [vP hw (by decide),cond_false,oR hi,aa]
   dsimp only
   rw [hw,cond_true,be]
theorem Jr {s:aH} (h:s.Row.aE.Code≠0): ∃ s',s'.Row=s.Row∧ ∀ k,e9 (k+3) s=some ([],s'):=by
 refine ⟨aH.mk s.Row (an (an (s.bl+1) - 1)),rfl,fun k=> ?_⟩
 show nG (e9 (k+2)) (k+2) s=_
 unfold nG
 rw [D2 h,aa,cond_false,qI.eq_2]
 rw [show aH.mk (aV.mk s.Row.L s.Row.At (aF.mk s.Row.aE.Code s.Row.aE.At)) s.bl=s from by cases s; rename_i r o; cases r; rename_i l a f; cases f; rfl,tf h,aa]
 exact AE (s:=aH.mk s.Row (an (s.bl+1))) h _ k []
theorem V2 {l:List ai} (H:Ok l) {i d:Nat} (hi:i<l.length) (hd:d≤10) (IH: ∀ j,i<j→j<l.length→BS l j (d+1)):IT l i d:=by
 have hl:=H.len
 have et:l.getD ((i:Nat):Int).toNat ai.z=ag l i:=by rw [Int.toNat_natCast]; rfl
 cases hif:az (ag l i) j7 with
 | true=>
  have hm:=eg H hi hif
  have hlo:az (ag l i) jJ=false:=vP hif (by decide)
  have f0: ∀ self,iV self (at' l i (d+1))=(jt (at' l (i+1) (d+1))).bind fun r5=>
   (self r5.2).bind fun r6=>
   (ij r6.2 qg).bind fun r7=>
   bif r7.1 then
   (self r7.2).bind fun r8=>
   some (aj.mk 6 [] [] r5.1 0 r6.1 r8.1 (ag l i).At,r8.2) else
   some (aj.mk 6 [] [] r5.1 0 r6.1 [] (ag l i).At,r7.2):=fun self=>by
   rw [I7 hi hl hif (.inl rfl)]
   unfold s_
   rw [iB hi hl,aa,hlo,cond_false,if_neg (by decide)]
   dsimp only
   rw [vc hi hl hif,aa]
  have g0: ∀ k,gI k l i d=(kH l ((i+1:Nat):Int)).bind fun r1=>
   if r1.2.2.Code≠0 then
   some (aj.mk 6 [] [] [] 0 [] [] (ag l i).At,0,r1.2.2) else
   (ga k l r1.2.1 ((d+1:Nat):Int)).bind fun r2=>
   if r2.2.2.Code=0 then
   (dB l r2.2.1 qg).bind fun r3=>
   bif r3 then
   (ga k l (an (r2.2.1+1)) ((d+1:Nat):Int)).bind fun r4=>
   some (aj.mk 6 [] [] r1.1 0 r2.1 r4.1 (ag l i).At,r4.2.1,r4.2.2) else
   some (aj.mk 6 [] [] r1.1 0 r2.1 [] (ag l i).At,r2.2.1,r2.2.2) else
   some (aj.mk 6 [] [] r1.1 0 r2.1 [] (ag l i).At,r2.2.1,r2.2.2):=fun k=>by
   unfold gI zQ
   rw [hif,cond_true,if_pos (by omega),if_pos (by omega),cG hi hl,et]
  rcases Eg (o:=d+1) H hm with ⟨X,j,h1,h2,hX,h3,h4⟩ | ⟨X,s,X',j',h1,h2,h3⟩
  · rcases IH j (by omega) h2 with ⟨v,j2,Z,k1,k2,k3,k4,k5⟩ | ⟨v,s,Z,k1,k2,k3⟩
    · cases hel:az (ag l j2) qg with
      | true=>
       have hm2:=eg H k2 hel
       rcases IH (j2+1) (by omega) hm2 with ⟨w,j3,Z2,m1,m2,m3,m4,m5⟩ | ⟨w,s,Z2,m1,m2,m3⟩
       · refine .inl ⟨aj.mk 6 [] [] X 0 v w (ag l i).At,j3,Z+Z2,by omega,m2,⟨hX,k3,m3⟩,fun k hk=> ?_,fun k hk=> ?_⟩
         · rw [f0,h3,aa]
           dsimp only
           rw [k4 k (by omega),aa]
           dsimp only
           rw [iB k2 hl,aa,hel,cond_true,if_pos rfl]
           dsimp only
           rw [m4 k (by omega),aa]
         · rw [g0,h4,aa]
           dsimp only
           rw [if_neg (by simp),k5 k (by omega),aa]
           dsimp only
           rw [if_pos rfl,fY k2,aa,hel,cond_true,cG k2 hl,m5 k (by omega),aa]
       · refine .inr ⟨aj.mk 6 [] [] X 0 v w (ag l i).At,s,aj.mk 6 [] [] X 0 v [] (ag l i).At,0,Z+Z2,m1,fun k hk=> ?_,fun k hk=> ?_⟩
         · rw [f0,h3,aa]
           dsimp only
           rw [k4 k (by omega),aa]
           dsimp only
           rw [iB k2 hl,aa,hel,cond_true,if_pos rfl]
           dsimp only
           rw [m2 k (by omega),aa]
         · rw [g0,h4,aa]
           dsimp only
           rw [if_neg (by simp),k5 k (by omega),aa]
           dsimp only
           rw [if_pos rfl,fY k2,aa,hel,cond_true,cG k2 hl,m3 k (by omega),aa]
      | false=>
       refine .inl ⟨aj.mk 6 [] [] X 0 v [] (ag l i).At,j2,Z,by omega,k2,⟨hX,k3,FL.nil⟩,fun k hk=> ?_,fun k hk=> ?_⟩
       · rw [f0,h3,aa]
         dsimp only
         rw [k4 k hk,aa]
         dsimp only
         rw [iB k2 hl,aa,hel,cond_false,if_neg (by decide)]
       · rw [g0,h4,aa]
         dsimp only
         rw [if_neg (by simp),k5 k hk,aa]
         dsimp only
         rw [if_pos rfl,fY k2,aa,hel,cond_false]
    · refine .inr ⟨aj.mk 6 [] [] X 0 v [] (ag l i).At,s,aj.mk 6 [] [] X 0 [] [] (ag l i).At,0,Z,k1,fun k hk=> ?_,fun k hk=> ?_⟩
      · rw [f0,h3,aa]
        dsimp only
        rw [k2 k hk,aa]
        dsimp only
        rw [Eb k1,aa,cond_false]
      · rw [g0,h4,aa]
        dsimp only
        rw [if_neg (by simp),k3 k hk,aa]
        dsimp only
        rw [if_neg k1]
  · obtain ⟨s',hs',hb⟩:=Jr h1
    have h1':s'.Row.aE.Code≠0:=by rw [hs']; exact h1
    refine .inr ⟨aj.mk 6 [] [] X 0 [] [] (ag l i).At,s',aj.mk 6 [] [] [] 0 [] [] (ag l i).At,0,3,h1',fun k hk=> ?_,fun k hk=> ?_⟩
    · obtain ⟨k,rfl⟩: ∃ j,k=j+3:=⟨k - 3,by omega⟩
      rw [f0,h2,aa]
      dsimp only
      rw [hb k,aa]
      dsimp only
      rw [Eb h1',aa,cond_false]
    · rw [g0,h3,aa]
      dsimp only
      rw [if_pos h1,hs']
 | false=>
 cases hlo:az (ag l i) jJ with
 | true=>
  have hm:=eg H hi hlo
  have f0: ∀ self,iV self (at' l i (d+1))=(rM (at' l (i+1) (d+1))).bind fun r2=>
   (self r2.2).bind fun r3=>
   some (aj.mk 7 [] [] [] r2.1 r3.1 [] (ag l i).At,r3.2):=fun self=>by
   rw [I7 hi hl hlo (.inr rfl)]
   unfold s_
   rw [iB hi hl,aa,hlo,cond_true,if_pos rfl]
  have TA:l.getD ((i+1:Nat):Int).toNat ai.z=ag l (i+1):=by rw [Int.toNat_natCast]; rfl
  have g0: ∀ k,gI k l i d=if (ag l (i+1)).Kind≠2 then
   some (aj.mk 7 [] [] [] 0 [] [] (ag l i).At,0,bd (ag l (i+1))) else
   (ga k l (an (((i+1:Nat):Int)+1)) ((d+1:Nat):Int)).bind fun r2=>
   some (aj.mk 7 [] [] [] (ag l (i+1)).N r2.1 [] (ag l i).At,r2.2.1,r2.2.2):=fun k=>by
   unfold gI zR
   rw [hif,cond_false,hlo,cond_true,if_pos (by omega),if_pos (by omega),cG hi hl,et,TA,if_pos (by omega),if_pos (by omega)]
   by_cases q:(ag l (i+1)).Kind≠2
   · rw [if_pos q,if_pos q,oe hm,aa]; rfl
   · rw [if_neg q,if_neg q,if_pos (by omega),if_pos (by omega)]
  by_cases hk2:(ag l (i+1)).Kind=2
  · have hm2:=H.more (i+1) hm (by omega)
    have By:rM (at' l (i+1) (d+1))=some ((ag l (i+1)).N,at' l (i+1+1) (d+1)):=by
     unfold rM
     rw [oS hm,aa]
     dsimp only
     rw [if_neg (by simp [hk2])]
     show some ((ag l (i+1)).N,(⟨⟨l,an (((i+1:Nat):Int)+1),⟨0,0⟩⟩,((d+1:Nat):Int)⟩:aH))=_
     rw [cG hm hl]; rfl
    rcases IH (i+1+1) (by omega) hm2 with ⟨v,j,Z,k1,k2,k3,k4,k5⟩ | ⟨v,s,Z,k1,k2,k3⟩
    · refine .inl ⟨aj.mk 7 [] [] [] (ag l (i+1)).N v [] (ag l i).At,j,Z,by omega,k2,⟨gm.nil,k3,FL.nil⟩,fun k hk=> ?_,fun k hk=> ?_⟩
      · rw [f0,By,aa]
        dsimp only
        rw [k4 k hk,aa]
      · rw [g0,if_neg (by simp [hk2]),cG hm hl,k5 k hk,aa]
    · refine .inr ⟨aj.mk 7 [] [] [] (ag l (i+1)).N v [] (ag l i).At,s,aj.mk 7 [] [] [] (ag l (i+1)).N [] [] (ag l i).At,0,Z,k1,fun k hk=> ?_,fun k hk=> ?_⟩
      · rw [f0,By,aa]
        dsimp only
        rw [k2 k hk,aa]
      · rw [g0,if_neg (by simp [hk2]),cG hm hl,k3 k hk,aa]
  · have By:rM (at' l (i+1) (d+1))=some (0,aH.mk (aV.mk l ((i+1:Nat):Int) (bd (ag l (i+1)))) ((d+1:Nat):Int)):=by
     unfold rM
     rw [oS hm,aa]
     dsimp only
     rw [if_pos hk2,Ec hm,aa]
    obtain ⟨s',hs',hb⟩:=Jr (s:=aH.mk (aV.mk l ((i+1:Nat):Int) (bd (ag l (i+1)))) ((d+1:Nat):Int)) (iC _)
    refine .inr ⟨aj.mk 7 [] [] [] 0 [] [] (ag l i).At,s',aj.mk 7 [] [] [] 0 [] [] (ag l i).At,0,3,by rw [hs']; exact iC _,fun k hk=> ?_,fun k hk=> ?_⟩
    · obtain ⟨k,rfl⟩: ∃ j,k=j+3:=⟨k - 3,by omega⟩
      rw [f0,By,aa]
      dsimp only
      rw [hb k,aa]
    · rw [g0,if_pos hk2,hs']
 | false=>
  have gs: ∀ k,gI k l i d=p9 l (i:Int):=fun k=>by unfold gI; rw [hif,cond_false,hlo,cond_false]
  have key: ∀ self,sN sL l (i+1) (d+1) (iV self (at' l i (d+1))) (p9 l (i:Int)):=fun self=>Q_ H hi hif hlo self
  have L8: ∀ self self',iV self (at' l i (d+1))=iV self' (at' l i (d+1)):=fun self self'=>(DW hi hl hif hlo self).trans (DW hi hl hif hlo self').symm
  rcases key (e9 0) with ⟨a,j,h1,h2,h3,h4,h5⟩ | ⟨a,s,a',p,h1,h2,h3⟩
  · exact .inl ⟨a,j,0,h1,h2,h3.af,fun k _=>by rw [L8 _ (e9 0)]; exact h4,fun k _=>by rw [gs]; exact h5⟩
  · exact .inr ⟨a,s,a',p,0,h1,fun k _=>by rw [L8 _ (e9 0)]; exact h2,fun k _=>by rw [gs]; exact h3⟩
end Go.Sy.Ex
namespace Go.Sy.Ex
open Go.Sy
theorem Ob {l:List ai} (H:Ok l) {i0 d:Nat} (hd:d≤10) (IH: ∀ i,i0≤i→i<l.length→IT l i d): ∀ (r i:Nat) (acc:List aj),l.length≤i+r→i0≤i→i<l.length→acc.length≤i→FL acc→
 (∃ v j Z,i+1≤j∧j<l.length∧FL v∧(∀ k,Z≤k→ ∀ k',Z≤k'→jP (e9 k) k' l (i:Int) 0 0 ((d+1:Nat):Int) acc=some (v,at' l j d))∧ ∀ k,Z≤k→ ∀ k',Z≤k'→lP (ga k) k' l (i:Int) (d:Int) 0 0 acc=some (v,((j:Nat):Int),⟨0,0⟩))∨
 (∃ v s Z,s.Row.aE.Code≠0∧(∀ k,Z≤k→ ∀ k',Z≤k'→jP (e9 k) k' l (i:Int) 0 0 ((d+1:Nat):Int) acc=some (v,s))∧ ∀ k,Z≤k→ ∀ k',Z≤k'→lP (ga k) k' l (i:Int) (d:Int) 0 0 acc=some ([],0,s.Row.aE))
 | 0,i,acc,hr,_,hi,_,_=>by omega
 | r+1,i,acc,hr,h0,hi,hacc,hfl=>by
  have hl:=H.len
  have hw:an (((d+1:Nat):Int) - 1)=(d:Int):=by rw [bP (by omega) (by omega)]; omega
  have VG:an ((d:Int)+1)=((d+1:Nat):Int):=by rw [bP (by omega) (by omega)]; omega
  have cZ:aH.mk (aV.mk l (i:Int) (aF.mk 0 0)) ((d+1:Nat):Int)=at' l i (d+1):=rfl
  cases hrb:az (ag l i) gG with
  | true=>
   refine .inl ⟨acc,i+1,1,Nat.le_refl _,eg H hi hrb,hfl,fun k hk k' hk'=> ?_,fun k hk k' hk'=> ?_⟩
   · obtain ⟨k',rfl⟩: ∃ j,k'=j+1:=⟨k' - 1,by omega⟩
     rw [jP.eq_2,cZ,kV,aa,cond_true]
     dsimp only
     rw [iB hi hl,aa,hrb,Bool.not_true,cond_false,if_pos rfl]
     show some (acc,(⟨⟨l,((i+1:Nat):Int),⟨0,0⟩⟩,an (((d+1:Nat):Int) - 1)⟩:aH))=_
     rw [hw]; rfl
   · obtain ⟨k',rfl⟩: ∃ j,k'=j+1:=⟨k' - 1,by omega⟩
     rw [lP.eq_2,fY hi,aa,hrb,Bool.not_true,cond_false,cG hi hl]
  | false=>
   have Fc: ∀ k k',jP (e9 k) (k'+1) l (i:Int) 0 0 ((d+1:Nat):Int) acc=(iV (e9 k) (at' l i (d+1))).bind fun r7=>
    if (acc.length+ [r7.1].length)*128≤140737488355328 then
    jP (e9 k) k' r7.2.Row.L r7.2.Row.At r7.2.Row.aE.Code r7.2.Row.aE.At r7.2.bl (acc++ [r7.1]) else none:=fun k k'=>by
    rw [jP.eq_2,cZ,kV,aa,cond_true]
    dsimp only
    rw [iB hi hl,aa,hrb,Bool.not_false,cond_true,if_neg (by decide)]
   have Ff: ∀ k k',lP (ga k) (k'+1) l (i:Int) (d:Int) 0 0 acc=(gI k l i d).bind fun r5=>
    if r5.2.2.Code≠0 then
    some ([],0,r5.2.2) else
    if (acc.length+ [r5.1].length)*128≤140737488355328 then
    lP (ga k) k' l r5.2.1 (d:Int) 0 0 (acc++ [r5.1]) else none:=fun k k'=>by
    rw [lP.eq_2,fY hi,aa,hrb,Bool.not_false,cond_true,fY hi,aa,VG]
    unfold gI
    simp only [td]
    cases az (ag l i) j7 with
    | true=>rfl
    | false=>
     rw [cond_false,cond_false,fY hi,aa]
     cases az (ag l i) jJ with
     | true=>rfl
     | false=>rfl
   rcases IH i h0 hi with ⟨a,j,Z,h1,h2,h3,h4,h5⟩ | ⟨a,s,a',p,Z,h1,h2,h3⟩
   · rcases Ob H hd IH r j (acc++ [a]) (by omega) (by omega) h2 (by rw [List.length_append,List.length_singleton]; omega) (hfl.push h3 (by omega)) with ⟨v,j2,Z2,k1,k2,k3,k4,k5⟩ | ⟨v,s,Z2,k1,k2,k3⟩
     · refine .inl ⟨v,j2,Z+Z2+1,by omega,k2,k3,fun k hk k' hk'=> ?_,fun k hk k' hk'=> ?_⟩
       · obtain ⟨k',rfl⟩: ∃ j,k'=j+1:=⟨k' - 1,by omega⟩
         rw [Fc,h4 k (by omega),aa,if_pos (by simp only [List.length_singleton]; omega)]
         exact k4 k (by omega) k' (by omega)
       · obtain ⟨k',rfl⟩: ∃ j,k'=j+1:=⟨k' - 1,by omega⟩
         rw [Ff,h5 k (by omega),aa,if_neg (by simp),if_pos (by simp only [List.length_singleton]; omega)]
         exact k5 k (by omega) k' (by omega)
     · refine .inr ⟨v,s,Z+Z2+1,k1,fun k hk k' hk'=> ?_,fun k hk k' hk'=> ?_⟩
       · obtain ⟨k',rfl⟩: ∃ j,k'=j+1:=⟨k' - 1,by omega⟩
         rw [Fc,h4 k (by omega),aa,if_pos (by simp only [List.length_singleton]; omega)]
         exact k2 k (by omega) k' (by omega)
       · obtain ⟨k',rfl⟩: ∃ j,k'=j+1:=⟨k' - 1,by omega⟩
         rw [Ff,h5 k (by omega),aa,if_neg (by simp),if_pos (by simp only [List.length_singleton]; omega)]
         exact k3 k (by omega) k' (by omega)
   · refine .inr ⟨acc++ [a],aH.mk s.Row (an (s.bl - 1)),Z+2,h1,fun k hk k' hk'=> ?_,fun k hk k' hk'=> ?_⟩
     · obtain ⟨k',rfl⟩: ∃ j,k'=j+2:=⟨k' - 2,by omega⟩
       rw [Fc,h2 k (by omega),aa,if_pos (by simp only [List.length_singleton]; omega)]
       exact AE h1 _ k' _
     · obtain ⟨k',rfl⟩: ∃ j,k'=j+1:=⟨k' - 1,by omega⟩
       rw [Ff,h3 k (by omega),aa,if_pos h1]
theorem Js {l:List ai} (H:Ok l): ∀ (n i d:Nat),l.length≤i+n→i<l.length→d≤4→BS l i d
 | 0,i,d,hn,hi,_=>by omega
 | n+1,i,d,hn,hi,hd=>by
  have hl:=H.len
  have et:l.getD ((i:Nat):Int).toNat ai.z=ag l i:=by rw [Int.toNat_natCast]; rfl
  cases hlb:az (ag l i) eS with
  | false=>
   have hw:dx (at' l i d) eS=_:=xT hi hl hlb
   refine .inr ⟨[],aH.mk (aV.mk l (i:Int) (bd (ag l i))) (an (an ((d:Int)+1) - 1)),3,iC _,fun k hk=> ?_,fun k hk=> ?_⟩
   · obtain ⟨k,rfl⟩: ∃ j,k=j+3:=⟨k - 3,by omega⟩
     show nG (e9 (k+2)) (k+2) (at' l i d)=_
     unfold nG
     rw [oR hi,aa]
     dsimp only
     rw [hlb,cond_false,qI.eq_2]
     rw [show aH.mk (aV.mk (at' l i d).Row.L (at' l i d).Row.At (aF.mk (at' l i d).Row.aE.Code (at' l i d).Row.aE.At)) (at' l i d).bl=at' l i d from rfl,hw,aa]
     exact AE (s:=aH.mk (aV.mk l (i:Int) (bd (ag l i))) (an ((d:Int)+1))) (iC _) _ k []
   · obtain ⟨k,rfl⟩: ∃ j,k=j+1:=⟨k - 1,by omega⟩
     show ov (ga k) k l (i:Int) (d:Int)=_
     unfold ov
     rw [fY hi,aa,hlb,Bool.not_false,cond_true,oe hi,aa]
     rfl
  | true=>
   have hm:=eg H hi hlb
   by_cases h4:d=4
   · subst h4
     have hk: ∃ k s n,strip (ag l i)=(k,s,n):=⟨_,_,_,rfl⟩
     refine .inr ⟨[],aH.mk (aV.mk l (i:Int) ⟨14,(ag l i).At⟩) (an (an (((4:Nat):Int)+1) - 1)),3,by show (14:Int)≠0; decide,fun k hk=> ?_,fun k hk=> ?_⟩
     · obtain ⟨k,rfl⟩: ∃ j,k=j+3:=⟨k - 3,by omega⟩
       show nG (e9 (k+2)) (k+2) (at' l i 4)=_
       unfold nG
       rw [oR hi,aa]
       dsimp only
       rw [hlb,cond_true,if_pos (by rfl),oS hi,aa]
       dsimp only
       rw [show gV (at' l i 4) 14 (ag l i).At=some (aH.mk (aV.mk l (i:Int) ⟨14,(ag l i).At⟩) ((4:Nat):Int)) from by
        unfold gV; rw [kV,aa]; rfl,aa,qI.eq_2]
       dsimp only
       have UE:(aH.mk (aV.mk l (i:Int) ⟨14,(ag l i).At⟩) ((4:Nat):Int)).Row.aE.Code≠0:=by show (14:Int)≠0; decide
       rw [tf UE,aa]
       have key: ∀ (self:aH→Option (List aj×aH)) (a w:Int),jP self (k+1) l (i:Int) 14 a w []=some ([],aH.mk (aV.mk l (i:Int) ⟨14,a⟩) (an (w - 1))):=fun self a w=>AE (s:=aH.mk (aV.mk l (i:Int) ⟨14,a⟩) w) (by show (14:Int)≠0; decide) self k []
       exact key _ _ _
     · obtain ⟨k,rfl⟩: ∃ j,k=j+1:=⟨k - 1,by omega⟩
       show ov (ga k) k l (i:Int) ((4:Nat):Int)=_
       unfold ov
       rw [fY hi,aa,hlb,Bool.not_true,cond_false,if_pos (by rfl),if_pos (by omega),if_pos (by omega),et]
   · have P_: ∀ j,i+1≤j→j<l.length→IT l j d:=fun j h1 h2=>V2 H h2 (by omega) fun q h3 Uj=>Js H n q (d+1) (by omega) Uj (by omega)
     have nU: ∀ k,e9 (k+2) (at' l i d)=jP (e9 (k+1)) k l ((i+1:Nat):Int) 0 0 ((d+1:Nat):Int) []:=fun k=>by
      show nG (e9 (k+1)) (k+1) (at' l i d)=_
      unfold nG
      rw [oR hi,aa]
      dsimp only
      rw [hlb,cond_true,if_neg (by show ¬ ((d:Nat):Int)=4; omega),qI.eq_2]
      rw [show aH.mk (aV.mk (at' l i d).Row.L (at' l i d).Row.At (aF.mk (at' l i d).Row.aE.Code (at' l i d).Row.aE.At)) (at' l i d).bl=at' l i d from rfl,vc hi hl hlb,aa]
      show jP (e9 (k+1)) k l ((i+1:Nat):Int) 0 0 (an (((d:Nat):Int)+1)) []=_
      rw [show an (((d:Nat):Int)+1)=((d+1:Nat):Int) from by rw [bP (by omega) (by omega)]; omega]
     have nV: ∀ k,ga (k+1) l (i:Int) (d:Int)=lP (ga k) k l ((i+1:Nat):Int) (d:Int) 0 0 []:=fun k=>by
      show ov (ga k) k l (i:Int) (d:Int)=_
      unfold ov
      rw [fY hi,aa,hlb,Bool.not_true,cond_false,if_neg (by omega),cG hi hl]
     rcases Ob H (by omega) P_ l.length (i+1) [] (by omega) (Nat.le_refl _) hm (Nat.zero_le _) FL.nil with ⟨v,j,Z,k1,k2,k3,k4,k5⟩ | ⟨v,s,Z,k1,k2,k3⟩
     · refine .inl ⟨v,j,Z+2,by omega,k2,k3,fun k hk=> ?_,fun k hk=> ?_⟩
       · obtain ⟨k,rfl⟩: ∃ j,k=j+2:=⟨k - 2,by omega⟩
         rw [nU]; exact k4 (k+1) (by omega) k (by omega)
       · obtain ⟨k,rfl⟩: ∃ j,k=j+1:=⟨k - 1,by omega⟩
         rw [nV]; exact k5 k (by omega) k (by omega)
     · refine .inr ⟨v,s,Z+2,k1,fun k hk=> ?_,fun k hk=> ?_⟩
       · obtain ⟨k,rfl⟩: ∃ j,k=j+2:=⟨k - 2,by omega⟩
         rw [nU]; exact k2 (k+1) (by omega) k (by omega)
       · obtain ⟨k,rfl⟩: ∃ j,k=j+1:=⟨k - 1,by omega⟩
         rw [nV]; exact k3 k (by omega) k (by omega)
end Go.Sy.Ex
namespace Go.Sy.Ex
open Go.Sy
theorem n8 {n:Nat} (h:n<1000000000):an ((n:Int)+1)=((n+1:Nat):Int):=by rw [bP (by omega) (by omega)]; omega
theorem Nc: ∀ (n:Nat) (e:ak),Fe n e→ ∀ k,n+4≤k→uA k e e=some true
 | 0,e,h,_,_=>h.elim
 | n+1,e,⟨h1,h4⟩,k,hk=>by
  obtain ⟨k,rfl⟩: ∃ j,k=j+1:=⟨k - 1,by omega⟩
  show Ct (uA k) k e e=_
  unfold Ct
  rw [if_neg (fun q=>q rfl),if_neg (fun q=>q rfl),if_neg (fun q=>q rfl),if_neg (fun q=>q rfl)]
  have loop: ∀ m i,i+m=e.Kids.length→ ∀ k',m+1≤k'→wF (uA k) k' e.Kind e.N e.Name e.Kids e.At e.Kind e.N e.Name e.Kids e.At ((i:Nat):Int)=some true:=by
   intro m
   induction m with
   | zero=>
    intro i h k' hk'
    obtain ⟨k',rfl⟩: ∃ j,k'=j+1:=⟨k' - 1,by omega⟩
    rw [wF.eq_2,if_neg (by omega)]
   | succ m ih=>
    intro i h k' hk'
    obtain ⟨k',rfl⟩: ∃ j,k'=j+1:=⟨k' - 1,by omega⟩
    have hi:i<e.Kids.length:=by omega
    rw [wF.eq_2,if_pos (by omega),if_pos (by omega),if_pos (by omega),if_pos (by omega),if_pos (by omega),Int.toNat_natCast,cK _ hi,Nc n _ (h4 _ (List.getElem_mem hi)) k (by omega),aa,Bool.not_true,cond_false,n8 (by omega)]
    exact ih (i+1) (by omega) k' (by omega)
  exact loop e.Kids.length 0 (by omega) k (by omega)
theorem XS {e:ak} (h:Fd e):Cs e e=some true:=by
 obtain ⟨n,hn⟩:=h
 exact bn (n+4) fun k hk=>Nc n e hn k hk
theorem MK {X:List ak} (h:gm X):wD X X=some true:=bn 2 fun k hk=>by
 obtain ⟨k,rfl⟩: ∃ j,k=j+2:=⟨k - 2,by omega⟩
 show Cq (k+2) X X=_
 unfold Cq
 rw [if_neg (fun q=>q rfl)]
 match X,h with
 | [],_=>rw [wE.eq_2,if_neg (by simp)]
 | [e],h=>
  rw [wE.eq_2,if_pos (by simp),if_pos (by decide),if_pos (by simp),if_pos (by decide),if_pos (by simp),show [e].getD (0:Int).toNat ak.z=e from rfl,XS (h.2 e (by simp)),aa,Bool.not_true,cond_false,show an ((0:Int)+1)=1 from by rw [bP (by decide) (by decide)]; rfl,wE.eq_2,if_neg (by simp)]
 | _::_::_,h=>exact absurd h.1 (by simp)
theorem HO: ∀ (n:Nat) (l:List aj),Fl n l→ ∀ k,n+100002≤k→uB k l l=some true
 | 0,l,h,_,_=>h.elim
 | n+1,l,⟨h1,h4⟩,k,hk=>by
  obtain ⟨k,rfl⟩: ∃ j,k=j+1:=⟨k - 1,by omega⟩
  show Cz (uB k) k l l=_
  unfold Cz
  rw [if_neg (fun q=>q rfl)]
  have loop: ∀ m i,i+m=l.length→ ∀ k',m+1≤k'→wI (uB k) k' l l ((i:Nat):Int)=some true:=by
   intro m
   induction m with
   | zero=>
    intro i h k' hk'
    obtain ⟨k',rfl⟩: ∃ j,k'=j+1:=⟨k' - 1,by omega⟩
    rw [wI.eq_2,if_neg (by omega)]
   | succ m ih=>
    intro i h k' hk'
    obtain ⟨k',rfl⟩: ∃ j,k'=j+1:=⟨k' - 1,by omega⟩
    have hi:i<l.length:=by omega
    obtain ⟨g1,g2,g3⟩:=h4 _ (List.getElem_mem hi)
    rw [wI.eq_2,if_pos (by omega),if_pos (by omega),if_pos (by omega),if_pos (by omega),if_pos (by omega),Int.toNat_natCast,cK _ hi,if_neg (fun q=>q rfl),if_neg (fun q=>q rfl),if_neg (fun q=>q rfl),if_neg (fun q=>q rfl),MK g1,aa,Bool.not_true,cond_false,HO n _ g2 k (by omega),aa,Bool.not_true,cond_false,HO n _ g3 k (by omega),aa,Bool.not_true,cond_false,n8 (by omega)]
    exact ih (i+1) (by omega) k' (by omega)
  exact loop l.length 0 (by omega) k (by omega)
theorem aav {n:Nat} {l:List aj} (h:Fl n l):rU l l=some true:=bn (n+100002) fun k hk=>HO n l h k hk
end Go.Sy.Ex
namespace Go.Sy.Ex
open Go.Sy
def ct (l:List ai) (i:Nat):aA:=⟨⟨l,(i:Int),⟨0,0⟩⟩⟩
def rt (l:List ai) (i:Nat):aB:=⟨l,(i:Int),⟨0,0⟩⟩
def cb (l:List ai) (i:Nat):aA:=⟨⟨l,(i:Int),bd (ag l i)⟩⟩
def rb (l:List ai) (i:Nat):aB:=⟨l,(i:Int),bd (ag l i)⟩
def mQ (t:ai):Bool:=decide (t.Kind=1)&& !er t.Text
section
variable {l:List ai} {i:Nat}
theorem nN:aA.mk (aV.mk (ct l i).Row.L (ct l i).Row.At (aF.mk (ct l i).Row.aE.Code (ct l i).Row.aE.At))=ct l i:=rfl
theorem Ov:aB.mk (rt l i).l (rt l i).ah (aF.mk (rt l i).bad.Code (rt l i).bad.At)=rt l i:=rfl
theorem tw:lK (ct l i)=some (true,ct l i):=rfl
theorem i_ (hi:i<l.length):fF (ct l i)=some (ag l i,ct l i):=by
 unfold fF
 rw [tw,aa]
 have h1: ¬ ((i:Nat):Int)<0:=by omega
 have h2: ¬ (l.length:Int)≤((i:Nat):Int):=by omega
 have h3:0≤((i:Nat):Int):=by omega
 have h4:((i:Nat):Int)<(l.length:Int):=by omega
 simp only [Bool.not_true,cond_false,ct,Int.toNat_natCast,h1,h2,h3,h4,if_true,if_false]; rfl
theorem o7 (hi:i<l.length) (s:List UInt8):fm (ct l i) s=some (az (ag l i) s,ct l i):=by
 unfold fm az
 rw [i_ hi,aa]
 dsimp only
 by_cases h3:(ag l i).Kind=3
 · rw [if_pos h3]; congr 2; rw [decide_eq_decide]; simp [h3]
 · rw [if_neg h3]
   by_cases h1:(ag l i).Kind=1
   · rw [if_pos h1]; congr 2; rw [decide_eq_decide]; simp [h1]
   · rw [if_neg h1]
     congr 2
     symm
     rw [decide_eq_false_iff_not]
     rintro ⟨h | h,_⟩ <;> contradiction
theorem jR (hi:i<l.length) (hl:l.length≤100000) (s:List UInt8):c_ (ct l i) s=some (az (ag l i) s,bif az (ag l i) s then ct l (i+1) else ct l i):=by
 unfold c_
 rw [o7 hi,aa]
 dsimp only
 cases h:az (ag l i) s with
 | true=>
  rw [cond_true,cond_true]
  show some (true,(⟨⟨l,an (((i:Nat):Int)+1),⟨0,0⟩⟩⟩:aA))=_
  rw [cG hi hl]; rfl
 | false=>rfl
theorem EG (hi:i<l.length):mZ (ct l i)=some (cb l i):=by
 unfold mZ
 rw [i_ hi,aa]
 dsimp only
 unfold cb bd
 by_cases h4:(ag l i).Kind=4
 · rw [if_pos h4,if_pos h4]
   unfold jE
   rw [tw,aa]
   rfl
 · rw [if_neg h4,if_neg h4]
   unfold jE
   rw [tw,aa]
   rfl
theorem nP (hi:i<l.length) (hl:l.length≤100000) {s:List UInt8} (h:az (ag l i) s=true):cj (ct l i) s=some (ct l (i+1)):=by
 unfold cj
 rw [jR hi hl,aa,h]; rfl
theorem J0 (hi:i<l.length) (hl:l.length≤100000) {s:List UInt8} (h:az (ag l i) s=false):cj (ct l i) s=some (cb l i):=by
 unfold cj
 rw [jR hi hl,aa,h,Bool.not_false,cond_true,cond_false,EG hi,aa]
theorem JO (hi:i<l.length):ur (ct l i)=some (mQ (ag l i),ct l i):=by
 unfold ur mQ
 rw [i_ hi,aa]
 dsimp only
 by_cases h1:(ag l i).Kind=1
 · rw [if_pos h1,Gt,aa,decide_eq_true h1]; rfl
 · rw [if_neg h1,decide_eq_false h1]; rfl
theorem qU (hi:i<l.length) (hl:l.length≤100000) (h:mQ (ag l i)=true):eN (ct l i)=some ((ag l i).Text,ct l (i+1)):=by
 unfold eN
 rw [JO hi,aa,h]
 show (if 0≤an (an (((i:Nat):Int)+1) - 1) then if an (an (((i:Nat):Int)+1) - 1)<(l.length:Int) then some ((l.getD (an (an (((i:Nat):Int)+1) - 1)).toNat ai.z).Text,(⟨⟨l,an (((i:Nat):Int)+1),⟨0,0⟩⟩⟩:aA)) else none else none)=_
 rw [cG hi hl,show an (((i+1:Nat):Int) - 1)=((i:Nat):Int) from by rw [bP (by omega) (by omega)]; omega,if_pos (by omega),if_pos (by omega),Int.toNat_natCast]
 rfl
theorem Ew (hi:i<l.length) (h:mQ (ag l i)=false):eN (ct l i)=some ([],cb l i):=by
 unfold eN
 rw [JO hi,aa,h,Bool.not_false,cond_true,EG hi,aa]
theorem EA (hi:i<l.length) (hl:l.length≤100000) (h:(ag l i).Kind=2):jF (ct l i)=some ((ag l i).N,ct l (i+1)):=by
 unfold jF
 rw [i_ hi,aa,if_neg (fun q=>q h)]
 show some ((ag l i).N,(⟨⟨l,an (((i:Nat):Int)+1),⟨0,0⟩⟩⟩:aA))=_
 rw [cG hi hl]; rfl
theorem S5 (hi:i<l.length) (h:(ag l i).Kind≠2):jF (ct l i)=some (0,cb l i):=by
 unfold jF
 rw [i_ hi,aa,if_pos h,EG hi,aa]
theorem kD:dh (rt l i)=some (true,rt l i):=rfl
theorem B3:dh (rb l i)=some (false,rb l i):=by unfold dh rb; rw [decide_eq_false (iC _)]
theorem fP (hi:i<l.length) (s:List UInt8):bO (rt l i) s=some (az (ag l i) s,rt l i):=by
 unfold bO
 rw [kD,aa,cond_true]
 show (dB l ((i:Nat):Int) s).bind _=_
 rw [fY hi,aa]
theorem mU (hi:i<l.length) (hl:l.length≤100000):aB.mk (rt l i).l (an ((rt l i).ah+1)) (rt l i).bad=rt l (i+1):=by
 show (⟨l,an (((i:Nat):Int)+1),⟨0,0⟩⟩:aB)=_
 rw [cG hi hl]; rfl
theorem G4 (hi:i<l.length) (hl:l.length≤100000) {s:List UInt8} (h:az (ag l i) s=true):bV (rt l i) s=some (rt l (i+1)):=by
 unfold bV
 rw [kD,aa,cond_true]
 show (dB l ((i:Nat):Int) s).bind _=_
 rw [fY hi,aa,h,Bool.not_true,cond_false,kD,aa,cond_true,mU hi hl]
theorem XY (hi:i<l.length) {s:List UInt8} (h:az (ag l i) s=false):bV (rt l i) s=some (rb l i):=by
 unfold bV
 rw [kD,aa,cond_true]
 show (dB l ((i:Nat):Int) s).bind _=_
 rw [fY hi,aa,h,Bool.not_false,cond_true]
 show (fG l ((i:Nat):Int)).bind _=_
 rw [oe hi,aa]
 show (dh (rb l i)).bind _=_
 rw [B3,aa]; rfl
theorem Nf (hi:i<l.length) (hl:l.length≤100000) (h:mQ (ag l i)=true):eW (rt l i)=some ((ag l i).Text,rt l (i+1)):=bn 1 fun k hk=>by
 obtain ⟨k,rfl⟩: ∃ j,k=j+1:=⟨k - 1,by omega⟩
 show sg (k+1) (rt l i)=_
 unfold sg
 rw [kD,aa,cond_true]
 show (jH l ((i:Nat):Int)).bind _=_
 rw [qb hi,aa,show (decide ((ag l i).Kind=1)&& !er (ag l i).Text)=true from h,Bool.not_true,cond_false,uC.eq_2]
 rw [Ov,kD,aa,Bool.not_true,cond_false,mU hi hl]
 show (if 0≤an (an (((i:Nat):Int)+1) - 1) then if an (an (((i:Nat):Int)+1) - 1)<(l.length:Int) then some ((l.getD (an (an (((i:Nat):Int)+1) - 1)).toNat ai.z).Text,rt l (i+1)) else none else none)=_
 rw [cG hi hl,show an (((i+1:Nat):Int) - 1)=((i:Nat):Int) from by rw [bP (by omega) (by omega)]; omega,if_pos (by omega),if_pos (by omega),Int.toNat_natCast]
 rfl
theorem Nd (hi:i<l.length) (h:mQ (ag l i)=false):eW (rt l i)=some ([],rb l i):=bn 1 fun k hk=>by
 obtain ⟨k,rfl⟩: ∃ j,k=j+1:=⟨k - 1,by omega⟩
 show sg (k+1) (rt l i)=_
 unfold sg
 rw [kD,aa,cond_true]
 show (jH l ((i:Nat):Int)).bind _=_
 rw [qb hi,aa,show (decide ((ag l i).Kind=1)&& !er (ag l i).Text)=false from h,Bool.not_false,cond_true]
 show (fG l ((i:Nat):Int)).bind _=_
 rw [oe hi,aa,uC.eq_2]
 show (dh (rb l i)).bind _=_
 rw [B3,aa]; rfl
theorem XX (hi:i<l.length) (hl:l.length≤100000) (h:(ag l i).Kind=2):j5 (rt l i)=some ((ag l i).N,rt l (i+1)):=bn 1 fun k hk=>by
 obtain ⟨k,rfl⟩: ∃ j,k=j+1:=⟨k - 1,by omega⟩
 show si (k+1) (rt l i)=_
 unfold si
 rw [kD,aa,cond_true]
 show (if 0≤((i:Nat):Int) then if ((i:Nat):Int)<(l.length:Int) then if (l.getD ((i:Nat):Int).toNat ai.z).Kind≠2 then _ else _ else none else none)=_
 rw [if_pos (by omega),if_pos (by omega),Int.toNat_natCast,if_neg (fun q=>q h),uD.eq_2]
 rw [Ov,kD,aa,Bool.not_true,cond_false,mU hi hl]
 show (if 0≤an (an (((i:Nat):Int)+1) - 1) then if an (an (((i:Nat):Int)+1) - 1)<(l.length:Int) then some ((l.getD (an (an (((i:Nat):Int)+1) - 1)).toNat ai.z).N,rt l (i+1)) else none else none)=_
 rw [cG hi hl,show an (((i+1:Nat):Int) - 1)=((i:Nat):Int) from by rw [bP (by omega) (by omega)]; omega,if_pos (by omega),if_pos (by omega),Int.toNat_natCast]
 rfl
theorem XW (hi:i<l.length) (h:(ag l i).Kind≠2):j5 (rt l i)=some (0,rb l i):=bn 1 fun k hk=>by
 obtain ⟨k,rfl⟩: ∃ j,k=j+1:=⟨k - 1,by omega⟩
 show si (k+1) (rt l i)=_
 unfold si
 rw [kD,aa,cond_true]
 show (if 0≤((i:Nat):Int) then if ((i:Nat):Int)<(l.length:Int) then if (l.getD ((i:Nat):Int).toNat ai.z).Kind≠2 then _ else _ else none else none)=_
 rw [if_pos (by omega),if_pos (by omega),Int.toNat_natCast,if_pos (show (l.getD i ai.z).Kind≠2 from h)]
 show (fG l ((i:Nat):Int)).bind _=_
 rw [oe hi,aa,uD.eq_2]
 show (dh (rb l i)).bind _=_
 rw [B3,aa]; rfl
end
section
variable {s:aA} (h:s.Row.aE.Code≠0)
include h
theorem EB:lK s=some (false,s):=by unfold lK; rw [decide_eq_false h]
theorem A5:fF s=some (ai.mk 4 0 0 [] 0,s):=by unfold fF; rw [EB h,aa]; rfl
theorem vl (x:List UInt8):fm s x=some (false,s):=by unfold fm; rw [A5 h,aa]; rfl
theorem nO (x:List UInt8):c_ s x=some (false,s):=by unfold c_; rw [vl h,aa]; rfl
theorem Sb (c a:Int):jE s c a=some s:=by unfold jE; rw [EB h,aa]; rfl
theorem EF:mZ s=some s:=by
 unfold mZ; rw [A5 h,aa]
 dsimp only
 rw [if_pos rfl,Sb h,aa]
theorem gO (x:List UInt8):cj s x=some s:=by
 unfold cj; rw [nO h,aa,Bool.not_false,cond_true]
 dsimp only
 rw [EF h,aa]
theorem S4:eN s=some ([],s):=by
 unfold eN
 rw [show ur s=some (false,s) from by unfold ur; rw [A5 h,aa]; rfl,aa,Bool.not_false,cond_true]
 dsimp only
 rw [EF h,aa]
theorem Ez:jF s=some (0,s):=by
 unfold jF
 rw [A5 h,aa]
 dsimp only
 rw [if_pos (by decide)]
 rw [EF h,aa]
end
section
variable {r:aB} (h:r.bad.Code≠0)
include h
theorem oc:dh r=some (false,r):=by unfold dh; rw [decide_eq_false h]
theorem lI (x:List UInt8):bO r x=some (false,r):=by unfold bO; rw [oc h,aa]; rfl
theorem jD (x:List UInt8):bV r x=some r:=by
 unfold bV; rw [oc h,aa,cond_false]
 dsimp only
 rw [oc h,aa]; rfl
theorem XV:eW r=some ([],r):=bn 1 fun k hk=>by
 obtain ⟨k,rfl⟩: ∃ j,k=j+1:=⟨k - 1,by omega⟩
 show sg (k+1) r=_
 unfold sg
 rw [oc h,aa,cond_false]
 dsimp only
 rw [uC.eq_2]
 show (dh r).bind _=_
 rw [oc h,aa]; rfl
theorem G3:j5 r=some (0,r):=bn 1 fun k hk=>by
 obtain ⟨k,rfl⟩: ∃ j,k=j+1:=⟨k - 1,by omega⟩
 show si (k+1) r=_
 unfold si
 rw [oc h,aa,cond_false]
 dsimp only
 rw [uD.eq_2]
 show (dh r).bind _=_
 rw [oc h,aa]; rfl
theorem XT:jn r=some ([],r):=by unfold jn; rw [oc h,aa]; rfl
end
end Go.Sy.Ex
namespace Go.Sy.Ex
open Go.Sy
def Bd (s:aA) (r:aB):Prop:=s.Row.aE.Code≠0∧r.bad=s.Row.aE
theorem Bd.r {s:aA} {r:aB} (h:Bd s r):r.bad.Code≠0:=by rw [h.2]; exact h.1
theorem Bd.mk (l:List ai) (i:Nat):Bd (cb l i) (rb l i):=⟨iC _,rfl⟩
def OE {α:Type} (Q:α→Prop) (l:List ai) (i:Nat) (f:Nat→Nat→Option (α×aA)) (g:Nat→Nat→Option (α×aB)):Prop:=
 (∃ v j Z,i≤j∧j<l.length∧Q v∧ ∀ k,Z≤k→ ∀ m,Z≤m→f k m=some (v,ct l j)∧g k m=some (v,rt l j))∨
 (∃ v s v' r Z,Bd s r∧ ∀ k,Z≤k→ ∀ m,Z≤m→f k m=some (v,s)∧g k m=some (v',r))
section
variable {α β:Type} {Q:α→Prop} {Q':β→Prop} {l:List ai} {i:Nat}
theorem OE.ok {v:α} {j:Nat} (h1:i≤j) (h2:j<l.length) (h3:Q v):OE Q l i (fun _ _=>some (v,ct l j)) (fun _ _=>some (v,rt l j)):= .inl ⟨v,j,0,h1,h2,h3,fun _ _ _ _=>⟨rfl,rfl⟩⟩
theorem OE.no {v v':α} {s:aA} {r:aB} (h:Bd s r):OE Q l i (fun _ _=>some (v,s)) (fun _ _=>some (v',r)):= .inr ⟨v,s,v',r,0,h,fun _ _ _ _=>⟨rfl,rfl⟩⟩
theorem OE.mono {i':Nat} {f g} (h:OE Q l i' f g) (hi:i≤i'):OE Q l i f g:=by
 rcases h with ⟨v,j,Z,h1,h2,h3,h4⟩ | h
 · exact .inl ⟨v,j,Z,by omega,h2,h3,h4⟩
 · exact .inr h
theorem OE.imp {Q2:α→Prop} {f g} (h:OE Q l i f g) (hq: ∀ v,Q v→Q2 v):OE Q2 l i f g:=by
 rcases h with ⟨v,j,Z,h1,h2,h3,h4⟩ | h
 · exact .inl ⟨v,j,Z,h1,h2,hq v h3,h4⟩
 · exact .inr h
theorem OE.bind {f g} {F:Nat→Nat→α×aA→Option (β×aA)} {G:Nat→Nat→α×aB→Option (β×aB)} (h:OE Q l i f g)
 (ok: ∀ v j,i≤j→j<l.length→Q v→OE Q' l i (fun k m=>F k m (v,ct l j)) (fun k m=>G k m (v,rt l j)))
 (bad: ∀ v s v' r,Bd s r→OE Q' l i (fun k m=>F k m (v,s)) (fun k m=>G k m (v',r))):OE Q' l i (fun k m=>(f k m).bind (F k m)) (fun k m=>(g k m).bind (G k m)):=by
 rcases h with ⟨v,j,Z,h1,h2,h3,h4⟩ | ⟨v,s,v',r,Z,h1,h4⟩
 · rcases ok v j h1 h2 h3 with ⟨w,j',Z',g1,g2,g3,g4⟩ | ⟨w,s,w',r,Z',g1,g4⟩
   · refine .inl ⟨w,j',max Z Z',g1,g2,g3,fun k hk m hm=> ?_⟩
     show (f k m).bind (F k m)=_∧(g k m).bind (G k m)=_
     rw [(h4 k (by omega) m (by omega)).1,(h4 k (by omega) m (by omega)).2]
     exact g4 k (by omega) m (by omega)
   · refine .inr ⟨w,s,w',r,max Z Z',g1,fun k hk m hm=> ?_⟩
     show (f k m).bind (F k m)=_∧(g k m).bind (G k m)=_
     rw [(h4 k (by omega) m (by omega)).1,(h4 k (by omega) m (by omega)).2]
     exact g4 k (by omega) m (by omega)
 · rcases bad v s v' r h1 with ⟨w,j',Z',g1,g2,g3,g4⟩ | ⟨w,s,w',r,Z',g1,g4⟩
   · refine .inl ⟨w,j',max Z Z',g1,g2,g3,fun k hk m hm=> ?_⟩
     show (f k m).bind (F k m)=_∧(g k m).bind (G k m)=_
     rw [(h4 k (by omega) m (by omega)).1,(h4 k (by omega) m (by omega)).2]
     exact g4 k (by omega) m (by omega)
   · refine .inr ⟨w,s,w',r,max Z Z',g1,fun k hk m hm=> ?_⟩
     show (f k m).bind (F k m)=_∧(g k m).bind (G k m)=_
     rw [(h4 k (by omega) m (by omega)).1,(h4 k (by omega) m (by omega)).2]
     exact g4 k (by omega) m (by omega)
theorem OE.from {f g} (N:Nat) {f' g'} (hf: ∀ k,N≤k→ ∀ m,N≤m→f k m=f' k m) (hg: ∀ k,N≤k→ ∀ m,N≤m→g k m=g' k m) (h:OE Q l i f' g'):OE Q l i f g:=by
 rcases h with ⟨v,j,Z,h1,h2,h3,h4⟩ | ⟨v,s,v',r,Z,h1,h4⟩
 · refine .inl ⟨v,j,max Z N,h1,h2,h3,fun k hk m hm=> ?_⟩
   rw [hf k (by omega) m (by omega),hg k (by omega) m (by omega)]; exact h4 k (by omega) m (by omega)
 · refine .inr ⟨v,s,v',r,max Z N,h1,fun k hk m hm=> ?_⟩
   rw [hf k (by omega) m (by omega),hg k (by omega) m (by omega)]; exact h4 k (by omega) m (by omega)
theorem OE.j8 {f g} (h:OE Q l i (fun k m=>f k (m+1)) (fun k m=>g k (m+1))):OE Q l i f g:=by
 rcases h with ⟨v,j,Z,h1,h2,h3,h4⟩ | ⟨v,s,v',r,Z,h1,h4⟩
 · refine .inl ⟨v,j,Z+1,h1,h2,h3,fun k hk m hm=> ?_⟩
   obtain ⟨m,rfl⟩: ∃ q,m=q+1:=⟨m - 1,by omega⟩
   exact h4 k (by omega) m (by omega)
 · refine .inr ⟨v,s,v',r,Z+1,h1,fun k hk m hm=> ?_⟩
   obtain ⟨m,rfl⟩: ∃ q,m=q+1:=⟨m - 1,by omega⟩
   exact h4 k (by omega) m (by omega)
theorem OE.bu {A B:Type} {F:Nat→Nat→A→Option (α×aA)} {G:Nat→Nat→B→Option (α×aB)} {x:A} {y:B} (h:OE Q l i (fun k m=>F k m x) (fun k m=>G k m y)):OE Q l i (fun k _=>Sy.bu (F k) x) (fun k _=>Sy.bu (G k) y):=by
 rcases h with ⟨v,j,Z,h1,h2,h3,h4⟩ | ⟨v,s,v',r,Z,h1,h4⟩
 · exact .inl ⟨v,j,Z,h1,h2,h3,fun k hk m hm=>⟨bn Z fun m hm=>(h4 k hk m hm).1,bn Z fun m hm=>(h4 k hk m hm).2⟩⟩
 · exact .inr ⟨v,s,v',r,Z,h1,fun k hk m hm=>⟨bn Z fun m hm=>(h4 k hk m hm).1,bn Z fun m hm=>(h4 k hk m hm).2⟩⟩
end
section
variable {β:Type} {Q':β→Prop} {l:List ai} {i:Nat}
theorem kP (H:Ok l) (hi:i<l.length) (w:List UInt8) {F:Nat→Nat→aA→Option (β×aA)} {G:Nat→Nat→aB→Option (β×aB)}
 (ok:i+1<l.length→az (ag l i) w=true→OE Q' l i (fun k m=>F k m (ct l (i+1))) (fun k m=>G k m (rt l (i+1)))) (bad: ∀ s r,Bd s r→OE Q' l i (fun k m=>F k m s) (fun k m=>G k m r)):
 OE Q' l i (fun k m=>(cj (ct l i) w).bind (F k m)) (fun k m=>(bV (rt l i) w).bind (G k m)):=by
 cases h:az (ag l i) w with
 | true=>rw [nP hi H.len h,G4 hi H.len h]; exact ok (eg H hi h) h
 | false=>rw [J0 hi H.len h,XY hi h]; exact bad _ _ (Bd.mk l i)
theorem vR (H:Ok l) (hi:i<l.length) {F:Nat→Nat→List UInt8×aA→Option (β×aA)} {G:Nat→Nat→List UInt8×aB→Option (β×aB)}
 (ok:i+1<l.length→mQ (ag l i)=true→OE Q' l i (fun k m=>F k m ((ag l i).Text,ct l (i+1))) (fun k m=>G k m ((ag l i).Text,rt l (i+1)))) (bad: ∀ v s v' r,Bd s r→OE Q' l i (fun k m=>F k m (v,s)) (fun k m=>G k m (v',r))):
 OE Q' l i (fun k m=>(eN (ct l i)).bind (F k m)) (fun k m=>(eW (rt l i)).bind (G k m)):=by
 cases h:mQ (ag l i) with
 | true=>
  rw [qU hi H.len h,Nf hi H.len h]
  have h':=h
  unfold mQ at h'
  rw [Bool.and_eq_true,decide_eq_true_eq] at h'
  exact ok (H.more i hi (by omega)) h
 | false=>rw [Ew hi h,Nd hi h]; exact bad _ _ _ _ (Bd.mk l i)
theorem BW (H:Ok l) (hi:i<l.length) {F:Nat→Nat→Int×aA→Option (β×aA)} {G:Nat→Nat→Int×aB→Option (β×aB)}
 (ok:i+1<l.length→(ag l i).Kind=2→OE Q' l i (fun k m=>F k m ((ag l i).N,ct l (i+1))) (fun k m=>G k m ((ag l i).N,rt l (i+1)))) (bad: ∀ v s v' r,Bd s r→OE Q' l i (fun k m=>F k m (v,s)) (fun k m=>G k m (v',r))):
 OE Q' l i (fun k m=>(jF (ct l i)).bind (F k m)) (fun k m=>(j5 (rt l i)).bind (G k m)):=by
 by_cases h:(ag l i).Kind=2
 · rw [EA hi H.len h,XX hi H.len h]; exact ok (H.more i hi (by omega)) h
 · rw [S5 hi h,XW hi h]; exact bad _ _ _ _ (Bd.mk l i)
end
theorem JQ {l:List ai} {i:Nat} (j:Nat):mC (ct l i) (j:Int) ⟨0,0⟩=some (ct l j):=by
 unfold mC jE
 rw [tw,aa,cond_true,aa]; rfl
theorem JP {l:List ai} {i:Nat} {f:aF} (v:Int) (h:f.Code≠0): ∃ s:aA,s.Row.aE=f∧mC (ct l i) v f=some s:=by
 refine ⟨⟨⟨l,v,f⟩⟩,rfl, ?_⟩
 unfold mC jE
 rw [tw,aa,cond_true,aa]; rfl
theorem Rj {l:List ai} (H:Ok l) {i:Nat} (hi:i<l.length): ∃ v j f,sZ l (i:Int)=some (v,j,f)∧ou l (i:Int)=some (v,j,f)∧FL v∧(f.Code=0→f=⟨0,0⟩∧ ∃ n:Nat,j=(n:Int)∧i≤n∧n<l.length):=by
 rcases Js H l.length i 0 (by omega) hi (by decide) with ⟨v,j,Z,h1,h2,h3,h4,h5⟩ | ⟨v,s,Z,h1,h2,h3⟩
 · refine ⟨v,(j:Int),⟨0,0⟩, ?_, ?_,h3,fun _=>⟨rfl,j,rfl,by omega,h2⟩⟩
   · unfold sZ
     rw [show xP (aH.mk (aV.mk l (i:Int) (aF.mk 0 0)) 0)=some (v,at' l j 0) from bn Z h4,aa,kV,aa,Bool.not_true,cond_false]
     rfl
   · unfold ou
     rw [show wJ l (i:Int) 0=some (v,((j:Nat):Int),⟨0,0⟩) from bn Z h5,aa]
 · refine ⟨[],0,s.Row.aE, ?_, ?_,FL.nil,fun q=>absurd q h1⟩
   · unfold sZ
     rw [show xP (aH.mk (aV.mk l (i:Int) (aF.mk 0 0)) 0)=some (v,s) from bn Z h2,aa,xQ h1,aa,Bool.not_false,cond_true]
   · unfold ou
     rw [show wJ l (i:Int) 0=some ([],0,s.Row.aE) from bn Z h3,aa]
theorem Xs {l:List ai} (H:Ok l) {i:Nat} (hi:i<l.length) (hlb:az (ag l i) eS=false):ou l (i:Int)=some ([],0,bd (ag l i)):=by
 unfold ou
 rw [show wJ l (i:Int) 0=some ([],0,bd (ag l i)) from bn 1 fun k hk=>by
  obtain ⟨k,rfl⟩: ∃ j,k=j+1:=⟨k - 1,by omega⟩
  show ov (ga k) k l (i:Int) 0=_
  unfold ov
  rw [fY hi,aa,hlb,Bool.not_false,cond_true,oe hi,aa]; rfl,aa]
theorem Ef {l:List ai} (H:Ok l) {i:Nat} (hi:i<l.length):OE FL l i (fun _ _=>k9 (ct l i)) (fun _ _=>jn (rt l i)):=by
 have hc:k9 (ct l i)=(sZ l ((i:Nat):Int)).bind fun r2=>(mC (ct l i) r2.2.1 r2.2.2).bind fun r3=>some (r2.1,r3):=by
  unfold k9
  rw [tw,aa]; rfl
 have hr:jn (rt l i)=(ou l ((i:Nat):Int)).bind fun r2=>(dh (aB.mk l ((i:Nat):Int) r2.2.2)).bind fun r3=>bif r3.1 then some (r2.1,aB.mk r3.2.l r2.2.1 r3.2.bad) else some (r2.1,r3.2):=by
  unfold jn
  rw [kD,aa]; rfl
 obtain ⟨v,j,f,h1,h2,h3,h4⟩:=Rj H hi
 rw [hc,hr,h1,h2,aa,aa]
 dsimp only
 by_cases hf:f.Code=0
 · obtain ⟨rfl,n,rfl,h5,h6⟩:=h4 hf
   rw [JQ,aa]
   exact OE.ok h5 h6 h3
 · obtain ⟨s,h5,h6⟩:=JP (l:=l) (i:=i) j hf
   rw [h6,aa,oc (r:=aB.mk l ((i:Nat):Int) f) hf,aa]
   exact OE.no ⟨by rw [h5]; exact hf,h5.symm⟩
end Go.Sy.Ex
namespace Go.Sy.Ex
open Go.Sy
noncomputable section
theorem pM {t:ai} {s s':List UInt8} (h:az t s=true) (hs:s≠s'):az t s'=false:=by
 have h:=of_decide_eq_true h
 exact decide_eq_false fun q=>hs (h.2.symm.trans q.2)
def QT (t:aK):Prop:=gm t.Guard∧FL t.oO
theorem XU {l:List ai} (H:Ok l) {i:Nat} (hi:i<l.length) (h:az (ag l i) eS=false):jn (rt l i)=some ([],rb l i):=by
 unfold jn
 rw [kD,aa,Bool.not_true,cond_false]
 show (ou l ((i:Nat):Int)).bind _=_
 rw [Xs H hi h,aa]
 show (dh (rb l i)).bind _=_
 rw [B3,aa]; rfl
section
variable {l:List ai} {i:Nat}
abbrev oW (m:Nat) (s:aA) (ev:List UInt8) (gd:List ak) (tg:List UInt8) (A:Int):=qS m s.Row.L s.Row.At s.Row.aE.Code s.Row.aE.At [] [] [] [] 0 ev gd tg [] A
abbrev pR (m:Nat) (r:aB) (ev:List UInt8) (gd:List ak) (tg:List UInt8) (A:Int):=wU m r.l r.ah r.bad.Code r.bad.At [] [] [] [] 0 ev gd tg [] A
abbrev mo (m:Nat) (s:aA) (ev:List UInt8) (gd:List ak) (A:Int):=qR m s.Row.L s.Row.At s.Row.aE.Code s.Row.aE.At [] [] [] [] 0 ev gd [] [] A
abbrev mW (m:Nat) (r:aB) (ev:List UInt8) (gd:List ak) (A:Int):=wT m r.l r.ah r.bad.Code r.bad.At [] [] [] [] 0 ev gd [] [] A
abbrev qL (m:Nat) (s:aA) (ev:List UInt8) (A:Int):=qQ m s.Row.L s.Row.At s.Row.aE.Code s.Row.aE.At [] [] [] [] 0 ev [] [] [] A
abbrev rK (m:Nat) (r:aB) (ev:List UInt8) (A:Int):=uG m r.l r.ah r.bad.Code r.bad.At [] [] [] [] 0 ev [] [] [] A
theorem IL {s:aA} {r:aB} (h:Bd s r) (ev ev':List UInt8) (gd tE:List ak) (tg Ij:List UInt8) (A A':Int):OE QT l i (fun _ m=>oW m s ev gd tg A) (fun _ m=>pR m r ev' tE Ij A'):=OE.j8 (by
 have hf: ∀ m,oW (m+1) s ev gd tg A=some (aK.mk ev gd tg [] A,s):=fun m=>by
  unfold oW; rw [qS.eq_2]
  show (fm s eS).bind _=_
  rw [vl h.1,aa,cond_false]
  dsimp only
  rw [gO h.1,aa]
 have hg: ∀ m,pR (m+1) r ev' tE Ij A'=some (aK.mk ev' tE Ij [] A',r):=fun m=>by
  unfold pR; rw [wU.eq_2]
  show (bO r bw).bind _=_
  rw [lI h.r,aa,cond_false]
  dsimp only
  rw [XT h.r,aa]
 simp only [hf,hg]
 exact OE.no h)
theorem DO {s:aA} {r:aB} (h:Bd s r) (ev ev':List UInt8) (gd tE:List ak) (A A':Int):OE QT l i (fun _ m=>mo m s ev gd A) (fun _ m=>mW m r ev' tE A'):=OE.j8 (by
 have hf: ∀ m,mo (m+1) s ev gd A=oW m s ev gd [] A:=fun m=>by
  unfold mo; rw [qR.eq_2]
  show (c_ s fI).bind _=_
  rw [nO h.1,aa,cond_false]
 have hg: ∀ m,mW (m+1) r ev' tE A'=pR m r ev' tE [] A':=fun m=>by
  unfold mW; rw [wT.eq_2]
  show (bO r fI).bind _=_
  rw [lI h.r,aa,cond_false]
 simp only [hf,hg]
 exact IL h ..)
theorem Qn {s:aA} {r:aB} (h:Bd s r) (ev ev':List UInt8) (A A':Int):OE QT l i (fun _ m=>qL m s ev A) (fun _ m=>rK m r ev' A'):=OE.j8 (by
 have hf: ∀ m,qL (m+1) s ev A=mo m s ev [] A:=fun m=>by
  unfold qL; rw [qQ.eq_2]
  show (c_ s ni).bind _=_
  rw [nO h.1,aa,cond_false]
 have hg: ∀ m,rK (m+1) r ev' A'=mW m r ev' [] A':=fun m=>by
  unfold rK; rw [uG.eq_2]
  show (bO r ni).bind _=_
  rw [lI h.r,aa,cond_false]
 simp only [hf,hg]
 exact DO h ..)
theorem IM (H:Ok l) (hi:i<l.length) (ev:List UInt8) (gd:List ak) (tg:List UInt8) (A:Int) (hgd:gm gd):OE QT l i (fun _ m=>oW m (ct l i) ev gd tg A) (fun _ m=>pR m (rt l i) ev gd tg A):=OE.j8 (by
 have hf: ∀ m,oW (m+1) (ct l i) ev gd tg A=bif az (ag l i) eS then (k9 (ct l i)).bind fun r=>some (aK.mk ev gd tg r.1 A,r.2) else (cj (ct l i) bw).bind fun r=>some (aK.mk ev gd tg [] A,r):=fun m=>by
  unfold oW; rw [qS.eq_2]
  show (fm (ct l i) eS).bind _=_
  rw [o7 hi,aa]
 have hg: ∀ m,pR (m+1) (rt l i) ev gd tg A=bif az (ag l i) bw then some (aK.mk ev gd tg [] A,rt l (i+1)) else (jn (rt l i)).bind fun r=>some (aK.mk ev gd tg r.1 A,r.2):=fun m=>by
  unfold pR; rw [wU.eq_2]
  show (bO (rt l i) bw).bind _=_
  rw [fP hi,aa]
  dsimp only
  rw [mU hi H.len]
 simp only [hf,hg]
 cases hlb:az (ag l i) eS with
 | true=>
  rw [pM hlb (by decide),cond_true,cond_false]
  exact OE.bind (Ef H hi) (fun v j h1 h2 h3=>OE.ok h1 h2 ⟨hgd,h3⟩) fun v s v' r hb=>OE.no hb
 | false=>
  rw [cond_false]
  cases hs:az (ag l i) bw with
  | true=>rw [cond_true,nP hi H.len hs,aa]; exact OE.ok (by omega) (eg H hi hs) ⟨hgd,FL.nil⟩
  | false=>rw [cond_false,J0 hi H.len hs,aa,XU H hi hlb,aa]; exact OE.no (Bd.mk l i))
theorem IK (H:Ok l) (hi:i<l.length) (ev:List UInt8) (gd:List ak) (A:Int) (hgd:gm gd):OE QT l i (fun _ m=>mo m (ct l i) ev gd A) (fun _ m=>mW m (rt l i) ev gd A):=OE.j8 (by
 have hf: ∀ m,mo (m+1) (ct l i) ev gd A=bif az (ag l i) fI then (eN (ct l (i+1))).bind fun r=>oW m r.2 ev gd r.1 A else oW m (ct l i) ev gd [] A:=fun m=>by
  unfold mo; rw [qR.eq_2]
  show (c_ (ct l i) fI).bind _=_
  rw [jR hi H.len,aa]
  cases az (ag l i) fI <;> rfl
 have hg: ∀ m,mW (m+1) (rt l i) ev gd A=bif az (ag l i) fI then (eW (rt l (i+1))).bind fun r=>pR m r.2 ev gd r.1 A else pR m (rt l i) ev gd [] A:=fun m=>by
  unfold mW; rw [wT.eq_2]
  show (bO (rt l i) fI).bind _=_
  rw [fP hi,aa]
  dsimp only
  rw [mU hi H.len]
 simp only [hf,hg]
 cases h:az (ag l i) fI with
 | true=>
  have hm:=eg H hi h
  exact OE.mono (vR H hm (fun h1 h2=>(IM H h1 ev gd _ A hgd).mono (by omega)) fun v s v' r hb=>IL hb ..) (Nat.le_succ i)
 | false=>exact IM H hi ev gd [] A hgd)
theorem IJ (H:Ok l) (hi:i<l.length) (ev:List UInt8) (A:Int):OE QT l i (fun _ m=>qL m (ct l i) ev A) (fun _ m=>rK m (rt l i) ev A):=OE.j8 (by
 have hf: ∀ m,qL (m+1) (ct l i) ev A=bif az (ag l i) ni then (mG l ((i+1:Nat):Int)).bind fun r6=>(mC (ct l (i+1)) r6.2.1 r6.2.2).bind fun r7=>(cj r7 lV).bind fun r8=>mo m r8 ev [r6.1] A else mo m (ct l i) ev [] A:=fun m=>by
  unfold qL; rw [qQ.eq_2]
  show (c_ (ct l i) ni).bind _=_
  rw [jR hi H.len,aa]
  simp only [eta]
  cases az (ag l i) ni <;> rfl
 have hg: ∀ m,rK (m+1) (rt l i) ev A=bif az (ag l i) ni then (wL (rt l i)).bind fun r=>mW m r.2 ev r.1 A else mW m (rt l i) ev [] A:=fun m=>by
  unfold rK; rw [uG.eq_2]
  show (bO (rt l i) ni).bind _=_
  rw [fP hi,aa]
 simp only [hf,hg]
 cases h:az (ag l i) ni with
 | false=>exact IK H hi ev [] A gm.nil
 | true=>
  have hm:=eg H hi h
  have hgd:wL (rt l i)=(jk l ((i+1:Nat):Int)).bind fun r3=>(dh (aB.mk l ((i+1:Nat):Int) r3.2.2)).bind fun r4=>bif r4.1 then (bV (aB.mk r4.2.l r3.2.1 r4.2.bad) lV).bind fun r5=>some ([r3.1],r5) else (bV r4.2 lV).bind fun r6=>some ([r3.1],r6):=by
   unfold wL
   rw [G4 hi H.len h,aa,kD,aa,Bool.not_true,cond_false]
   simp only [eta]
   rfl
  rw [hgd]
  rcases MV H hm with ⟨e,j,h1,h2,h3,h4,h5⟩ | ⟨f,h1,h2,h3⟩
  · refine OE.from 0 (f':=fun _ m=>(cj (ct l j) lV).bind fun r=>mo m r ev [e] A) (g':=fun _ m=>(bV (rt l j) lV).bind fun r=>mW m r ev [e] A) (fun _ _ m _=> ?_) (fun _ _ m _=> ?_) ?_
    · rw [cond_true,h4,aa]
      dsimp only
      rw [JQ,aa]
    · rw [cond_true,h5,aa]
      show ((bV (rt l j) lV).bind fun r5=>some ([e],r5)).bind _=_
      rw [Option.bind_assoc]
      rfl
    · exact OE.mono (kP H h2 lV (fun g1 g2=>(IK H g1 ev [e] A (gm.one h3)).mono (by omega)) fun s r hb=>DO hb ..) (show i≤j by omega)
  · obtain ⟨s,h5,h6⟩:=JP (l:=l) (i:=i+1) 0 h1
    have hb:Bd s (aB.mk l ((i+1:Nat):Int) f):=⟨by rw [h5]; exact h1,h5.symm⟩
    refine OE.from 0 (f':=fun _ m=>mo m s ev [ak.mk 0 0 [] [] 0] A) (g':=fun _ m=>mW m (aB.mk l ((i+1:Nat):Int) f) ev [ak.mk 0 0 [] [] 0] A) (fun _ _ m _=> ?_) (fun _ _ m _=> ?_) (DO hb ..)
    · rw [cond_true,h2,aa]
      dsimp only
      rw [h6,aa,gO hb.1,aa]
    · rw [cond_true,h3,aa]
      dsimp only
      rw [oc hb.r,aa,cond_false]
      dsimp only
      rw [jD hb.r,aa,aa])
theorem abl (H:Ok l) (hi:i<l.length) (h:az (ag l i) eT=true∨az (ag l i) gW=true):OE QT l (i+1) (fun _ _=>mD (ct l i)) (fun _ _=>wS (rt l i)):=by
 refine OE.bu (F:=fun _ m x=>o6 m x) (G:=fun _ m x=>zZ m x) ?_
 have et:l.getD ((i:Nat):Int).toNat ai.z=ag l i:=by rw [Int.toNat_natCast]; rfl
 have hf: ∀ m,o6 m (ct l i)=bif az (ag l i) eT then (eN (ct l (i+1))).bind fun r=>qL m r.2 r.1 (ag l i).At else (cj (ct l i) gW).bind fun r=>qL m r [] (ag l i).At:=fun m=>by
  unfold o6
  rw [i_ hi,aa]
  dsimp only
  rw [jR hi H.len,aa]
  cases az (ag l i) eT <;> rfl
 have hg: ∀ m,zZ m (rt l i)=bif az (ag l i) gW then rK m (rt l (i+1)) [] (ag l i).At else (bV (rt l i) eT).bind fun r=>(eW r).bind fun r=>rK m r.2 r.1 (ag l i).At:=fun m=>by
  unfold zZ
  have e1:0≤(rt l i).ah:=by show 0≤((i:Nat):Int); omega
  have e2:(rt l i).ah<((rt l i).l.length:Int):=by show ((i:Nat):Int)<(l.length:Int); omega
  have e3:(rt l i).l.getD (rt l i).ah.toNat ai.z=ag l i:=et
  rw [if_pos e1,if_pos e2,fP hi,aa,e3]
  cases az (ag l i) gW with
  | true=>
   show uG m l (an (((i:Nat):Int)+1)) 0 0 [] [] [] [] 0 [] [] [] [] (ag l i).At=_
   rw [cG hi H.len]; rfl
  | false=>rfl
 simp only [hf,hg]
 rcases h with h | h
 · simp only [h,pM h (show eT≠gW by decide),cond_true,cond_false,G4 hi H.len h,aa]
   exact vR H (eg H hi h) (fun h1 h2=>(IJ H h1 _ _).mono (by omega)) fun v s v' r hb=>Qn hb ..
 · simp only [h,pM h (show gW≠eT by decide),cond_true,cond_false,nP hi H.len h,aa]
   exact IJ H (eg H hi h) _ _
end
end
end Go.Sy.Ex
namespace Go.Sy.Ex
open Go.Sy
noncomputable section
section
variable {α:Type} {Q:α→Prop} {l:List ai} {i:Nat}
theorem OE.shift {f g} (a b:Nat) (h:OE Q l i (fun k m=>f k (m+a)) (fun k m=>g k (m+b))):OE Q l i f g:=by
 have e: ∀ {γ:Type} (F:Nat→Nat→γ) (c k m:Nat),c≤m→F k m=F k ((m - c)+c):=fun F c k m h=>by rw [Nat.sub_add_cancel h]
 rcases h with ⟨v,j,Z,h1,h2,h3,h4⟩ | ⟨v,s,v',r,Z,h1,h4⟩
 · refine .inl ⟨v,j,Z+a+b,h1,h2,h3,fun k hk m hm=> ?_⟩
   rw [e f a k m (by omega),e g b k m (by omega)]
   exact ⟨(h4 k (by omega) _ (by omega)).1,(h4 k (by omega) _ (by omega)).2⟩
 · refine .inr ⟨v,s,v',r,Z+a+b,h1,fun k hk m hm=> ?_⟩
   rw [e f a k m (by omega),e g b k m (by omega)]
   exact ⟨(h4 k (by omega) _ (by omega)).1,(h4 k (by omega) _ (by omega)).2⟩
theorem OE.diag {f g} {f' g':Nat→Nat→_} (hf: ∀ k m,f' (k+1) m=f k k) (hg: ∀ k m,g' (k+1) m=g k k) (h:OE Q l i f g):OE Q l i f' g':=by
 rcases h with ⟨v,j,Z,h1,h2,h3,h4⟩ | ⟨v,s,v',r,Z,h1,h4⟩
 · refine .inl ⟨v,j,Z+1,h1,h2,h3,fun k hk m hm=> ?_⟩
   obtain ⟨k,rfl⟩: ∃ q,k=q+1:=⟨k - 1,by omega⟩
   rw [hf,hg]
   exact h4 k (by omega) k (by omega)
 · refine .inr ⟨v,s,v',r,Z+1,h1,fun k hk m hm=> ?_⟩
   obtain ⟨k,rfl⟩: ∃ q,k=q+1:=⟨k - 1,by omega⟩
   rw [hf,hg]
   exact h4 k (by omega) k (by omega)
end
def Sq:Nat→List ax→Prop
 | 0,_=>False
 | n+1,l=>l.length≤100000∧ ∀ s ∈ l,(FL s.Entry∧FL s.Exit)∧(s.Trans.length≤100000∧ ∀ t ∈ s.Trans,QT t)∧Sq n s.Kids
theorem Sq.up: ∀ {n m:Nat} {l:List ax},Sq n l→n≤m→Sq m l
 | 0,_,_,h,_=>h.elim
 | n+1,0,_,_,h=>by omega
 | n+1,m+1,l,⟨h1,h2⟩,h=>⟨h1,fun s hs=>⟨(h2 s hs).1,(h2 s hs).2.1,Sq.up (h2 s hs).2.2 (by omega)⟩⟩
def QL (l:List ax):Prop:= ∃ n,Sq n l
def QS (s:ax):Prop:=(FL s.Entry∧FL s.Exit)∧(s.Trans.length≤100000∧ ∀ t ∈ s.Trans,QT t)∧QL s.Kids
theorem QL.nil:QL []:=⟨1,Nat.zero_le _,fun s hs=>by cases hs⟩
theorem QL.push {l:List ax} {s:ax} (h:QL l) (hs:QS s) (hl:l.length+1≤100000):QL (l++ [s]):=by
 obtain ⟨n,hn⟩:=h
 obtain ⟨h1,h2,m,hm⟩:=hs
 cases n with
 | zero=>exact hn.elim
 | succ n=>
  refine ⟨n+m+1,by simp; omega,fun x hx=> ?_⟩
  rcases List.mem_append.1 hx with hx | hx
  · exact ⟨(hn.2 x hx).1,(hn.2 x hx).2.1,(hn.2 x hx).2.2.up (by omega)⟩
  · rw [List.mem_singleton] at hx; subst hx
    exact ⟨h1,h2,hm.up (by omega)⟩
def sw (x:aA×(Int×List UInt8×List aj×List aj×List aK×List ax×Int)):ax×aA:=(ax.mk x.2.1 x.2.2.1 x.2.2.2.1 x.2.2.2.2.1 x.2.2.2.2.2.1 x.2.2.2.2.2.2.1 x.2.2.2.2.2.2.2,x.1)
section
variable {l:List ai} {i:Nat}
abbrev nJ (self:iY) (m:Nat) (s:aA) (K:Int) (N:List UInt8) (En Ex:List aj) (Tr:List aK) (A d:Int):=(ki self m s.Row.L s.Row.At s.Row.aE.Code s.Row.aE.At K N En Ex Tr [] A d).map sw
abbrev mV (self:iq) (m:Nat) (r:aB) (K:Int) (N:List UInt8) (En Ex:List aj) (Tr:List aK) (A d:Int):=uF self m r.l r.ah r.bad.Code r.bad.At d 0 [] [] [] [] [] 0 K N En Ex Tr [] A
theorem Ek {s:aA} (h:s.Row.aE.Code≠0):hY s=some (0,s):=by
 unfold hY
 simp only [vl h,aa,cond_false]
theorem EC {s:aA} (h:s.Row.aE.Code≠0) (k:Nat) (d:Int):cJ (k+2) s d=some ([],s):=by
 show ld (cJ (k+1)) (k+1) s d=_
 unfold ld
 rw [Ek h,aa,iX.eq_2]
 rfl
theorem Ou {r:aB} (h:r.bad.Code≠0) (k:Nat) (d:Int):dD (k+2) r d=some ([],r):=by
 show CD (dD (k+1)) (k+1) r d=_
 unfold CD
 rw [ox.eq_2]
 show (bO r fS).bind _=_
 simp only [lI h,aa,cond_false]
theorem DE {s:aA} {r:aB} (h:Bd s r) {d:Int} (K K':Int) (N N':List UInt8) (En Au Ex IC:List aj) (Tr IP:List aK) (A A':Int):
 OE QS l i (fun k m=>nJ (cJ k) m s K N En Ex Tr A d) (fun k m=>mV (dD k) m r K' N' Au IC IP A' d):=by
 refine OE.from 2 (f':=fun _ _=>some (ax.mk K N En Ex Tr [] A,s)) (g':=fun _ _=>some (ax.mk K' N' Au IC IP [] A',r)) (fun k hk m hm=> ?_) (fun k hk m hm=> ?_) (OE.no h)
 · obtain ⟨k,rfl⟩: ∃ q,k=q+2:=⟨k - 2,by omega⟩
   obtain ⟨m,rfl⟩: ∃ q,m=q+1:=⟨m - 1,by omega⟩
   unfold nJ; rw [ki.eq_2]
   show Option.map sw ((fm s eT).bind _)=_
   simp only [vl h.1,aa,cond_false,EC h.1,gO h.1]
   rfl
 · obtain ⟨k,rfl⟩: ∃ q,k=q+2:=⟨k - 2,by omega⟩
   obtain ⟨m,rfl⟩: ∃ q,m=q+1:=⟨m - 1,by omega⟩
   unfold mV; rw [uF.eq_2]
   show (bO r eT).bind _=_
   simp only [lI h.r,aa,cond_false,Ou h.r,jD h.r]
def SI (l:List ai) (i0:Nat) (d:Int):Prop:= ∀ j,i0≤j→j<l.length→OE QL l j (fun k _=>cJ k (ct l j) d) (fun k _=>dD k (rt l j) d)
theorem DG (H:Ok l) {i0:Nat} {d:Int} (hd:an (d+1)=d+1) (hs:SI l i0 (d+1)) (K:Int) (N:List UInt8) (En Ex:List aj) (yE:FL En) (K5:FL Ex) (A:Int): ∀ q i (Tr:List aK),l.length≤i+q→i0≤i→i<l.length→Tr.length≤i→(∀ t ∈ Tr,QT t)→
 OE QS l i (fun k m=>nJ (cJ k) m (ct l i) K N En Ex Tr A d) (fun k m=>mV (dD k) m (rt l i) K N En Ex Tr A d)
 | 0,i,_,hq,_,hi,_,_=>by omega
 | q+1,i,Tr,hq,h0,hi,hTr,hT=>by
  have hl:=H.len
  by_cases yS:az (ag l i) eT=true∨az (ag l i) gW=true
  · have hf: ∀ k m,nJ (cJ k) (m+2) (ct l i) K N En Ex Tr A d=(mD (ct l i)).bind fun r=>if (Tr.length+ [r.1].length)*88≤140737488355328 then nJ (cJ k) m r.2 K N En Ex (Tr++ [r.1]) A d else none:=fun k m=>by
     have hc: ∀ K N En Ex Ki A,qO (cJ k) (m+1) l (i:Int) 0 0 K N En Ex Tr Ki A d=(mD (ct l i)).bind fun aT=>if (Tr.length+ [aT.1].length)*88≤140737488355328 then ki (cJ k) m aT.2.Row.L aT.2.Row.At aT.2.Row.aE.Code aT.2.Row.aE.At K N En Ex (Tr++ [aT.1]) Ki A d else none:=fun _ _ _ _ _ _=>by
      rw [qO.eq_2]; rfl
     unfold nJ; rw [ki.eq_2]
     show Option.map sw ((fm (ct l i) eT).bind _)=_
     rw [o7 hi,aa]
     have hm:Option.map sw (qO (cJ k) (m+1) l (i:Int) 0 0 K N En Ex Tr [] A d)=(mD (ct l i)).bind fun r=>if (Tr.length+ [r.1].length)*88≤140737488355328 then Option.map sw (ki (cJ k) m r.2.Row.L r.2.Row.At r.2.Row.aE.Code r.2.Row.aE.At K N En Ex (Tr++ [r.1]) [] A d) else none:=by
      rw [hc,Option.map_bind]
      congr 1; funext r
      show Option.map sw (if _ then _ else _)=_
      split <;> rfl
     cases h1:az (ag l i) eT with
     | true=>exact hm
     | false=>
      rw [cond_false]
      dsimp only
      rw [o7 hi,aa,show az (ag l i) gW=true from yS.resolve_left (by rw [h1]; simp)]
      exact hm
    have hg: ∀ k m,mV (dD k) (m+2) (rt l i) K N En Ex Tr A d=(wS (rt l i)).bind fun r=>if (Tr.length+ [r.1].length)*88≤140737488355328 then mV (dD k) m r.2 K N En Ex (Tr++ [r.1]) A d else none:=fun k m=>by
     have hc:zX (dD k) (m+1) l (i:Int) 0 0 d 0 [] [] [] [] [] 0 K N En Ex Tr [] A=(wS (rt l i)).bind fun r=>if (Tr.length+ [r.1].length)*88≤140737488355328 then mV (dD k) m r.2 K N En Ex (Tr++ [r.1]) A d else none:=by
      rw [zX.eq_2]; rfl
     unfold mV; rw [uF.eq_2]
     show (bO (rt l i) eT).bind _=_
     rw [fP hi,aa]
     cases h1:az (ag l i) eT with
     | true=>exact hc
     | false=>
      rw [cond_false]
      dsimp only
      rw [fP hi,aa,show az (ag l i) gW=true from yS.resolve_left (by rw [h1]; simp)]
      exact hc
    refine OE.shift 2 2 ?_
    simp only [hf,hg]
    refine OE.mono (i':=i+1) (OE.bind (abl H hi yS) (fun v j h1 h2 h3=> ?_) fun v s v' r hb=> ?_) (Nat.le_succ i)
    · simp only [if_pos (show (Tr.length+ [v].length)*88≤140737488355328 by simp only [List.length_singleton]; omega)]
      refine OE.mono (DG H hd hs K N En Ex yE K5 A q j (Tr++ [v]) (by omega) (by omega) h2 (by simp; omega) fun t ht=> ?_) h1
      rcases List.mem_append.1 ht with ht | ht
      · exact hT t ht
      · rw [List.mem_singleton] at ht; subst ht; exact h3
    · simp only [if_pos (show (Tr.length+ [v].length)*88≤140737488355328 by simp only [List.length_singleton]; omega),if_pos (show (Tr.length+ [v'].length)*88≤140737488355328 by simp only [List.length_singleton]; omega)]
      exact DE hb ..
  · have h1:az (ag l i) eT=false:=Bool.eq_false_iff.2 fun q=>yS (.inl q)
    have h2:az (ag l i) gW=false:=Bool.eq_false_iff.2 fun q=>yS (.inr q)
    have hf: ∀ k m,nJ (cJ k) (m+1) (ct l i) K N En Ex Tr A d=(cJ k (ct l i) (d+1)).bind fun r8=>(cj r8.2 gG).bind fun r9=>some (ax.mk K N En Ex Tr r8.1 A,r9):=fun k m=>by
     unfold nJ; rw [ki.eq_2]
     show Option.map sw ((fm (ct l i) eT).bind _)=_
     rw [o7 hi,aa,h1,cond_false]
     dsimp only
     rw [o7 hi,aa,h2,cond_false,hd,Option.map_bind]
     congr 1; funext r8
     show Option.map sw ((cj r8.2 gG).bind _)=_
     rw [Option.map_bind]; rfl
    have hg: ∀ k m,mV (dD k) (m+1) (rt l i) K N En Ex Tr A d=(dD k (rt l i) (d+1)).bind fun r8=>(bV r8.2 gG).bind fun r9=>some (ax.mk K N En Ex Tr r8.1 A,r9):=fun k m=>by
     unfold mV; rw [uF.eq_2]
     show (bO (rt l i) eT).bind _=_
     rw [fP hi,aa,h1,cond_false]
     dsimp only
     rw [fP hi,aa,h2,cond_false,hd]
    refine OE.j8 ?_
    simp only [hf,hg]
    refine OE.bind (hs i h0 hi) (fun v j g1 g2 g3=> ?_) fun v s v' r hb=> ?_
    · exact OE.mono (kP H g2 gG (fun g4 g5=>OE.ok (Nat.le_succ j) g4 ⟨⟨yE,K5⟩,⟨by show Tr.length≤100000; omega,hT⟩,g3⟩) fun s r hb=>OE.no hb) g1
    · simp only [gO hb.1,jD hb.r,aa]
      exact OE.no hb
abbrev cX (self:iY) (m:Nat) (s:aA) (K:Int) (N:List UInt8) (En:List aj) (A d:Int):=(tr self m s.Row.L s.Row.At s.Row.aE.Code s.Row.aE.At K N En [] [] [] A d).map sw
abbrev rX (self:iq) (m:Nat) (r:aB) (K:Int) (N:List UInt8) (En:List aj) (A d:Int):=zW self m r.l r.ah r.bad.Code r.bad.At d 0 [] [] [] [] [] 0 K N En [] [] [] A
theorem Jv (self:iY) (m:Nat) (s:aA) (K:Int) (N:List UInt8) (En:List aj) (A d:Int):cX self (m+2) s K N En A d=(c_ s oC).bind fun r4=>bif r4.1 then (k9 r4.2).bind fun r5=>nJ self m r5.2 K N En r5.1 [] A d else nJ self m r4.2 K N En [] [] A d:=by
 unfold cX; rw [tr.eq_2]
 show Option.map sw ((c_ s oC).bind _)=_
 rw [Option.map_bind]
 congr 1; funext r4
 show Option.map sw (bif r4.1 then _ else _)=_
 cases r4.1 with
 | true=>rw [cond_true,cond_true,Option.map_bind]; rfl
 | false=>rfl
theorem Ng (self:iq) (m:Nat) (r:aB) (K:Int) (N:List UInt8) (En:List aj) (A d:Int):rX self (m+2) r K N En A d=(bO r oC).bind fun r4=>bif r4.1 then (jn (aB.mk r4.2.l (an (r4.2.ah+1)) r4.2.bad)).bind fun r5=>mV self m r5.2 K N En r5.1 [] A d else mV self m r4.2 K N En [] [] A d:=by
 unfold rX; rw [zW.eq_2]; rfl
theorem DQ {s:aA} {r:aB} (h:Bd s r) (d K K':Int) (N N':List UInt8) (En Au:List aj) (A A':Int):OE QS l i (fun k m=>cX (cJ k) m s K N En A d) (fun k m=>rX (dD k) m r K' N' Au A' d):=by
 refine OE.shift 2 2 ?_
 simp only [Jv,Ng,nO h.1,lI h.r,aa,cond_false]
 exact DE h ..
theorem IQ (H:Ok l) {i0:Nat} {d:Int} (hd:an (d+1)=d+1) (hs:SI l i0 (d+1)) (h0:i0≤i) (hi:i<l.length) (K:Int) (N:List UInt8) (En:List aj) (yE:FL En) (A:Int):OE QS l i (fun k m=>cX (cJ k) m (ct l i) K N En A d) (fun k m=>rX (dD k) m (rt l i) K N En A d):=by
 refine OE.shift 2 2 ?_
 simp only [Jv,Ng,jR hi H.len,fP hi,aa]
 cases h:az (ag l i) oC with
 | true=>
  have hm:=eg H hi h
  simp only [cond_true,mU hi H.len]
  refine OE.mono (OE.bind (Ef H hm) (fun v j h1 h2 h3=> ?_) fun v s v' r hb=> ?_) (Nat.le_succ i)
  · exact OE.mono (DG H hd hs K N En v yE h3 A l.length j [] (by omega) (by omega) h2 (Nat.zero_le _) (fun t ht=>by cases ht)) h1
  · exact DE hb ..
 | false=>
  simp only [cond_false]
  exact DG H hd hs K N En [] yE FL.nil A l.length i [] (by omega) h0 hi (Nat.zero_le _) (fun t ht=>by cases ht)
abbrev cE (self:iY) (m:Nat) (s:aA) (K:Int) (N:List UInt8) (A d:Int):=(nM self m s (K,N,[],[],[],[],A) d).map sw
abbrev rE (self:iq) (m:Nat) (r:aB) (K:Int) (N:List UInt8) (A d:Int):=(bV r eS).bind fun r3=>(bO r3 oA).bind fun r4=>bif r4.1 then (jn (aB.mk r4.2.l (an (r4.2.ah+1)) r4.2.bad)).bind fun r5=>rX self m r5.2 K N r5.1 A d else rX self m r4.2 K N [] A d
theorem Ju (self:iY) (m:Nat) (s:aA) (K:Int) (N:List UInt8) (A d:Int):cE self m s K N A d=(cj s eS).bind fun r1=>(c_ r1 oA).bind fun r4=>bif r4.1 then (k9 r4.2).bind fun r5=>cX self m r5.2 K N r5.1 A d else cX self m r4.2 K N [] A d:=by
 unfold cE nM
 rw [Option.map_bind]
 congr 1; funext r1
 show Option.map sw ((c_ r1 oA).bind _)=_
 rw [Option.map_bind]
 congr 1; funext r4
 show Option.map sw (bif r4.1 then _ else _)=_
 cases r4.1 with
 | true=>rw [cond_true,cond_true,Option.map_bind]; rfl
 | false=>rfl
theorem P8 {s:aA} {r:aB} (h:Bd s r) (d K K':Int) (N N':List UInt8) (A A':Int):OE QS l i (fun k m=>cE (cJ k) m s K N A d) (fun k m=>rE (dD k) m r K' N' A' d):=by
 simp only [Ju,rE,gO h.1,nO h.1,jD h.r,lI h.r,aa,cond_false]
 exact DQ h ..
theorem P9 (H:Ok l) {i0:Nat} {d:Int} (hd:an (d+1)=d+1) (hs:SI l i0 (d+1)) (h0:i0≤i) (hi:i<l.length) (K:Int) (N:List UInt8) (A:Int):OE QS l i (fun k m=>cE (cJ k) m (ct l i) K N A d) (fun k m=>rE (dD k) m (rt l i) K N A d):=by
 simp only [Ju]
 refine kP H hi eS (fun hi1 _=> ?_) fun s r hb=> ?_
 · simp only [jR hi1 H.len,fP hi1,aa]
   cases h:az (ag l (i+1)) oA with
   | true=>
    have hm:=eg H hi1 h
    simp only [cond_true,mU hi1 H.len]
    refine OE.mono (OE.bind (Ef H hm) (fun v j h1 h2 h3=> ?_) fun v s v' r hb=> ?_) (show i≤i+1+1 by omega)
    · exact OE.mono (IQ H hd hs (by omega) h2 K N v h3 A) h1
    · exact DQ hb ..
   | false=>exact OE.mono (IQ H hd hs (by omega) hi1 K N [] FL.nil A) (Nat.le_succ i)
 · simp only [nO hb.1,lI hb.r,aa,cond_false]
   exact DQ hb ..
theorem OE.Mv {A B:Type} {Q:ax→Prop} {F:Nat→Nat→A→Option (aA×(Int×List UInt8×List aj×List aj×List aK×List ax×Int))} {G:Nat→Nat→B→Option (ax×aB)} {x:A} {y:B} (h:OE Q l i (fun k m=>(F k m x).map sw) (fun k m=>G k m y)):OE Q l i (fun k _=>(Sy.bu (F k) x).map sw) (fun k _=>Sy.bu (G k) y):=by
 have inv: ∀ {o:Option (aA×(Int×List UInt8×List aj×List aj×List aK×List ax×Int))} {v:ax} {s:aA},o.map sw=some (v,s)→o=some (s,(v.Kind,v.Name,v.Entry,v.Exit,v.Trans,v.Kids,v.At)):=fun {o v s} h=>by
  cases o with
  | none=>cases h
  | some z=>cases h; rfl
 rcases h with ⟨v,j,Z,h1,h2,h3,h4⟩ | ⟨v,s,v',r,Z,h1,h4⟩
 · refine .inl ⟨v,j,Z,h1,h2,h3,fun k hk m hm=>⟨?_,bn Z fun m hm=>(h4 k hk m hm).2⟩⟩
   show Option.map sw (Sy.bu (F k) x)=_
   rw [bn Z fun m hm=>inv (h4 k hk m hm).1]; cases v; rfl
 · refine .inr ⟨v,s,v',r,Z,h1,fun k hk m hm=>⟨?_,bn Z fun m hm=>(h4 k hk m hm).2⟩⟩
   show Option.map sw (Sy.bu (F k) x)=_
   rw [bn Z fun m hm=>inv (h4 k hk m hm).1]; cases v; rfl
theorem aa5 (H:Ok l) {d:Int} (hd:an (d+1)=d+1) (hs:SI l (i+1) (d+1)) (hi:i<l.length) (hi1:i+1<l.length) (K:Int) (hK:(K=2∧az (ag l i) gF=true)∨(K=1∧az (ag l i) gF=false)):
 OE QS l (i+1) (fun k _=>(eN (ct l (i+1))).bind fun r4=>(oY (cJ k) r4.2 (K,r4.1,[],[],[],[],(ag l i).At) d).map sw) (fun k _=>wO (dD k) (rt l i) d):=by
 have et:l.getD ((i:Nat):Int).toNat ai.z=ag l i:=by rw [Int.toNat_natCast]; rfl
 have hg: ∀ k m,wP (dD k) (m+1) (rt l i) d=(eW (rt l (i+1))).bind fun r2=>rE (dD k) m r2.2 K r2.1 (ag l i).At d:=fun k m=>by
  unfold wP
  have e1:0≤(rt l i).ah:=by show 0≤((i:Nat):Int); omega
  have e2:(rt l i).ah<((rt l i).l.length:Int):=by show ((i:Nat):Int)<(l.length:Int); omega
  have e3:(rt l i).l.getD (rt l i).ah.toNat ai.z=ag l i:=et
  rw [if_pos e1,if_pos e2,fP hi,aa,e3]
  have c0: ∀ K:Int,zV (dD k) (m+1) l (i:Int) 0 0 d 0 [] [] [] [] [] 0 K [] [] [] [] [] (ag l i).At=(eW (rt l (i+1))).bind fun r2=>rE (dD k) m r2.2 K r2.1 (ag l i).At d:=fun K=>by
   rw [zV.eq_2,cG hi H.len]; rfl
  rcases hK with ⟨rfl,h⟩ | ⟨rfl,h⟩
  · rw [h,cond_true]; exact c0 2
  · rw [h,cond_false]; exact c0 1
 rcases hn:mQ (ag l (i+1)) with _ | _
 · simp only [Ew hi1 hn,aa]
   refine OE.Mv (F:=fun k m (x:aA×(Int×List UInt8×List aj×List aj×List aK×List ax×Int)×Int)=>nM (cJ k) m x.1 x.2.1 x.2.2) (G:=fun k m (x:aB×Int)=>wP (dD k) m x.1 x.2) (x:=(cb l (i+1),(K,[],[],[],[],[],(ag l i).At),d)) (y:=(rt l i,d)) (OE.shift 0 1 ?_)
   simp only [hg,Nd hi1 hn,aa]
   exact P8 (Bd.mk l (i+1)) ..
 · simp only [qU hi1 H.len hn,aa]
   refine OE.Mv (F:=fun k m (x:aA×(Int×List UInt8×List aj×List aj×List aK×List ax×Int)×Int)=>nM (cJ k) m x.1 x.2.1 x.2.2) (G:=fun k m (x:aB×Int)=>wP (dD k) m x.1 x.2) (x:=(ct l (i+1+1),(K,(ag l (i+1)).Text,[],[],[],[],(ag l i).At),d)) (y:=(rt l i,d)) (OE.shift 0 1 ?_)
   simp only [hg,Nf hi1 H.len hn,aa]
   have hk:(ag l (i+1)).Kind=1:=by
    unfold mQ at hn
    rw [Bool.and_eq_true,decide_eq_true_eq] at hn
    exact hn.1
   exact OE.mono (P9 H hd hs (by omega) (H.more (i+1) hi1 (by omega)) K _ _) (Nat.le_succ _)
end
end
end Go.Sy.Ex
namespace Go.Sy.Ex
open Go.Sy
noncomputable section
def bK (t:ai):Int:=bif az t fS then 1 else bif az t gF then 2 else bif az t fQ then 3 else bif az t eY then 4 else 0
section
variable {l:List ai} {i:Nat}
theorem vf (hi:i<l.length):hY (ct l i)=some (bK (ag l i),ct l i):=by
 unfold hY bK
 simp only [o7 hi,aa]
 cases az (ag l i) fS <;> cases az (ag l i) gF <;> cases az (ag l i) fQ <;> cases az (ag l i) eY <;> rfl
theorem U3 (H:Ok l) (hi:i<l.length) (hi1:i+1<l.length) (K:Int) (hK:(K=4∧az (ag l i) eY=true)∨(K=3∧az (ag l i) eY=false)):
 OE QS l (i+1) (fun _ _=>(eN (ct l (i+1))).bind fun r4=>(cj r4.2 bw).bind fun r9=>some (ax.mk K r4.1 [] [] [] [] (ag l i).At,r9)) (fun _ _=>rZ (rt l i)):=by
 have et:l.getD ((i:Nat):Int).toNat ai.z=ag l i:=by rw [Int.toNat_natCast]; rfl
 have hg:rZ (rt l i)=(eW (rt l (i+1))).bind fun r2=>(bV r2.2 bw).bind fun r3=>some (ax.mk K r2.1 [] [] [] [] (ag l i).At,r3):=by
  unfold rZ
  have e1:0≤(rt l i).ah:=by show 0≤((i:Nat):Int); omega
  have e2:(rt l i).ah<((rt l i).l.length:Int):=by show ((i:Nat):Int)<(l.length:Int); omega
  have e3:(rt l i).l.getD (rt l i).ah.toNat ai.z=ag l i:=et
  rw [if_pos e1,if_pos e2,fP hi,aa,e3]
  dsimp only
  rw [mU hi H.len]
  rcases hK with ⟨rfl,h⟩ | ⟨rfl,h⟩
  · rw [h,cond_true]
  · rw [h,cond_false]
 rw [hg]
 refine vR H hi1 (fun h1 h2=> ?_) fun v s v' r hb=> ?_
 · exact OE.mono (kP H h1 bw (fun g1 g2=>OE.ok (Nat.le_succ _) g1 ⟨⟨FL.nil,FL.nil⟩,⟨Nat.zero_le _,fun t ht=>by cases ht⟩,QL.nil⟩) fun s r hb=>OE.no hb) (Nat.le_succ _)
 · simp only [gO hb.1,jD hb.r,aa]
   exact OE.no hb
abbrev cS (k m:Nat) (s:aA) (d:Int) (acc:List ax) (K:Int):=iX (cJ k) m s.Row.L s.Row.At s.Row.aE.Code s.Row.aE.At d acc K
abbrev rS (k m:Nat) (r:aB) (d:Int) (acc:List ax):=ox (dD k) m r.l r.ah r.bad.Code r.bad.At d acc
theorem Qm {s:aA} {r:aB} (h:Bd s r) (d:Int) (acc acc':List ax):OE QL l i (fun k m=>cS k m s d acc 0) (fun k m=>rS k m r d acc'):=OE.j8 (by
 have hf: ∀ k m,cS k (m+1) s d acc 0=some (acc,s):=fun k m=>by
  unfold cS; rw [iX.eq_2]; rfl
 have hg: ∀ k m,rS k (m+1) r d acc'=some (acc',r):=fun k m=>by
  unfold rS; rw [ox.eq_2]
  show (bO r fS).bind _=_
  simp only [lI h.r,aa,cond_false]
 simp only [hf,hg]
 exact OE.no h)
theorem W0 (H:Ok l) {d:Int} (hd:an (d+1)=d+1) (h12: ¬ 12<d) (hs:SI l (i+1) (d+1)) (hi:i<l.length) (hi1:i+1<l.length) (hK:bK (ag l i)≠0) (acc:List ax) (hacc:acc.length≤i):
 ∃ f g,OE QS l (i+1) f g∧(∀ k m,cS k (m+1) (ct l i) d acc (bK (ag l i))=(f k m).bind fun p=>(hY p.2).bind fun b=>cS k m b.2 d (acc++ [p.1]) b.1)∧(∀ k m,rS k (m+3) (rt l i) d acc=(g k m).bind fun p=>rS k m p.2 d (acc++ [p.1])):=by
 have hlen:=H.len
 have hb: ∀ v:ax,(acc.length+ [v].length)*128≤140737488355328:=fun v=>by simp only [List.length_singleton]; omega
 have vN:aA.mk (aV.mk (ct l i).Row.L (an ((ct l i).Row.At+1)) (ct l i).Row.aE)=ct l (i+1):=by
  show (⟨⟨l,an (((i:Nat):Int)+1),⟨0,0⟩⟩⟩:aA)=_
  rw [cG hi H.len]; rfl
 have hc: ∀ k m,cS k (m+1) (ct l i) d acc (bK (ag l i))=(eN (ct l (i+1))).bind fun r4=>
  if bK (ag l i)=1 then (oY (cJ k) r4.2 (bK (ag l i),r4.1,[],[],[],[],(ag l i).At) d).bind fun r5=>(hY r5.1).bind fun b=>cS k m b.2 d (acc++ [(sw r5).1]) b.1
  else if bK (ag l i)=2 then (oY (cJ k) r4.2 (bK (ag l i),r4.1,[],[],[],[],(ag l i).At) d).bind fun r5=>(hY r5.1).bind fun b=>cS k m b.2 d (acc++ [(sw r5).1]) b.1
  else (cj r4.2 bw).bind fun r9=>(hY r9).bind fun b=>cS k m b.2 d (acc++ [ax.mk (bK (ag l i)) r4.1 [] [] [] [] (ag l i).At]) b.1:=fun k m=>by
  unfold cS; rw [iX.eq_2,if_pos hK]
  show (fF (ct l i)).bind _=_
  rw [i_ hi,aa,if_neg h12]
  dsimp only
  rw [vN]
  simp only [if_pos (hb _)]
  rfl
 have Vr: ∀ k m,p_ (dD k) (m+2) l (i:Int) 0 0 d acc=bif az (ag l i) fQ||az (ag l i) eY then (rZ (rt l i)).bind fun p=>rS k m p.2 d (acc++ [p.1]) else (wO (dD k) (rt l i) d).bind fun p=>rS k m p.2 d (acc++ [p.1]):=fun k m=>by
  rw [p_.eq_2,if_neg h12]
  show (bO (rt l i) fQ).bind _=_
  rw [fP hi,aa]
  cases h1:az (ag l i) fQ with
  | true=>
   rw [cond_true,zY.eq_2,cond_true]
   simp only [if_pos (hb _)]
   rfl
  | false=>
   rw [cond_false]
   dsimp only
   rw [fP hi,aa,zY.eq_2]
   simp only [if_pos (hb _)]
   rfl
 have hr: ∀ k m,rS k (m+3) (rt l i) d acc=bif az (ag l i) fQ||az (ag l i) eY then (rZ (rt l i)).bind fun p=>rS k m p.2 d (acc++ [p.1]) else (wO (dD k) (rt l i) d).bind fun p=>rS k m p.2 d (acc++ [p.1]):=fun k m=>by
  unfold rS; rw [ox.eq_2]
  show (bO (rt l i) fS).bind _=_
  simp only [fP hi,aa]
  have hk:=hK
  unfold bK at hk
  have h0:=Vr k m
  cases h1:az (ag l i) fS with
  | true=>rw [cond_true]; exact h0
  | false=>
   rw [h1] at hk
   rw [cond_false]
   cases h2:az (ag l i) gF with
   | true=>rw [cond_true]; exact h0
   | false=>
    rw [h2] at hk
    rw [cond_false]
    cases h3:az (ag l i) fQ with
    | true=>rw [cond_true]; rw [h3] at h0; exact h0
    | false=>
     rw [h3] at hk
     rw [cond_false]
     cases h4:az (ag l i) eY with
     | true=>rw [cond_true]; rw [h3,h4] at h0; exact h0
     | false=>rw [h4] at hk; exact absurd rfl hk
 have Jn: ∀ K:Int,K=1∨K=2→bK (ag l i)=K→((K=2∧az (ag l i) gF=true)∨(K=1∧az (ag l i) gF=false))→(az (ag l i) fQ||az (ag l i) eY)=false→
  ∃ f g,OE QS l (i+1) f g∧(∀ k m,cS k (m+1) (ct l i) d acc (bK (ag l i))=(f k m).bind fun p=>(hY p.2).bind fun b=>cS k m b.2 d (acc++ [p.1]) b.1)∧(∀ k m,rS k (m+3) (rt l i) d acc=(g k m).bind fun p=>rS k m p.2 d (acc++ [p.1])):=fun K K6 Fi hp hh=>by
  refine ⟨_,_,aa5 H hd hs hi hi1 K hp,fun k m=> ?_,fun k m=> ?_⟩
  · rw [hc,Fi,Option.bind_assoc]
    congr 1; funext r4
    have e: ∀ x:Option (aA×(Int×List UInt8×List aj×List aj×List aK×List ax×Int)),(x.bind fun r5=>(hY r5.1).bind fun b=>cS k m b.2 d (acc++ [(sw r5).1]) b.1)=(x.map sw).bind fun p=>(hY p.2).bind fun b=>cS k m b.2 d (acc++ [p.1]) b.1:=fun x=>by cases x <;> rfl
    rcases K6 with rfl | rfl
    · rw [if_pos rfl]; exact e _
    · rw [if_neg (by decide),if_pos rfl]; exact e _
  · rw [hr,hh,cond_false]
 have small: ∀ K:Int,K=3∨K=4→bK (ag l i)=K→((K=4∧az (ag l i) eY=true)∨(K=3∧az (ag l i) eY=false))→(az (ag l i) fQ||az (ag l i) eY)=true→
  ∃ f g,OE QS l (i+1) f g∧(∀ k m,cS k (m+1) (ct l i) d acc (bK (ag l i))=(f k m).bind fun p=>(hY p.2).bind fun b=>cS k m b.2 d (acc++ [p.1]) b.1)∧(∀ k m,rS k (m+3) (rt l i) d acc=(g k m).bind fun p=>rS k m p.2 d (acc++ [p.1])):=fun K K6 Fi hp hh=>by
  refine ⟨_,_,U3 H hi hi1 K hp,fun k m=> ?_,fun k m=> ?_⟩
  · rw [hc,Fi,Option.bind_assoc]
    congr 1; funext r4
    rw [if_neg (by omega),if_neg (by omega),Option.bind_assoc]
    rfl
  · rw [hr,hh,cond_true]
 have hk:=hK
 unfold bK at hk
 cases h1:az (ag l i) fS with
 | true=>exact Jn 1 (.inl rfl) (by unfold bK; rw [h1]; rfl) (.inr ⟨rfl,pM h1 (by decide)⟩) (by rw [pM h1 (show fS≠fQ by decide),pM h1 (show fS≠eY by decide)]; rfl)
 | false=>
  cases h2:az (ag l i) gF with
  | true=>exact Jn 2 (.inr rfl) (by unfold bK; rw [h1,h2]; rfl) (.inl ⟨rfl,h2⟩) (by rw [pM h2 (show gF≠fQ by decide),pM h2 (show gF≠eY by decide)]; rfl)
  | false=>
   cases h3:az (ag l i) fQ with
   | true=>exact small 3 (.inl rfl) (by unfold bK; rw [h1,h2,h3]; rfl) (.inr ⟨rfl,pM h3 (by decide)⟩) (by rw [h3]; rfl)
   | false=>
    cases h4:az (ag l i) eY with
    | true=>exact small 4 (.inr rfl) (by unfold bK; rw [h1,h2,h3,h4]; rfl) (.inl ⟨rfl,h4⟩) (by rw [h3,h4]; rfl)
    | false=>rw [h1,h2,h3,h4] at hk; exact absurd rfl hk
theorem Ry (H:Ok l) (hi:i<l.length) (h:bK (ag l i)≠0):i+1<l.length:=by
 unfold bK at h
 cases h1:az (ag l i) fS with
 | true=>exact eg H hi h1
 | false=>
  cases h2:az (ag l i) gF with
  | true=>exact eg H hi h2
  | false=>
   cases h3:az (ag l i) fQ with
   | true=>exact eg H hi h3
   | false=>
    cases h4:az (ag l i) eY with
    | true=>exact eg H hi h4
    | false=>rw [h1,h2,h3,h4] at h; exact absurd rfl h
theorem Rz (hi:i<l.length) (h:bK (ag l i)=0) (k m:Nat) (d:Int) (acc:List ax):rS k (m+1) (rt l i) d acc=some (acc,rt l i):=by
 unfold bK at h
 unfold rS; rw [ox.eq_2]
 show (bO (rt l i) fS).bind _=_
 simp only [fP hi,aa]
 cases h1:az (ag l i) fS with
 | true=>rw [h1] at h; cases h
 | false=>
  cases h2:az (ag l i) gF with
  | true=>rw [h1,h2] at h; cases h
  | false=>
   cases h3:az (ag l i) fQ with
   | true=>rw [h1,h2,h3] at h; cases h
   | false=>
    cases h4:az (ag l i) eY with
    | true=>rw [h1,h2,h3,h4] at h; cases h
    | false=>rfl
theorem Ol (H:Ok l) {i0:Nat} {d:Int} (hd:an (d+1)=d+1) (hs: ¬ 12<d→SI l (i0+1) (d+1)): ∀ q i (acc:List ax),l.length≤i+q→i0≤i→i<l.length→acc.length≤i→QL acc→OE QL l i (fun k m=>cS k m (ct l i) d acc (bK (ag l i))) (fun k m=>rS k m (rt l i) d acc)
 | 0,i,_,hq,_,hi,_,_=>by omega
 | q+1,i,acc,hq,h0,hi,hacc,hQ=>by
  have hlen:=H.len
  by_cases hK:bK (ag l i)=0
  · refine OE.j8 ?_
    have hf: ∀ k m,cS k (m+1) (ct l i) d acc (bK (ag l i))=some (acc,ct l i):=fun k m=>by
     unfold cS; rw [iX.eq_2,hK]; rfl
    simp only [hf,Rz hi hK]
    exact OE.ok (Nat.le_refl i) hi hQ
  have hi1:=Ry H hi hK
  by_cases h12:12<d
  · have hb:Bd (aA.mk (aV.mk l (i:Int) ⟨14,(ag l i).At⟩)) (aB.mk l (i:Int) ⟨14,(ag l i).At⟩):=⟨by show (14:Int)≠0; decide,rfl⟩
    have et:l.getD ((i:Nat):Int).toNat ai.z=ag l i:=by rw [Int.toNat_natCast]; rfl
    refine OE.from 2 (f':=fun _ _=>some ([],aA.mk (aV.mk l (i:Int) ⟨14,(ag l i).At⟩))) (g':=fun _ _=>some ([],aB.mk l (i:Int) ⟨14,(ag l i).At⟩)) (fun k hk m hm=> ?_) (fun k hk m hm=> ?_) (OE.no hb)
    · obtain ⟨m,rfl⟩: ∃ j,m=j+2:=⟨m - 2,by omega⟩
      unfold cS; rw [iX.eq_2,if_pos hK]
      show (fF (ct l i)).bind _=_
      rw [i_ hi,aa,if_pos h12]
      dsimp only
      unfold jE
      rw [tw,aa,cond_true,aa]; rfl
    · obtain ⟨m,rfl⟩: ∃ j,m=j+2:=⟨m - 2,by omega⟩
      unfold rS; rw [ox.eq_2]
      show (bO (rt l i) fS).bind _=_
      simp only [fP hi,aa]
      have hc:p_ (dD k) (m+1) l (i:Int) 0 0 d acc=some ([],aB.mk l (i:Int) ⟨14,(ag l i).At⟩):=by
       rw [p_.eq_2,if_pos h12,if_pos (by omega),if_pos (by omega),et]
      have hk:=hK
      unfold bK at hk
      cases h1:az (ag l i) fS with
      | true=>exact hc
      | false=>
       cases h2:az (ag l i) gF with
       | true=>exact hc
       | false=>
        cases h3:az (ag l i) fQ with
        | true=>exact hc
        | false=>
         cases h4:az (ag l i) eY with
         | true=>exact hc
         | false=>rw [h1,h2,h3,h4] at hk; exact absurd rfl hk
  · obtain ⟨f,g,h1,h2,h3⟩:=W0 H hd h12 (fun j hj hj2=>hs h12 j (by omega) hj2) hi hi1 hK acc hacc
    refine OE.shift 1 3 ?_
    simp only [h2,h3]
    refine OE.mono (OE.bind h1 (fun v j g1 g2 g3=> ?_) fun v s v' r hb=> ?_) (Nat.le_succ i)
    · simp only [vf g2,aa]
      exact OE.mono (Ol H hd hs q j (acc++ [v]) (by omega) (by omega) g2 (by simp; omega) (hQ.push g3 (by omega))) g1
    · simp only [Ek hb.1,aa]
      exact Qm hb ..
theorem OQ (H:Ok l): ∀ q i (d:Int),l.length≤i+q→0≤d→d≤13→SI l i d
 | 0,i,d,hq,_,_=>fun j h1 h2=>by omega
 | q+1,i,d,hq,h0,K0=>fun j h1 h2=>by
  have hd:an (d+1)=d+1:=bP (by omega) (by omega)
  refine OE.diag (fun k m=> ?_) (fun k m=> ?_) (Ol H hd (i0:=j) (fun h12=>OQ H q (j+1) (d+1) (by omega) (by omega) (by omega)) l.length j [] (by omega) (Nat.le_refl j) h2 (Nat.zero_le _) QL.nil)
  · show ld (cJ k) k (ct l j) d=_
    unfold ld
    rw [vf h2,aa]
  · rfl
end
end
end Go.Sy.Ex
namespace Go.Sy.Ex
open Go.Sy
noncomputable section
def QN (l:List aJ):Prop:=l.length≤100000
def QC (c:b7):Prop:=QN c.Vars∧QN c.sP∧QN c.sS∧QL c.mh
section
variable {l:List ai} {i:Nat}
theorem OE.WK {α A B:Type} {Q:α→Prop} {F:Nat→A→Option (α×aA)} {G:Nat→B→Option (α×aB)} {x:A} {y:B} (h:OE Q l i (fun k _=>F k x) (fun k _=>G k y)):OE Q l i (fun _ _=>Sy.bu F x) (fun _ _=>Sy.bu G y):=by
 rcases h with ⟨v,j,Z,h1,h2,h3,h4⟩ | ⟨v,s,v',r,Z,h1,h4⟩
 · exact .inl ⟨v,j,Z,h1,h2,h3,fun k hk m hm=>⟨bn Z fun k hk=>(h4 k hk m hm).1,bn Z fun k hk=>(h4 k hk m hm).2⟩⟩
 · exact .inr ⟨v,s,v',r,Z,h1,fun k hk m hm=>⟨bn Z fun k hk=>(h4 k hk m hm).1,bn Z fun k hk=>(h4 k hk m hm).2⟩⟩
theorem aa6 (H:Ok l) (hi:i<l.length):OE QL l i (fun _ _=>qP (ct l i) 1) (fun _ _=>wQ (rt l i) 1):=
 OE.WK (F:=fun k (x:aA×Int)=>cJ k x.1 x.2) (G:=fun k (x:aB×Int)=>dD k x.1 x.2) (x:=(ct l i,1)) (y:=(rt l i,1)) (OQ H l.length i 1 (by omega) (by decide) (by decide) i (Nat.le_refl i) hi)
theorem Ib {s:aA} (h:s.Row.aE.Code≠0):qP s 1=some ([],s):=bn 2 fun k hk=>by
 obtain ⟨k,rfl⟩: ∃ j,k=j+2:=⟨k - 2,by omega⟩
 exact EC h k 1
theorem HE {r:aB} (h:r.bad.Code≠0):wQ r 1=some ([],r):=bn 2 fun k hk=>by
 obtain ⟨k,rfl⟩: ∃ j,k=j+2:=⟨k - 2,by omega⟩
 exact Ou h k 1
abbrev cN (m:Nat) (s:aA) (w:List UInt8) (acc:List aJ):=o5 m s.Row.L s.Row.At s.Row.aE.Code s.Row.aE.At w acc
abbrev rN (m:Nat) (r:aB) (w:List UInt8) (acc:List aJ):=j4 m r.l r.ah r.bad.Code r.bad.At w acc
theorem Eh {s:aA} (h:s.Row.aE.Code≠0) (m:Nat) (w:List UInt8) (acc:List aJ):cN (m+1) s w acc=some (acc,s):=by
 unfold cN; rw [o5.eq_2]
 show (c_ s w).bind _=_
 rw [nO h,aa,cond_false]
theorem B4 {r:aB} (h:r.bad.Code≠0) (m:Nat) (w:List UInt8) (acc:List aJ):rN (m+1) r w acc=some (acc,r):=by
 unfold rN; rw [j4.eq_2]
 show (bO r w).bind _=_
 rw [lI h,aa,cond_false]
theorem Oi {s:aA} (h:s.Row.aE.Code≠0) (w:List UInt8):oZ s w=some ([],s):=bn 1 fun k hk=>by
 obtain ⟨k,rfl⟩: ∃ j,k=j+1:=⟨k - 1,by omega⟩
 exact Eh h k w []
theorem MD {r:aB} (h:r.bad.Code≠0) (w:List UInt8):ow r w=some ([],r):=bn 1 fun k hk=>by
 obtain ⟨k,rfl⟩: ∃ j,k=j+1:=⟨k - 1,by omega⟩
 exact B4 h k w []
theorem ME (hi:i<l.length):tu (ct l i)=(eN (ct l i)).bind fun r=>some (aJ.mk r.1 0 (ag l i).At,r.2):=by
 unfold tu
 rw [i_ hi,aa]
theorem MF (H:Ok l) (w:List UInt8) (hw:w≠iN): ∀ q i (acc:List aJ),l.length≤i+q→i<l.length→acc.length≤i→OE QN l i (fun _ m=>cN m (ct l i) w acc) (fun _ m=>rN m (rt l i) w acc)
 | 0,i,_,hq,hi,_=>by omega
 | q+1,i,acc,hq,hi,hacc=>by
  have hlen:=H.len
  have hb: ∀ v:aJ,(acc.length+ [v].length)*32≤140737488355328:=fun v=>by simp only [List.length_singleton]; omega
  have et: ∀ j:Nat,l.getD ((j:Nat):Int).toNat ai.z=ag l j:=fun j=>by rw [Int.toNat_natCast]; rfl
  refine OE.j8 ?_
  cases h:az (ag l i) w with
  | false=>
   have hf: ∀ m,cN (m+1) (ct l i) w acc=some (acc,ct l i):=fun m=>by
    unfold cN; rw [o5.eq_2]
    show (c_ (ct l i) w).bind _=_
    rw [jR hi H.len,aa,h]; rfl
   have hg: ∀ m,rN (m+1) (rt l i) w acc=some (acc,rt l i):=fun m=>by
    unfold rN; rw [j4.eq_2]
    show (bO (rt l i) w).bind _=_
    rw [fP hi,aa,h]; rfl
   simp only [hf,hg]
   exact OE.ok (Nat.le_refl i) hi (by show acc.length≤100000; omega)
  | true=>
   have hi1:=eg H hi h
   have hf: ∀ m,cN (m+1) (ct l i) w acc=(eN (ct l (i+1))).bind fun r=>(cj r.2 bw).bind fun r3=>cN m r3 w (acc++ [aJ.mk r.1 0 (ag l (i+1)).At]):=fun m=>by
    unfold cN; rw [o5.eq_2]
    show (c_ (ct l i) w).bind _=_
    rw [jR hi H.len,aa,h,cond_true]
    dsimp only [cond_true]
    rw [ME hi1,Option.bind_assoc]
    congr 1; funext r
    rw [aa,if_pos (hb _)]
   have hg: ∀ m,rN (m+1) (rt l i) w acc=(eW (rt l (i+1))).bind fun r=>(bV r.2 bw).bind fun r3=>rN m r3 w (acc++ [aJ.mk r.1 0 (ag l (i+1)).At]):=fun m=>by
    unfold rN; rw [j4.eq_2]
    show (bO (rt l i) w).bind _=_
    rw [fP hi,aa,h,cond_true]
    have e1:an ((rt l i).ah+1)=((i+1:Nat):Int):=cG hi H.len
    have e2:(rt l i).l=l:=rfl
    dsimp only
    rw [mU hi H.len,e1,e2,et,if_pos (by omega),if_pos (by omega)]
    congr 1; funext r
    rw [if_neg hw]
    congr 1; funext r3
    rw [if_pos (hb _)]
   simp only [hf,hg]
   refine OE.mono (vR H hi1 (fun h1 h2=>OE.mono (kP H h1 bw (fun g1 g2=>OE.mono (MF H w hw q _ _ (by omega) g1 (by simp; omega)) (Nat.le_succ _)) fun s r hb=> ?_) (Nat.le_succ _)) fun v s v' r hb=> ?_) (Nat.le_succ i)
   · refine OE.j8 ?_
     simp only [Eh hb.1,B4 hb.r]
     exact OE.no hb
   · simp only [gO hb.1,jD hb.r,aa]
     refine OE.j8 ?_
     simp only [Eh hb.1,B4 hb.r]
     exact OE.no hb
theorem MH (H:Ok l) (w:List UInt8) (hw:w≠iN) (hi:i<l.length):OE QN l i (fun _ _=>oZ (ct l i) w) (fun _ _=>ow (rt l i) w):=
 OE.bu (F:=fun _ m (x:aA×List UInt8)=>Et m x.1 x.2) (G:=fun _ m (x:aB×List UInt8)=>Hz m x.1 x.2) (x:=(ct l i,w)) (y:=(rt l i,w)) (MF H w hw l.length i [] (by omega) hi (Nat.zero_le _))
abbrev cR (s:aA) (N:List UInt8) (St Fu:Int) (V:List aJ) (A:Int):=(oZ s ql).bind fun r16=>(oZ r16.2 qo).bind fun jB=>(qP jB.2 1).bind fun jC=>(cj jC.2 gG).bind fun lG=>some (b7.mk N St Fu V r16.1 jB.1 jC.1 A,lG)
abbrev rR (r:aB) (N:List UInt8) (St Fu:Int) (V:List aJ) (A:Int):=(ow r ql).bind fun r9=>(ow r9.2 qo).bind fun aT=>(wQ aT.2 1).bind fun bC=>(bV bC.2 gG).bind fun bp=>some (b7.mk N St Fu V r9.1 aT.1 bC.1 A,bp)
theorem Qg {s:aA} {r:aB} (h:Bd s r) (N N':List UInt8) (St DL Fu DD:Int) (V V':List aJ) (A A':Int):OE QC l i (fun _ _=>cR s N St Fu V A) (fun _ _=>rR r N' DL DD V' A'):=by
 simp only [cR,rR,Oi h.1,MD h.r,Ib h.1,HE h.r,gO h.1,jD h.r,aa]
 exact OE.no h
theorem Qh (H:Ok l) (hi:i<l.length) (N:List UInt8) (St Fu:Int) (V:List aJ) (hV:QN V) (A:Int):OE QC l i (fun _ _=>cR (ct l i) N St Fu V A) (fun _ _=>rR (rt l i) N St Fu V A):=by
 refine OE.bind (MH H ql (by decide) hi) (fun v j h1 h2 h3=> ?_) fun v s v' r hb=> ?_
 · refine OE.mono (OE.bind (MH H qo (by decide) h2) (fun v' j' g1 g2 g3=> ?_) fun v s v' r hb=> ?_) h1
   · refine OE.mono (OE.bind (aa6 H g2) (fun v'' j'' k1 k2 k3=> ?_) fun v s v' r hb=> ?_) g1
     · exact OE.mono (kP H k2 gG (fun q1 q2=>OE.ok (Nat.le_succ _) q1 ⟨hV,h3,g3,k3⟩) fun s r hb=>OE.no hb) k1
     · simp only [gO hb.1,jD hb.r,aa]
       exact OE.no hb
   · simp only [Ib hb.1,HE hb.r,gO hb.1,jD hb.r,aa]
     exact OE.no hb
 · simp only [Oi hb.1,MD hb.r,Ib hb.1,HE hb.r,gO hb.1,jD hb.r,aa]
   exact OE.no hb
abbrev cV (m:Nat) (s:aA) (N:List UInt8) (St Fu:Int) (V:List aJ) (A:Int):=nL m s.Row.L s.Row.At s.Row.aE.Code s.Row.aE.At [] 0 0 [] [] [] [] 0 N St Fu V [] [] [] A
abbrev rV (m:Nat) (r:aB) (N:List UInt8) (St Fu:Int) (V:List aJ) (A:Int):=(rN m r iN V).bind fun p=>rR p.2 N St Fu p.1 A
theorem sU {s:aA} {r:aB} (h:Bd s r) (N N':List UInt8) (St DL Fu DD:Int) (V V':List aJ) (A A':Int):OE QC l i (fun _ m=>cV m s N St Fu V A) (fun _ m=>rV m r N' DL DD V' A'):=OE.j8 (by
 have hf: ∀ m,cV (m+1) s N St Fu V A=cR s N St Fu V A:=fun m=>by
  unfold cV; rw [nL.eq_2]
  show (c_ s iN).bind _=_
  rw [nO h.1,aa,cond_false]
 simp only [hf,rV,B4 h.r,aa]
 exact Qg h ..)
theorem DP (H:Ok l) (N:List UInt8) (St Fu A:Int): ∀ q i (V:List aJ),l.length≤i+q→i<l.length→V.length≤i→OE QC l i (fun _ m=>cV m (ct l i) N St Fu V A) (fun _ m=>rV m (rt l i) N St Fu V A)
 | 0,i,_,hq,hi,_=>by omega
 | q+1,i,V,hq,hi,hV=>by
  have hlen:=H.len
  have hb: ∀ v:aJ,(V.length+ [v].length)*32≤140737488355328:=fun v=>by simp only [List.length_singleton]; omega
  have et: ∀ j:Nat,l.getD ((j:Nat):Int).toNat ai.z=ag l j:=fun j=>by rw [Int.toNat_natCast]; rfl
  refine OE.j8 ?_
  cases h:az (ag l i) iN with
  | false=>
   have hf: ∀ m,cV (m+1) (ct l i) N St Fu V A=cR (ct l i) N St Fu V A:=fun m=>by
    unfold cV; rw [nL.eq_2]
    show (c_ (ct l i) iN).bind _=_
    rw [jR hi H.len,aa,h]; rfl
   have hg: ∀ m,rV (m+1) (rt l i) N St Fu V A=rR (rt l i) N St Fu V A:=fun m=>by
    have :rN (m+1) (rt l i) iN V=some (V,rt l i):=by
     unfold rN; rw [j4.eq_2]
     show (bO (rt l i) iN).bind _=_
     rw [fP hi,aa,h]; rfl
    unfold rV; rw [this,aa]
   simp only [hf,hg]
   exact Qh H hi N St Fu V (by show V.length≤100000; omega) A
  | true=>
   have hi1:=eg H hi h
   have hf: ∀ m,cV (m+1) (ct l i) N St Fu V A=(eN (ct l (i+1))).bind fun r=>(cj r.2 oB).bind fun bC=>(c_ bC fR).bind fun bp=>(jF bp.2).bind fun bL=>(cj bL.2 bw).bind fun bE=>cV m bE N St Fu (V++ [aJ.mk r.1 (bif bp.1 then an (0 - bL.1) else bL.1) (ag l (i+1)).At]) A:=fun m=>by
    unfold cV; rw [nL.eq_2]
    show (c_ (ct l i) iN).bind _=_
    rw [jR hi H.len,aa,h,cond_true]
    dsimp only [cond_true]
    rw [ME hi1,Option.bind_assoc]
    congr 1; funext r
    rw [aa]
    congr 1; funext bC
    congr 1; funext bp
    congr 1; funext bL
    cases bp.1 with
    | true=>rw [cond_true]; congr 1; funext bE; rw [if_pos (hb _)]; rfl
    | false=>rw [cond_false]; congr 1; funext bE; rw [if_pos (hb _)]; rfl
   have hg: ∀ m,rV (m+1) (rt l i) N St Fu V A=(eW (rt l (i+1))).bind fun r=>(bV r.2 oB).bind fun r3=>(bO r3 fR).bind fun r4=>(j5 (bif r4.1 then aB.mk r4.2.l (an (r4.2.ah+1)) r4.2.bad else r4.2)).bind fun r5=>(bV r5.2 bw).bind fun r6=>rV m r6 N St Fu (V++ [aJ.mk r.1 (bif r4.1 then an (0 - r5.1) else r5.1) (ag l (i+1)).At]) A:=fun m=>by
    unfold rV rN; rw [j4.eq_2]
    show ((bO (rt l i) iN).bind _).bind _=_
    rw [fP hi,aa,h,cond_true]
    have e1:an ((rt l i).ah+1)=((i+1:Nat):Int):=cG hi H.len
    have e2:(rt l i).l=l:=rfl
    dsimp only
    rw [mU hi H.len,e1,e2,et,if_pos (by omega),if_pos (by omega),Option.bind_assoc]
    congr 1; funext r
    rw [if_pos rfl,Option.bind_assoc]
    congr 1; funext r3
    rw [Option.bind_assoc]
    congr 1; funext r4
    cases r4.1 with
    | true=>
     simp only [cond_true]
     rw [Option.bind_assoc]
     congr 1; funext r5
     rw [Option.bind_assoc]
     congr 1; funext r6
     rw [if_pos (hb _)]
    | false=>
     simp only [cond_false]
     rw [Option.bind_assoc]
     congr 1; funext r5
     rw [Option.bind_assoc]
     congr 1; funext r6
     rw [if_pos (hb _)]
   simp only [hf,hg]
   refine OE.mono (vR H hi1 (fun h1 h2=>OE.mono (kP H h1 oB (fun g1 g2=> ?_) fun s r hb=> ?_) (Nat.le_succ _)) fun v s v' r hb=> ?_) (Nat.le_succ i)
   · simp only [jR g1 H.len,fP g1,aa]
     cases hm:az (ag l (i+1+1+1)) fR with
     | true=>
      have g3:=eg H g1 hm
      simp only [cond_true,mU g1 H.len]
      refine OE.mono (BW H g3 (fun k1 k2=>OE.mono (kP H k1 bw (fun q1 q2=>OE.mono (DP H N St Fu A q _ _ (by omega) q1 (by simp; omega)) (Nat.le_succ _)) fun s r hb=>sU hb ..) (Nat.le_succ _)) fun v s v' r hb=> ?_) (show i+1+1≤i+1+1+1+1 by omega)
      simp only [gO hb.1,jD hb.r,aa]
      exact sU hb ..
     | false=>
      simp only [cond_false]
      refine OE.mono (BW H g1 (fun k1 k2=>OE.mono (kP H k1 bw (fun q1 q2=>OE.mono (DP H N St Fu A q _ _ (by omega) q1 (by simp; omega)) (Nat.le_succ _)) fun s r hb=>sU hb ..) (Nat.le_succ _)) fun v s v' r hb=> ?_) (show i+1+1≤i+1+1+1 by omega)
      simp only [gO hb.1,jD hb.r,aa]
      exact sU hb ..
   · simp only [nO hb.1,lI hb.r,aa,cond_false,Ez hb.1,G3 hb.r,gO hb.1,jD hb.r]
     exact sU hb ..
   · simp only [gO hb.1,jD hb.r,nO hb.1,lI hb.r,aa,cond_false,Ez hb.1,G3 hb.r]
     exact sU hb ..
end
end
end Go.Sy.Ex
namespace Go.Sy.Ex
open Go.Sy
noncomputable section
theorem bs {α β:Type} {x:Option α} {f:α→Option β} {r:β} (h:x.bind f=some r): ∃ a,x=some a∧f a=some r:=Option.bind_eq_some_iff.1 h
theorem B5: ∀ (m:Nat) (r:aB) (w:List UInt8) (V:List aJ) (p:List aJ×aB),rN m r w V=some p→rN (m+1) r w V=some p
 | 0,_,_,_,_,h=>by cases h
 | m+1,r,w,V,p,h=>by
  unfold rN at h ⊢
  rw [j4.eq_2] at h ⊢
  obtain ⟨r1,h1,h⟩:=bs h
  rw [h1,aa]
  cases hb:r1.1 with
  | false=>rw [hb] at h; exact h
  | true=>
   rw [hb,cond_true] at h
   rw [cond_true]
   split at h
   case isFalse=>cases h
   rename_i c1
   rw [if_pos c1]
   split at h
   case isFalse=>cases h
   rename_i c2
   rw [if_pos c2]
   obtain ⟨r2,h2,h⟩:=bs h
   rw [h2,aa]
   split at h
   · rename_i c3
     rw [if_pos c3]
     obtain ⟨r3,h3,h⟩:=bs h
     rw [h3,aa]
     obtain ⟨r4,h4,h⟩:=bs h
     rw [h4,aa]
     cases Lf:r4.1 with
     | true=>
      rw [Lf,cond_true] at h
      rw [cond_true]
      obtain ⟨r5,h5,h⟩:=bs h
      rw [h5,aa]
      rw [cond_true] at h ⊢
      obtain ⟨r6,h6,h⟩:=bs h
      rw [h6,aa]
      split at h
      case isFalse=>cases h
      rename_i c4
      rw [if_pos c4]
      exact B5 m _ _ _ _ h
     | false=>
      rw [Lf,cond_false] at h
      rw [cond_false]
      obtain ⟨r5,h5,h⟩:=bs h
      rw [h5,aa]
      rw [cond_false] at h ⊢
      obtain ⟨r6,h6,h⟩:=bs h
      rw [h6,aa]
      split at h
      case isFalse=>cases h
      rename_i c4
      rw [if_pos c4]
      exact B5 m _ _ _ _ h
   · rename_i c3
     rw [if_neg c3]
     obtain ⟨r6,h6,h⟩:=bs h
     rw [h6,aa]
     split at h
     case isFalse=>cases h
     rename_i c4
     rw [if_pos c4]
     exact B5 m _ _ _ _ h
theorem X0 {m:Nat} {r:aB} {w:List UInt8} {p:List aJ×aB} (h:rN m r w []=some p):ow r w=some p:=by
 have up: ∀ k,rN (m+k) r w []=some p:=fun k=>by
  induction k with
  | zero=>exact h
  | succ k ih=>exact B5 _ _ _ _ _ ih
 exact bn m fun k hk=>by
  obtain ⟨q,rfl⟩: ∃ q,k=m+q:=⟨k - m,by omega⟩
  exact up q
section
variable {l:List ai} {i:Nat}
abbrev rA (m:Nat) (r:aB) (A:Int):=(bV r ng).bind fun r1=>(eW r1).bind fun r2=>(bV r2.2 nj).bind fun r3=>(j5 r3).bind fun r4=>(bV r4.2 nh).bind fun r5=>(j5 r5).bind fun r6=>(bV r6.2 eS).bind fun r7=>rV m r7 r2.1 r4.1 r6.1 [] A
theorem P2 (H:Ok l) (hi:i<l.length):OE QC l i (fun _ m=>oX m (ct l i)) (fun _ m=>rA m (rt l i) (ag l i).At):=by
 have hf: ∀ m,oX m (ct l i)=(cj (ct l i) ng).bind fun r2=>(eN r2).bind fun r3=>(cj r3.2 nj).bind fun r4=>(jF r4).bind fun r5=>(cj r5.2 nh).bind fun r6=>(jF r6).bind fun r7=>(cj r7.2 eS).bind fun r8=>cV m r8 r3.1 r5.1 r7.1 [] (ag l i).At:=fun m=>by
  unfold oX
  rw [i_ hi,aa]
 simp only [hf]
 refine kP H hi ng (fun h1 _=>OE.mono (vR H h1 (fun h2 _=>OE.mono (kP H h2 nj (fun h3 _=>OE.mono (BW H h3 (fun h4 _=>OE.mono (kP H h4 nh (fun h5 _=>OE.mono (BW H h5 (fun h6 _=>OE.mono (kP H h6 eS (fun h7 _=>OE.mono (DP H _ _ _ _ l.length _ [] (by omega) h7 (Nat.zero_le _)) (Nat.le_succ _)) fun s r hb=> ?_) (Nat.le_succ _)) fun v s v' r hb=> ?_) (Nat.le_succ _)) fun s r hb=> ?_) (Nat.le_succ _)) fun v s v' r hb=> ?_) (Nat.le_succ _)) fun s r hb=> ?_) (Nat.le_succ _)) fun v s v' r hb=> ?_) (Nat.le_succ i)) fun s r hb=> ?_
 all_goals
  simp only [gO hb.1,S4 hb.1,Ez hb.1,jD hb.r,XV hb.r,G3 hb.r,aa]
  exact sU hb ..
theorem S_ (H:Ok l) (hi:i<l.length): ∃ c j f,k8 l (i:Int)=some (c,j,f)∧wK l (i:Int)=some (c,j,f)∧QC c∧(f.Code=0→f=⟨0,0⟩∧ ∃ n:Nat,j=(n:Int)∧i≤n∧n<l.length):=by
 have et:l.getD ((i:Nat):Int).toNat ai.z=ag l i:=by rw [Int.toNat_natCast]; rfl
 have hc: ∀ x,vi (ct l i)=some x→k8 l (i:Int)=bif !decide (x.2.Row.aE.Code=0) then some (b7.mk [] 0 0 [] [] [] [] 0,0,x.2.Row.aE) else some (x.1,x.2.Row.At,⟨0,0⟩):=fun x hx=>by
  unfold k8
  rw [show aA.mk (aV.mk l (i:Int) (aF.mk 0 0))=ct l i from rfl,hx,aa]
  rfl
 have hr: ∀ m x,rA m (rt l i) (ag l i).At=some x→wK l (i:Int)=bif !decide (x.2.bad.Code=0) then some (b7.mk [] 0 0 [] [] [] [] 0,0,x.2.bad) else some (x.1,x.2.ah,⟨0,0⟩):=fun m x hx=>by
  unfold wK
  rw [if_pos (by omega),if_pos (by omega),et]
  obtain ⟨r1,h1,hx⟩:=bs hx
  obtain ⟨r2,h2,hx⟩:=bs hx
  obtain ⟨r3,h3,hx⟩:=bs hx
  obtain ⟨r4,h4,hx⟩:=bs hx
  obtain ⟨r5,h5,hx⟩:=bs hx
  obtain ⟨r6,h6,hx⟩:=bs hx
  obtain ⟨r7,h7,hx⟩:=bs hx
  obtain ⟨r8,h8,hx⟩:=bs hx
  obtain ⟨r9,h9,hx⟩:=bs hx
  obtain ⟨aT,h10,hx⟩:=bs hx
  obtain ⟨bC,h11,hx⟩:=bs hx
  obtain ⟨bp,h12,hx⟩:=bs hx
  cases hx
  rw [show aB.mk l (i:Int) (aF.mk 0 0)=rt l i from rfl,h1,aa,h2,aa,h3,aa,h4,aa,h5,aa,h6,aa,h7,aa,X0 h8,aa,h9,aa,h10,aa,h11,aa,h12,aa]
  rfl
 rcases P2 H hi with ⟨v,j,Z,h1,h2,h3,h4⟩ | ⟨v,s,v',r,Z,h1,h4⟩
 · refine ⟨v,(j:Int),⟨0,0⟩, ?_, ?_,h3,fun _=>⟨rfl,j,rfl,h1,h2⟩⟩
   · rw [hc (v,ct l j) (bn Z fun m hm=>(h4 Z (Nat.le_refl _) m hm).1)]; rfl
   · rw [hr Z (v,rt l j) (h4 Z (Nat.le_refl _) Z (Nat.le_refl _)).2]; rfl
 · refine ⟨b7.mk [] 0 0 [] [] [] [] 0,0,s.Row.aE, ?_, ?_,⟨Nat.zero_le _,Nat.zero_le _,Nat.zero_le _,QL.nil⟩,fun q=>absurd q h1.1⟩
   · rw [hc (v,s) (bn Z fun m hm=>(h4 Z (Nat.le_refl _) m hm).1)]
     dsimp only
     rw [decide_eq_false h1.1]; rfl
   · rw [hr Z (v',r) (h4 Z (Nat.le_refl _) Z (Nat.le_refl _)).2]
     dsimp only
     rw [decide_eq_false h1.r, ← h1.2]; rfl
end
end
end Go.Sy.Ex
namespace Go.Sy.Ex
open Go.Sy
theorem Ag (t:aK):aK.mk t.Event t.Guard t.Target t.oO t.At=t:=rfl
theorem xe (s:ax):ax.mk s.Kind s.Name s.Entry s.Exit s.Trans s.Kids s.At=s:=by cases s; rfl
theorem Tv (l:List aJ) (hl:l.length≤100000) (f:aJ×aJ→Option Bool) (h: ∀ x ∈ l,f (x,x)=some true):De l l f=some true:=bn (l.length+1) fun k hk=>by
 show Df k l l f=_
 unfold Df
 rw [if_neg (fun q=>q rfl)]
 have loop: ∀ m i,i+m=l.length→ ∀ k,m+1≤k→xl k l f l (l.length:Int) ((i:Nat):Int)=some true:=by
  intro m
  induction m with
  | zero=>
   intro i h' k hk
   obtain ⟨k,rfl⟩: ∃ j,k=j+1:=⟨k - 1,by omega⟩
   rw [xl.eq_2,if_neg (by omega)]
  | succ m ih=>
   intro i h' k hk
   obtain ⟨k,rfl⟩: ∃ j,k=j+1:=⟨k - 1,by omega⟩
   have hi:i<l.length:=by omega
   rw [xl.eq_2,if_pos (by omega),if_pos (by omega),if_pos (by omega),if_pos (by omega),if_pos (by omega),Int.toNat_natCast,cK _ hi]
   try simp only [eta,td,Ag,xe]
   rw [h _ (List.getElem_mem hi),aa,Bool.not_true,cond_false,n8 (by omega)]
   exact ih (i+1) (by omega) k (by omega)
 exact loop l.length 0 (by omega) k hk
theorem EU (l:List ak) (hl:l.length≤100000) (f:ak×ak→Option Bool) (h: ∀ x ∈ l,f (x,x)=some true):sC l l f=some true:=bn (l.length+1) fun k hk=>by
 show Dc k l l f=_
 unfold Dc
 rw [if_neg (fun q=>q rfl)]
 have loop: ∀ m i,i+m=l.length→ ∀ k,m+1≤k→xk k l f l (l.length:Int) ((i:Nat):Int)=some true:=by
  intro m
  induction m with
  | zero=>
   intro i h' k hk
   obtain ⟨k,rfl⟩: ∃ j,k=j+1:=⟨k - 1,by omega⟩
   rw [xk.eq_2,if_neg (by omega)]
  | succ m ih=>
   intro i h' k hk
   obtain ⟨k,rfl⟩: ∃ j,k=j+1:=⟨k - 1,by omega⟩
   have hi:i<l.length:=by omega
   rw [xk.eq_2,if_pos (by omega),if_pos (by omega),if_pos (by omega),if_pos (by omega),if_pos (by omega),Int.toNat_natCast,cK _ hi]
   try simp only [eta,td,Ag,xe]
   rw [h _ (List.getElem_mem hi),aa,Bool.not_true,cond_false,n8 (by omega)]
   exact ih (i+1) (by omega) k (by omega)
 exact loop l.length 0 (by omega) k hk
theorem Tu (l:List aj) (hl:l.length≤100000) (f:aj×aj→Option Bool) (h: ∀ x ∈ l,f (x,x)=some true):Da l l f=some true:=bn (l.length+1) fun k hk=>by
 show Db k l l f=_
 unfold Db
 rw [if_neg (fun q=>q rfl)]
 have loop: ∀ m i,i+m=l.length→ ∀ k,m+1≤k→xj k l f l (l.length:Int) ((i:Nat):Int)=some true:=by
  intro m
  induction m with
  | zero=>
   intro i h' k hk
   obtain ⟨k,rfl⟩: ∃ j,k=j+1:=⟨k - 1,by omega⟩
   rw [xj.eq_2,if_neg (by omega)]
  | succ m ih=>
   intro i h' k hk
   obtain ⟨k,rfl⟩: ∃ j,k=j+1:=⟨k - 1,by omega⟩
   have hi:i<l.length:=by omega
   rw [xj.eq_2,if_pos (by omega),if_pos (by omega),if_pos (by omega),if_pos (by omega),if_pos (by omega),Int.toNat_natCast,cK _ hi]
   try simp only [eta,td,Ag,xe]
   rw [h _ (List.getElem_mem hi),aa,Bool.not_true,cond_false,n8 (by omega)]
   exact ih (i+1) (by omega) k (by omega)
 exact loop l.length 0 (by omega) k hk
theorem Tx (l:List aK) (hl:l.length≤100000) (f:aK×aK→Option Bool) (h: ∀ x ∈ l,f (x,x)=some true):Di l l f=some true:=bn (l.length+1) fun k hk=>by
 show Dj k l l f=_
 unfold Dj
 rw [if_neg (fun q=>q rfl)]
 have loop: ∀ m i,i+m=l.length→ ∀ k,m+1≤k→xo k l f l (l.length:Int) ((i:Nat):Int)=some true:=by
  intro m
  induction m with
  | zero=>
   intro i h' k hk
   obtain ⟨k,rfl⟩: ∃ j,k=j+1:=⟨k - 1,by omega⟩
   rw [xo.eq_2,if_neg (by omega)]
  | succ m ih=>
   intro i h' k hk
   obtain ⟨k,rfl⟩: ∃ j,k=j+1:=⟨k - 1,by omega⟩
   have hi:i<l.length:=by omega
   rw [xo.eq_2,if_pos (by omega),if_pos (by omega),if_pos (by omega),if_pos (by omega),if_pos (by omega),Int.toNat_natCast,cK _ hi]
   try simp only [eta,td,Ag,xe]
   rw [h _ (List.getElem_mem hi),aa,Bool.not_true,cond_false,n8 (by omega)]
   exact ih (i+1) (by omega) k (by omega)
 exact loop l.length 0 (by omega) k hk
theorem Tw (l:List ax) (hl:l.length≤100000) (f:ax×ax→Option Bool) (h: ∀ x ∈ l,f (x,x)=some true):Dg l l f=some true:=bn (l.length+1) fun k hk=>by
 show Dh k l l f=_
 unfold Dh
 rw [if_neg (fun q=>q rfl)]
 have loop: ∀ m i,i+m=l.length→ ∀ k,m+1≤k→xm k l f l (l.length:Int) ((i:Nat):Int)=some true:=by
  intro m
  induction m with
  | zero=>
   intro i h' k hk
   obtain ⟨k,rfl⟩: ∃ j,k=j+1:=⟨k - 1,by omega⟩
   rw [xm.eq_2,if_neg (by omega)]
  | succ m ih=>
   intro i h' k hk
   obtain ⟨k,rfl⟩: ∃ j,k=j+1:=⟨k - 1,by omega⟩
   have hi:i<l.length:=by omega
   rw [xm.eq_2,if_pos (by omega),if_pos (by omega),if_pos (by omega),if_pos (by omega),if_pos (by omega),Int.toNat_natCast,cK _ hi]
   try simp only [eta,td,Ag,xe]
   rw [h _ (List.getElem_mem hi),aa,Bool.not_true,cond_false,n8 (by omega)]
   exact ih (i+1) (by omega) k (by omega)
 exact loop l.length 0 (by omega) k hk
theorem Kq: ∀ (n:Nat) (e:ak),Fe n e→ ∀ k,n≤k→vt k e e=some true
 | 0,e,h,_,_=>h.elim
 | n+1,e,⟨h1,h4⟩,k,hk=>by
  obtain ⟨k,rfl⟩: ∃ j,k=j+1:=⟨k - 1,by omega⟩
  show Bb (vt k) k e e=_
  unfold Bb
  rw [if_pos rfl,if_pos rfl,if_pos rfl,EU _ (by omega) _ (fun x hx=>Kq n x (h4 x hx) k (by omega)),aa]
theorem Kp {e:ak} (h:Fd e):qX e e=some true:=by
 obtain ⟨n,hn⟩:=h
 exact bn n fun k hk=>Kq n e hn k hk
theorem Ea: ∀ (n:Nat) (l:List aj),Fl n l→ ∀ k,n≤k→s7 k l l=some true
 | 0,l,h,_,_=>h.elim
 | n+1,l,⟨h1,h4⟩,k,hk=>by
  obtain ⟨k,rfl⟩: ∃ j,k=j+1:=⟨k - 1,by omega⟩
  show Az (s7 k) k l l=_
  unfold Az
  rw [Tu _ (by omega) _ (fun x hx=>by
   obtain ⟨g1,g2,g3⟩:=h4 x hx
   show xN (s7 k) x x=_
   unfold xN
   rw [if_pos rfl,if_pos rfl,if_pos rfl,if_pos rfl,EU x.X (by have :=g1.1; omega) (fun y=>qX y.1 y.2) (fun e he=>Kp (g1.2 e he)),aa,cond_true,Ea n _ g2 k (by omega),aa,cond_true,Ea n _ g3 k (by omega),aa]),aa]
theorem D_ {l:List aj} (h:FL l):s6 l l=some true:=by
 obtain ⟨n,hn⟩:=h
 exact bn n fun k hk=>Ea n l hn k hk
theorem G2 {l:List aj} (h:FL l):rU l l=some true:=by
 obtain ⟨n,hn⟩:=h
 exact aav hn
theorem Tm {t:aK} (h:QT t):x4 t t=some true:=by
 unfold x4
 rw [if_pos rfl,if_pos rfl,EU t.Guard (by have :=h.1.1; omega) (fun y=>qX y.1 y.2) (fun e he=>Kp (h.1.2 e he)),aa,cond_true,D_ h.2,aa]
theorem JV: ∀ (n:Nat) (l:List ax),Sq n l→ ∀ k,n≤k→tv k l l=some true
 | 0,l,h,_,_=>h.elim
 | n+1,l,⟨h1,h4⟩,k,hk=>by
  obtain ⟨k,rfl⟩: ∃ j,k=j+1:=⟨k - 1,by omega⟩
  show AZ (tv k) k l l=_
  unfold AZ
  rw [Tw _ h1 _ (fun x hx=>by
   obtain ⟨⟨g1,g2⟩,⟨g3,g4⟩,g5⟩:=h4 x hx
   show yd (tv k) x x=_
   unfold yd
   rw [if_pos rfl,if_pos rfl,D_ g1,aa,cond_true,D_ g2,aa,cond_true,Tx _ g3 _ (fun t ht=>Tm (g4 t ht)),aa,cond_true,JV n _ g5 k (by omega),aa]),aa]
theorem Ey {l:List aJ} (h:QN l):tq l l=some true:=by
 unfold tq
 rw [Tv _ h _ (fun x hx=>by
  show x5 x x=_
  unfold x5
  rw [if_pos rfl,decide_eq_true rfl]),aa]
theorem R5 {c:b7} (h:QC c):xZ c c=some true:=by
 obtain ⟨h1,h2,h3,n,h4⟩:=h
 unfold xZ
 rw [if_pos rfl,if_pos rfl,if_pos rfl,Ey h1,aa,cond_true,Ey h2,aa,cond_true,Ey h3,aa,cond_true,show AY c.mh c.mh=some true from bn n fun k hk=>JV n _ h4 k hk,aa]
theorem HD {l:List aJ} (hl:QN l):wW l l=some true:=bn (l.length+1) fun k hk=>by
 have hl:l.length≤100000:=hl
 show CE k l l=_
 unfold CE
 rw [if_neg (fun q=>q rfl)]
 have loop: ∀ m i,i+m=l.length→ ∀ k,m+1≤k→wX k l l ((i:Nat):Int)=some true:=by
  intro m
  induction m with
  | zero=>
   intro i h' k hk
   obtain ⟨k,rfl⟩: ∃ j,k=j+1:=⟨k - 1,by omega⟩
   rw [wX.eq_2,if_neg (by omega)]
  | succ m ih=>
   intro i h' k hk
   obtain ⟨k,rfl⟩: ∃ j,k=j+1:=⟨k - 1,by omega⟩
   have hi:i<l.length:=by omega
   rw [wX.eq_2,if_pos (by omega),if_pos (by omega),if_pos (by omega),if_pos (by omega),if_pos (by omega),if_neg (fun q=>q rfl),if_pos (by omega),if_pos (by omega),if_pos (by omega),if_pos (by omega),if_neg (fun q=>q rfl),n8 (by omega)]
   exact ih (i+1) (by omega) k (by omega)
 exact loop l.length 0 (by omega) k hk
theorem aae {l:List aK} (hl:l.length≤100000) (h: ∀ t ∈ l,QT t):CJ l l=some true:=bn (l.length+1) fun k hk=>by
 show CL k l l=_
 unfold CL
 rw [if_neg (fun q=>q rfl)]
 have loop: ∀ m i,i+m=l.length→ ∀ k,m+1≤k→wZ k l l ((i:Nat):Int)=some true:=by
  intro m
  induction m with
  | zero=>
   intro i h' k hk
   obtain ⟨k,rfl⟩: ∃ j,k=j+1:=⟨k - 1,by omega⟩
   rw [wZ.eq_2,if_neg (by omega)]
  | succ m ih=>
   intro i h' k hk
   obtain ⟨k,rfl⟩: ∃ j,k=j+1:=⟨k - 1,by omega⟩
   have hi:i<l.length:=by omega
   have hq:=h _ (List.getElem_mem hi)
   rw [wZ.eq_2,if_pos (by omega),if_pos (by omega),if_pos (by omega),if_pos (by omega),if_pos (by omega),if_neg (fun q=>q rfl),if_pos (by omega),if_pos (by omega),if_pos (by omega),if_pos (by omega),if_neg (fun q=>q rfl),if_pos (by omega),if_pos (by omega),if_pos (by omega),if_pos (by omega),Int.toNat_natCast,cK _ hi,MK hq.1,aa,Bool.not_true,cond_false,if_pos (by omega),if_pos (by omega),if_pos (by omega),if_pos (by omega),G2 hq.2,aa,Bool.not_true,cond_false,n8 (by omega)]
   exact ih (i+1) (by omega) k (by omega)
 exact loop l.length 0 (by omega) k hk
theorem Oq: ∀ (n:Nat) (l:List ax),Sq n l→ ∀ k,n+100001≤k→uI k l l=some true
 | 0,l,h,_,_=>h.elim
 | n+1,l,⟨h1,h4⟩,k,hk=>by
  obtain ⟨k,rfl⟩: ∃ j,k=j+1:=⟨k - 1,by omega⟩
  show CG (uI k) k l l=_
  unfold CG
  rw [if_neg (fun q=>q rfl)]
  have loop: ∀ m i,i+m=l.length→ ∀ k',m+1≤k'→wY (uI k) k' l l ((i:Nat):Int)=some true:=by
   intro m
   induction m with
   | zero=>
    intro i h' k' hk'
    obtain ⟨k',rfl⟩: ∃ j,k'=j+1:=⟨k' - 1,by omega⟩
    rw [wY.eq_2,if_neg (by omega)]
   | succ m ih=>
    intro i h' k' hk'
    obtain ⟨k',rfl⟩: ∃ j,k'=j+1:=⟨k' - 1,by omega⟩
    have hi:i<l.length:=by omega
    obtain ⟨⟨g1,g2⟩,⟨g3,g4⟩,g5⟩:=h4 _ (List.getElem_mem hi)
    rw [wY.eq_2,if_pos (by omega),if_pos (by omega),if_pos (by omega),if_pos (by omega),if_pos (by omega),if_neg (fun q=>q rfl),if_neg (fun q=>q rfl),Int.toNat_natCast,cK _ hi,G2 g1,aa,Bool.not_true,cond_false,G2 g2,aa,Bool.not_true,cond_false,aae g3 g4,aa,Bool.not_true,cond_false,Oq n _ g5 k (by omega),aa,Bool.not_true,cond_false,n8 (by omega)]
    exact ih (i+1) (by omega) k' (by omega)
  exact loop l.length 0 (by omega) k (by omega)
theorem X1 {c:b7} (h:QC c):zS c c=some true:=by
 obtain ⟨h1,h2,h3,n,h4⟩:=h
 unfold zS
 rw [if_pos rfl,if_pos rfl,if_pos rfl,HD h1,aa,cond_true,HD h2,aa,cond_true,HD h3,aa,cond_true,show CF c.mh c.mh=some true from bn (n+100001) fun k hk=>Oq n _ h4 k hk,aa]
end Go.Sy.Ex
namespace Go.Sy.Ex
open Go.Sy
section
variable {l:List ai} {i:Nat}
theorem JW (hi:i<l.length) (hl:l.length≤100000) {s:List UInt8} (h:az (ag l i) s=true):c_ (ct l i) s=some (true,ct l (i+1)):=by rw [jR hi hl,h]; rfl
theorem qV (hi:i<l.length) (hl:l.length≤100000) {s:List UInt8} (h:az (ag l i) s=false):c_ (ct l i) s=some (false,ct l i):=by rw [jR hi hl,h]; rfl
theorem Eu (hi:i<l.length) {s:List UInt8} (h:az (ag l i) s=true):fm (ct l i) s=some (true,ct l i):=by rw [o7 hi,h]
theorem A4 (hi:i<l.length) {s:List UInt8} (h:az (ag l i) s=false):fm (ct l i) s=some (false,ct l i):=by rw [o7 hi,h]
end
abbrev K1:List ai:= [⟨1,0,5,ng,0⟩,⟨1,6,7,[99],0⟩,⟨1,8,13,nj,0⟩,⟨2,14,15,[50],2⟩,⟨1,16,20,nh,0⟩,⟨2,21,22,[57],9⟩,⟨3,22,23,eS,0⟩,⟨1,23,28,fS,0⟩,⟨1,29,30,[97],0⟩,⟨3,30,31,eS,0⟩,⟨1,31,33,eT,0⟩,⟨1,34,35,[101],0⟩,⟨3,35,37,fI,0⟩,⟨1,37,38,[97],0⟩,⟨3,38,39,bw,0⟩,⟨3,39,40,gG,0⟩,⟨3,40,41,gG,0⟩,⟨4,41,41,[],0⟩]
abbrev K2:List ai:= [⟨1,0,5,ng,0⟩,⟨1,6,7,[99],0⟩,⟨1,8,13,nj,0⟩,⟨2,14,15,[50],2⟩,⟨1,16,20,nh,0⟩,⟨2,21,22,[57],9⟩,⟨3,23,24,eS,0⟩,⟨1,25,30,fS,0⟩,⟨1,31,32,[97],0⟩,⟨3,33,34,eS,0⟩,⟨1,35,37,eT,0⟩,⟨1,38,39,[101],0⟩,⟨3,40,42,fI,0⟩,⟨3,43,44,bw,0⟩,⟨3,45,46,gG,0⟩,⟨3,47,48,gG,0⟩,⟨4,48,48,[],0⟩]
theorem Qa:hO HQ=(K1,⟨0,0⟩):=by decide+kernel
theorem Qb:hO HP=(K2,⟨0,0⟩):=by decide+kernel
abbrev S1:ax:=ax.mk 1 [97] [] [] [aK.mk [101] [] [97] [] 31] [] 23
abbrev C1:b7:=b7.mk [99] 2 9 [] [] [] [S1] 0
theorem tr1:mD (ct K1 10)=some (aK.mk [101] [] [97] [] 31,ct K1 15):=bn 3 fun k hk=>by
 obtain ⟨k,rfl⟩: ∃ j,k=j+3:=⟨k - 3,by omega⟩
 show o6 (k+3) (ct K1 10)=_
 unfold o6
 simp (disch:=decide) only [i_,JW,qV,qU,aa,cond_true,cond_false,qQ.eq_2,qR.eq_2,qS.eq_2,nN,A4,nP]
 rfl
theorem Ke {s:aA} :aA.mk (aV.mk s.Row.L s.Row.At (aF.mk s.Row.aE.Code s.Row.aE.At))=s:=rfl
theorem JY {l:List ai} {i:Nat} (hi:i<l.length) (hl:l.length≤100000):aA.mk (aV.mk (ct l i).Row.L (an ((ct l i).Row.At+1)) (ct l i).Row.aE)=ct l (i+1):=by
 show (⟨⟨l,an (((i:Nat):Int)+1),⟨0,0⟩⟩⟩:aA)=_
 rw [cG hi hl]; rfl
theorem st0 (k:Nat):cJ (k+2) (ct K1 15) 2=some ([],ct K1 15):=by
 show ld (cJ (k+1)) (k+1) (ct K1 15) 2=_
 unfold ld
 rw [vf (by decide),aa,iX.eq_2]
 rfl
theorem VR (k:Nat):oY (cJ (k+2)) (ct K1 9) (1,[97],[],[],[],[],23) 1=some (ct K1 16,(1,[97],[],[],[aK.mk [101] [] [97] [] 31],[],23)):=bn 6 fun m hm=>by
 obtain ⟨m,rfl⟩: ∃ j,m=j+6:=⟨m - 6,by omega⟩
 show nM (cJ (k+2)) (m+6) (ct K1 9) (1,[97],[],[],[],[],23) 1=_
 unfold nM
 simp (disch:=decide) only [nP,qV,aa,cond_true,cond_false,tr.eq_2,x6.eq_2,qO.eq_2,ki.eq_2,nN,Eu,A4]
 rw [show mD (ct K1 (9+1))=_ from tr1,aa,if_pos (by decide)]
 simp (disch:=decide) only [nP,qV,aa,cond_true,cond_false,ki.eq_2,nN,Eu,A4,show an ((1:Int)+1)=2 from by rw [bP (by decide) (by decide)]; rfl,st0]
 rfl
theorem aa_:qP (ct K1 7) 1=some ([S1],ct K1 16):=bn 5 fun k hk=>by
 obtain ⟨k,rfl⟩: ∃ j,k=j+5:=⟨k - 5,by omega⟩
 show ld (cJ (k+4)) (k+4) (ct K1 7) 1=_
 unfold ld
 rw [vf (by decide),aa,show bK (ag K1 7)=1 from by decide,iX.eq_2]
 simp (disch:=decide) only [i_,aa,nN,JY,qU]
 rw [if_pos (by decide),if_neg (by decide),if_pos trivial,show (ag K1 (7+1)).Text= [97] from rfl,show (ag K1 7).At=23 from rfl,VR (k+2),aa,if_pos (by decide)]
 dsimp only
 rw [vf (by decide),aa,show bK (ag K1 16)=0 from by decide,iX.eq_2]
 rfl
theorem Of {l:List ai} {i:Nat} (hi:i<l.length) (hl:l.length≤100000) {w:List UInt8} (h:az (ag l i) w=false):oZ (ct l i) w=some ([],ct l i):=bn 1 fun k hk=>by
 obtain ⟨k,rfl⟩: ∃ j,k=j+1:=⟨k - 1,by omega⟩
 show o5 (k+1) (ct l i).Row.L _ _ _ w []=_
 rw [o5.eq_2,nN,qV hi hl h,aa]; rfl
theorem Sc:k8 K1 0=some (C1,17,⟨0,0⟩):=by
 unfold k8
 rw [show vi (aA.mk (aV.mk K1 0 (aF.mk 0 0)))=some (C1,ct K1 17) from bn 1 fun k hk=>by
  obtain ⟨k,rfl⟩: ∃ j,k=j+1:=⟨k - 1,by omega⟩
  show oX (k+1) (ct K1 0)=_
  unfold oX
  simp (disch:=decide) only [i_,nP,qU,EA,aa,nL.eq_2,nN,qV,cond_false,Of]
  rw [aa_,aa,nP (by decide) (by decide) (by decide),aa]
  rfl,aa]
 rfl
theorem tr2:mD (ct K2 10)=some (aK.mk [101] [] [] [] 35,cb K2 13):=bn 3 fun k hk=>by
 obtain ⟨k,rfl⟩: ∃ j,k=j+3:=⟨k - 3,by omega⟩
 show o6 (k+3) (ct K2 10)=_
 unfold o6
 simp (disch:=decide) only [i_,JW,qV,qU,Ew,aa,cond_true,cond_false,qQ.eq_2,qR.eq_2,qS.eq_2,nN,Ke]
 simp only [vl (s:=cb K2 13) (by decide),gO (s:=cb K2 13) (by decide),aa,cond_false]
 rfl
theorem Sd:k8 K2 0=some (b7.mk [] 0 0 [] [] [] [] 0,0,⟨11,43⟩):=by
 have hb:(cb K2 13).Row.aE.Code≠0:=by decide
 have i2: ∀ k,oY (cJ (k+2)) (ct K2 9) (1,[97],[],[],[],[],25) 1=some (cb K2 13,(1,[97],[],[],[aK.mk [101] [] [] [] 35],[],25)):=fun k=>bn 6 fun m hm=>by
  obtain ⟨m,rfl⟩: ∃ j,m=j+6:=⟨m - 6,by omega⟩
  show nM (cJ (k+2)) (m+6) (ct K2 9) (1,[97],[],[],[],[],25) 1=_
  unfold nM
  simp (disch:=decide) only [nP,qV,aa,cond_true,cond_false,tr.eq_2,x6.eq_2,qO.eq_2,ki.eq_2,nN,Eu,A4]
  rw [show mD (ct K2 (9+1))=_ from tr2,aa,if_pos (by decide)]
  simp only [ki.eq_2,Ke,vl hb,aa,cond_false,EC hb,gO hb]
  rfl
 have s2:qP (ct K2 7) 1=some ([ax.mk 1 [97] [] [] [aK.mk [101] [] [] [] 35] [] 25],cb K2 13):=bn 5 fun k hk=>by
  obtain ⟨k,rfl⟩: ∃ j,k=j+5:=⟨k - 5,by omega⟩
  show ld (cJ (k+4)) (k+4) (ct K2 7) 1=_
  unfold ld
  rw [vf (by decide),aa,show bK (ag K2 7)=1 from by decide,iX.eq_2]
  simp (disch:=decide) only [i_,aa,nN,JY,qU]
  rw [if_pos (by decide),if_neg (by decide),if_pos trivial,show (ag K2 (7+1)).Text= [97] from rfl,show (ag K2 7).At=25 from rfl,i2 (k+2),aa,if_pos (by decide)]
  dsimp only
  rw [Ek hb,aa,iX.eq_2]
  rfl
 unfold k8
 rw [show vi (aA.mk (aV.mk K2 0 (aF.mk 0 0)))=some (b7.mk [99] 2 9 [] [] [] [ax.mk 1 [97] [] [] [aK.mk [101] [] [] [] 35] [] 25] 0,cb K2 13) from bn 1 fun k hk=>by
  obtain ⟨k,rfl⟩: ∃ j,k=j+1:=⟨k - 1,by omega⟩
  show oX (k+1) (ct K2 0)=_
  unfold oX
  simp (disch:=decide) only [i_,nP,qU,EA,aa,nL.eq_2,nN,qV,cond_false,Of]
  rw [s2,aa,gO hb,aa]
  rfl,aa,EB hb,aa]
 rfl
end Go.Sy.Ex
namespace Go.Sy.Ex
open Go.Sy
theorem V1:Lib.itoa 9= [57]:=by rw [zf (by decide),show (9:Int).toNat=9 from rfl,o8 (by decide)]; rfl
theorem oV {x s:List UInt8} (h:x.length+s.length≤140737488355328):bJ x s=some ((s.length:Int),true,x++s):=by unfold bJ; rw [if_pos h]
theorem On {s:List UInt8} {n:Nat} (h:s.length*n≤140737488355328) (hn:n≤1000000):lD s (n:Int)=some (Lib.repeatL s n):=by unfold lD; rw [if_pos ⟨by omega,by omega,by simpa using h⟩]; simp
theorem XB (b:List UInt8) (hb:b.length≤1000):A0 b (aK.mk [101] [] [97] [] 31) 2=some (b++ [32,32,32,32,111,110,32,101,32,45,62,32,97,59,10]):=bn 1 fun k hk=>by
 obtain ⟨k,rfl⟩: ∃ j,k=j+1:=⟨k - 1,by omega⟩
 show A1 (k+1) b (aK.mk [101] [] [97] [] 31) 2=_
 unfold A1
 rw [show lD gh 2=some [32,32,32,32] from On (n:=2) (by decide) (by decide),aa,oV (by simp; omega),aa,if_neg (by decide),if_pos (by decide)]
 dsimp only
 rw [oV (by simp; omega),aa,yf.eq_2,if_neg (by decide),if_pos (by decide),if_pos (by decide),oV (by simp; omega),aa,if_pos (by rfl)]
 dsimp only
 rw [oV (by simp; omega),aa]
 simp
theorem ps1 (b:List UInt8) (hb:b.length≤500):AV b S1 1=some (b++ [32,32,115,116,97,116,101,32,97,32,123,10,32,32,32,32,111,110,32,101,32,45,62,32,97,59,10,32,32,125,10]):=bn 5 fun k hk=>by
 obtain ⟨k,rfl⟩: ∃ j,k=j+5:=⟨k - 5,by omega⟩
 show AW (x7 (k+4)) (k+4) b S1 1=_
 unfold AW
 rw [show lD gh 1=some [32,32] from On (n:=1) (by decide) (by decide),aa,show A2 S1.Kind=some OG from rfl,aa,if_pos (by decide),if_pos (by decide),oV (by simp; omega),aa,if_neg (by decide),if_neg (by decide),if_neg (by decide+kernel)]
 dsimp only
 rw [oV (by simp; omega),aa,if_neg (by decide),if_neg (by decide),qT.eq_2,if_pos (by decide),if_pos (by decide),if_pos (by decide),show an ((1:Int)+1)=2 from by rw [bP (by decide) (by decide)]; rfl]
 dsimp only
 rw [show ([aK.mk [101] [] [97] [] 31].getD (0:Int).toNat aK.z)=aK.mk [101] [] [97] [] 31 from rfl,XB _ (by simp; omega),aa,show an ((0:Int)+1)=1 from by rw [bP (by decide) (by decide)]; rfl,qT.eq_2,if_neg (by decide),AX.eq_2,if_neg (by decide),if_pos (by decide),oV (by simp; omega),aa]
 simp
theorem Xu:AQ C1=some OB:=bn 6 fun k hk=>by
 obtain ⟨k,rfl⟩: ∃ j,k=j+6:=⟨k - 6,by omega⟩
 show AR (k+6) C1=_
 unfold AR
 have i2:lC C1.Steps=some [50]:=by unfold lC; rw [if_pos (by decide)]; exact congrArg some V0
 have i9:lC C1.Fuel=some [57]:=by unfold lC; rw [if_pos (by decide)]; exact congrArg some V1
 rw [if_pos (by decide),if_pos (by decide),i2,aa,if_pos (by decide),if_pos (by decide),i9,aa,if_pos (by decide),if_pos (by decide),oV (by decide),aa,AS.eq_2,if_neg (by decide),AT.eq_2,if_neg (by decide),AU.eq_2,if_neg (by decide),xY.eq_2,if_pos (by decide),if_pos (by decide),if_pos (by decide)]
 dsimp only
 rw [show ([S1].getD (Int.toNat 0) ax.z)=S1 from rfl,xe,ps1 _ (by decide),aa,show an ((0:Int)+1)=1 from by rw [bP (by decide) (by decide)]; rfl,xY.eq_2,if_neg (by decide),oV (by decide),aa]
 rfl
theorem Gg:uf=some true:=by
 unfold uf
 have r1:ry HQ=some (C1,⟨0,0⟩,true):=by
  unfold ry
  rw [Md,Qa,aa,if_neg (by decide),Sc,aa,if_pos rfl]
  rfl
 have r2:ry HP=some (b7.mk [] 0 0 [] [] [] [] 0,⟨11,43⟩,false):=by
  unfold ry
  rw [Md,Qb,aa,if_neg (by decide),Sd,aa,if_neg (by decide)]
 rw [r1,aa,r2,aa]
 dsimp only
 rw [cond_true,Bool.not_false,cond_true,if_pos rfl,if_pos rfl,Xu,aa,decide_eq_true rfl]
theorem Tb (s:List UInt8) (v:Int):BI s v=some true:=by
 unfold BI
 rw [XZ,aa]
 by_cases hc:(hO s).2.Code≠0
 · rw [if_pos hc,Gg,aa]
 rw [if_neg hc]
 by_cases K3:3000<(s.length:Int)
 · rw [if_pos K3,Gg,aa]
 rw [if_neg K3]
 obtain ⟨H,h0⟩:=Re (Classical.not_not.1 hc)
 have hlen:=I9 s
 obtain ⟨r,hr,h1,h2⟩:=Xx (v:=v) (n:=((hO s).1.length:Int)) (by omega) (by omega)
 obtain ⟨r,rfl⟩: ∃ q:Nat,r=(q:Int):=⟨r.toNat,by omega⟩
 obtain ⟨c,j,f,he,hf,hq, -⟩:=S_ H (i:=r) (by omega)
 rw [hr,aa,he,aa,hf,aa]
 dsimp only
 rw [if_pos rfl,if_pos ⟨rfl,rfl⟩,R5 hq,aa,cond_true,X1 hq,aa,cond_true,Gg,aa]
end Go.Sy.Ex
