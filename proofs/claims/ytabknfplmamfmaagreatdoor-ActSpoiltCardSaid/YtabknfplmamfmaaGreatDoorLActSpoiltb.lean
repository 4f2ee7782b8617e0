import Derived.Lib.ItoaMem
import Derived.Lib.ParseIntB
import Derived.Test.YtabknfplmamfmaaGreatDoorLActSpoilta
set_option linter.unusedVariables false
set_option linter.unusedSimpArgs false
namespace Go.Sy.Ex
open Go.Sy
theorem wW (d:Nat) (h:d<10):(UInt8.ofNat (48+d)).toNat=48+d:=by
 have : ∀ d,d<10→(UInt8.ofNat (48+d)).toNat=48+d:=by decide+kernel
 exact this d h
theorem kO {u:Nat} (h:u<10):Lib.decDigits u= [UInt8.ofNat (48+u)]:=by rw [Lib.decDigits,dif_pos h]
theorem rP {u:Nat} (h: ¬ u<10):Lib.decDigits u=Lib.decDigits (u / 10)++ [UInt8.ofNat (48+u % 10)]:=by rw [Lib.decDigits,dif_neg h]
theorem JE: ∀ (n u:Nat),u≤n→ ∀ c ∈ Lib.decDigits u,48≤c.toNat∧c.toNat≤57:=by
 intro n
 induction n with
 | zero=>
  intro u h c hc
  have :u=0:=by omega
  subst this
  rw [kO (by decide),List.mem_singleton] at hc
  subst hc; decide
 | succ n ih=>
  intro u h c hc
  by_cases hs:u<10
  · rw [kO hs,List.mem_singleton] at hc
    subst hc; rw [wW u hs]; omega
  · rw [rP hs,List.mem_append,List.mem_singleton] at hc
    rcases hc with hc | rfl
    · exact ih (u / 10) (by omega) c hc
    · rw [wW _ (by omega)]; omega
theorem zT: ∀ u,Lib.decDigits u≠ []:=fun u=>by
 by_cases hs:u<10
 · rw [kO hs]; simp
 · rw [rP hs]; simp
theorem Ru: ∀ (k u:Nat),u<10 ^ (k+1)→(Lib.decDigits u).length≤k+1:=by
 intro k
 induction k with
 | zero=>intro u h; rw [kO (by omega)]; simp
 | succ k ih=>
  intro u h
  by_cases hs:u<10
  · rw [kO hs]; simp
  · rw [rP hs,List.length_append,List.length_singleton]
    have :=ih (u / 10) (by rw [Nat.pow_succ] at h; omega)
    omega
theorem Wo: ∀ (l:List UInt8) (acc a:Nat) (c:UInt8),Lib.parseUintM (2 ^ 64 - 1) acc l= .ok a→Lib.parseUintM (2 ^ 64 - 1) acc (l++ [c])=Lib.parseUintM (2 ^ 64 - 1) a [c]:=by
 intro l
 induction l with
 | nil=>intro acc a c h; cases h; rfl
 | cons b l ih=>
  intro acc a c h
  rw [List.cons_append]
  unfold Lib.parseUintM at h ⊢
  split at h
  · rename_i hb
    rw [if_pos hb]
    split at h
    · cases h
    · rename_i h1
      rw [if_neg h1]
      split at h
      · cases h
      · rename_i h2
        rw [if_neg h2]
        have :=ih _ _ c h
        rw [this]
        rfl
  · cases h
theorem Mp: ∀ (n u:Nat),u≤n→u≤9223372036854775808→Lib.parseUintM (2 ^ 64 - 1) 0 (Lib.decDigits u)= .ok u:=by
 intro n
 induction n with
 | zero=>
  intro u h hu
  have :u=0:=by omega
  subst this
  rw [kO (by decide)]
  rfl
 | succ n ih=>
  intro u h hu
  by_cases hs:u<10
  · rw [kO hs]
    unfold Lib.parseUintM
    rw [wW u hs,if_pos (by omega),if_neg (by omega),if_neg (by omega)]
    unfold Lib.parseUintM
    congr 1; omega
  · rw [rP hs,Wo _ _ _ _ (ih (u / 10) (by omega) (by omega))]
    unfold Lib.parseUintM
    rw [wW _ (by omega),if_pos (by omega),if_neg (by omega),if_neg (by omega)]
    unfold Lib.parseUintM
    congr 1; omega
theorem Wq (v:Int) (h0: -9223372036854775808≤v) (h1:v≤9223372036854775807):Lib.parseIntB 64 (Lib.itoa v)= .ok v:=by
 unfold Lib.itoa
 by_cases hv:v<0
 · rw [if_pos hv]
   have hu:v.natAbs≤9223372036854775808:=by omega
   unfold Lib.parseIntB Lib.parseUintB
   simp only []
   have hif:(if (45:UInt8).toNat=43∨(45:UInt8).toNat=45 then Lib.decDigits v.natAbs else 45::Lib.decDigits v.natAbs)=Lib.decDigits v.natAbs:=if_pos (.inr rfl)
   rw [hif,if_neg (zT _),Mp _ _ (Nat.le_refl _) hu]
   have h45:(45:UInt8).toNat=45:=rfl
   simp only [h45,not_true_eq_false,false_and,if_false,true_and,if_true]
   rw [if_neg (by omega)]
   congr 1; omega
 · rw [if_neg hv]
   have hu:v.toNat≤9223372036854775807:=by omega
   have hne:=zT v.toNat
   obtain ⟨c,r,qq⟩: ∃ c r,Lib.decDigits v.toNat=c::r:=by
    cases hd:Lib.decDigits v.toNat with
    | nil=>exact absurd hd hne
    | cons c r=>exact ⟨c,r,rfl⟩
   have hc:=JE _ _ (Nat.le_refl v.toNat) c (by rw [qq]; simp)
   have hp:=Mp _ _ (Nat.le_refl v.toNat) (by omega)
   rw [qq] at hp ⊢
   unfold Lib.parseIntB Lib.parseUintB
   simp only []
   rw [if_neg (show ¬ (c.toNat=43∨c.toNat=45) by omega),if_neg (by simp),hp]
   simp only [show ¬ c.toNat=45 by omega,not_false_eq_true,true_and,false_and,if_false]
   rw [if_neg (by omega)]
   congr 1; omega
theorem zV: ∀ d,d<10→cut lg ((d:Nat):Int) ((d+1:Nat):Int)= [UInt8.ofNat (48+d)]:=by decide+kernel
theorem Pf: ∀ j (n:Int), -(10 ^ j:Nat)<n→n<(10 ^ j:Nat)→ -9223372036854775808≤n→n≤9223372036854775807→1≤j→j≤30→ ∀ k,j≤k→vv k n=some (Lib.itoa n)∧(Lib.itoa n).length≤j+1:=by
 intro j
 induction j with
 | zero=>intro n _ _ _ _ h; omega
 | succ j ih=>
  intro n h1 h2 h3 h4 _ hj k hk
  obtain ⟨k,rfl⟩: ∃ j,k=j+1:=⟨k - 1,by omega⟩
  have kM: ∀ d:Nat,d<10→ag (((d:Nat):Int)+1)=((d+1:Nat):Int):=fun d hd=>by rw [bl (by omega) (by omega)]; omega
  have Az:lg.length=10:=rfl
  have abc:10 ^ (j+1)=10 ^ j*10:=Nat.pow_succ ..
  simp only [vv,HB]
  by_cases hneg:n<0
  · obtain ⟨u,rfl⟩: ∃ u:Nat,n= -(u:Int):=⟨n.natAbs,by omega⟩
    have hu1:1≤u:=by omega
    rw [Lib.itoa_neg u hu1]
    by_cases hb:u<10
    · rw [if_neg (by omega),if_pos hneg]
      have e1:ag (0 - (-(u:Int)))=(u:Int):=by rw [bl (by omega) (by omega)]; omega
      rw [e1,kM u hb,if_pos (by omega),if_pos (by rw [Az]; omega),if_pos (by omega),if_pos (by omega),zV u hb,if_pos (by simp),kO hb]
      exact ⟨rfl,by simp⟩
    · have e1:Int.tdiv (-(u:Int)) 10= -((u / 10:Nat):Int):=by rw [Int.neg_tdiv,Int.tdiv_eq_ediv_of_nonneg (by omega)]; omega
      have e2:Int.tmod (-(u:Int)) 10= -((u % 10:Nat):Int):=by rw [Int.neg_tmod,Int.tmod_eq_emod_of_nonneg (by omega)]; omega
      have e3:ag (-((u / 10:Nat):Int))= -((u / 10:Nat):Int):=bl (by omega) (by omega)
      have e4:ag (0 - (-((u % 10:Nat):Int)))=((u % 10:Nat):Int):=by rw [bl (by omega) (by omega)]; omega
      have Ax:1≤j:=by
       rcases Nat.eq_zero_or_pos j with rfl | q
       · simp at h1 h2; omega
       · exact q
      obtain ⟨i1,i2⟩:=ih (-((u / 10:Nat):Int)) (by omega) (by omega) (by omega) (by omega) Ax (by omega) k (by omega)
      rw [Lib.itoa_neg (u / 10) (by omega)] at i1 i2
      rw [if_pos (by omega),if_pos (by decide),if_pos (by decide),e1,e3,i1,aa,e2,e4,kM (u % 10) (by omega),if_pos (by omega),if_pos (by rw [Az]; omega),if_pos (by omega),if_pos (by omega),zV (u % 10) (by omega)]
      rw [if_pos (by simp only [List.length_singleton]; omega),rP hb]
      refine ⟨rfl, ?_⟩
      simp only [List.length_cons,List.length_append,List.length_nil] at i2 ⊢
      omega
  · obtain ⟨u,rfl⟩: ∃ u:Nat,n=(u:Int):=⟨n.toNat,by omega⟩
    rw [Lib.itoa_nonneg u]
    rw [if_neg (by omega),if_neg hneg]
    by_cases hb:u<10
    · rw [if_pos (by omega),kM u hb,if_pos (by omega),if_pos (by rw [Az]; omega),if_pos (by omega),if_pos (by omega),zV u hb,kO hb]
      exact ⟨rfl,by simp⟩
    · have e1:Int.tdiv ((u:Nat):Int) 10=((u / 10:Nat):Int):=by rw [Int.tdiv_eq_ediv_of_nonneg (by omega)]; omega
      have e2:Int.tmod ((u:Nat):Int) 10=((u % 10:Nat):Int):=by rw [Int.tmod_eq_emod_of_nonneg (by omega)]; omega
      have e3:ag ((u / 10:Nat):Int)=((u / 10:Nat):Int):=bl (by omega) (by omega)
      have Ax:1≤j:=by
       rcases Nat.eq_zero_or_pos j with rfl | q
       · simp at h1 h2; omega
       · exact q
      obtain ⟨i1,i2⟩:=ih ((u / 10:Nat):Int) (by omega) (by omega) (by omega) (by omega) Ax (by omega) k (by omega)
      rw [Lib.itoa_nonneg (u / 10)] at i1 i2
      rw [if_neg (by omega),if_pos (by decide),e1,e3,i1,aa,e2,if_pos (by decide),if_pos (by decide),kM (u % 10) (by omega),if_pos (by omega),if_pos (by rw [Az]; omega),if_pos (by omega),if_pos (by omega),zV (u % 10) (by omega)]
      rw [if_pos (by simp only [List.length_singleton]; omega),rP hb]
      refine ⟨rfl, ?_⟩
      simp only [List.length_append,List.length_cons,List.length_nil] at i2 ⊢
      omega
theorem ID (n:Int) (h0: -9223372036854775808≤n) (h1:n≤9223372036854775807):vu n=some (Lib.itoa n):=
 b6 19 fun k hk=>(Pf 19 n (by omega) (by omega) h0 h1 (by decide) (by decide) k hk).1
theorem JF: ∀ (n u:Nat),u≤n→1≤u→(Lib.decDigits u).getD 0 0≠48
 | 0,u,h,h1=>by omega
 | n+1,u,h,h1=>by
  by_cases h10:u<10
  · rw [kO h10]
    show UInt8.ofNat (48+u)≠48
    intro e
    have :=wW u h10
    rw [e] at this
    have h48:(48:UInt8).toNat=48:=rfl
    omega
  · rw [rP h10]
    have :=JF n (u / 10) (by omega) (by omega)
    have hne:=zT (u / 10)
    cases hd:Lib.decDigits (u / 10) with
    | nil=>exact absurd hd hne
    | cons c l=>rw [hd] at this; exact this
theorem uO {n:Int} (h:0≤n):Lib.itoa n=Lib.decDigits n.toNat:=by unfold Lib.itoa; rw [if_neg (by omega)]
theorem AJ {n:Int} (h:0≤n): ∀ c ∈ Lib.itoa n,dg c=true:=fun c hc=>by
 rw [uO h] at hc
 exact (wV c).2 (JE n.toNat n.toNat (Nat.le_refl _) c hc)
theorem FO {n:Int} (h:0≤n):Lib.itoa n≠ []:=by rw [uO h]; exact zT _
theorem UG {n:Int} (h:0≤n) (h1:n≤9223372036854775807):oe (Lib.itoa n)=(n,0):=by
 rw [← Mf _ (FO h) (AJ h)]
 unfold numOf
 rw [if_neg,Wq n (by omega) h1]
 rintro ⟨h2,h3⟩
 rw [uO h] at h2 h3
 by_cases h0:n.toNat<10
 · rw [kO h0] at h2; simp at h2
 · exact JF n.toNat n.toNat (Nat.le_refl _) (by omega) h3
theorem OP (p:UInt8→Bool) (l:List UInt8) (h: ∀ c ∈ l,p c=true):l.takeWhile p=l:=by
 induction l with
 | nil=>rfl
 | cons a l ih=>rw [List.takeWhile_cons_of_pos (h a (by simp)),ih fun c hc=>h c (by simp [hc])]
theorem VQ {b:UInt8} (h:nm b=true):n5 b=false:=by
 have :=(VU (b:=b) (by simpa [nm] using h)).1
 exact decide_eq_false this
theorem Oh {s:List UInt8} (h: ∀ c ∈ s,nm c=true):gD s=s:=by
 cases s with
 | nil=>rfl
 | cons a l=>unfold gD; rw [List.dropWhile_cons_of_neg (by simp [VQ (h a (by simp))])]
theorem Lx.one {s:List UInt8} {tk:Tk} (h0:s≠ []) (hs:gD s=s) (hh:nW s=some (tk,s.length)):Lx s [tk]:=fun n=>by
 have :=gN.cons (n:=n) (L:= []) hs h0 hh (by rw [List.drop_length]; exact .nil rfl)
 exact ⟨_,this,rfl⟩
theorem Lx.num {n:Int} (h:0≤n) (h1:n≤9223372036854775807):Lx (Lib.itoa n) [(2,Lib.itoa n,n)]:=by
 refine Lx.one (FO h) (Oh fun c hc=>by simp [nm,AJ h c hc]) ?_
 have xI:=OP dg _ (AJ h)
 have hn:=UG h h1
 cases hi:Lib.itoa n with
 | nil=>exact absurd hi (FO h)
 | cons a l=>
  rw [hi] at xI hn
  rw [uz,if_pos (AJ h a (by rw [hi]; simp)),xI,hn]
  rfl
theorem eX {s:List UInt8} (h:cY s=true):s≠ []∧s.length≤24∧ep s=false∧lt (s.getD 0 0)=true∧ ∀ c ∈ s,nm c=true:=by
 unfold cY at h
 simp only [Bool.and_eq_true,decide_eq_true_eq,Bool.not_eq_true',List.all_eq_true] at h
 obtain ⟨⟨⟨⟨h1,h2⟩,h3⟩,h4⟩,h5⟩:=h
 exact ⟨h1,h2,h3,h4,h5⟩
theorem Lx.word {s:List UInt8} (h0:s≠ []) (h1:s.length≤24) (h2:lt (s.getD 0 0)=true) (h3: ∀ c ∈ s,nm c=true):Lx s [(1,s,0)]:=by
 refine Lx.one h0 (Oh h3) ?_
 have xI:=OP nm _ h3
 cases hs:s with
 | nil=>exact absurd hs h0
 | cons a l=>
  rw [hs] at xI h2 h1
  have h2:lt a=true:=h2
  rw [uz,if_neg (by rw [Ek _ h2]; simp),if_pos h2,xI,if_neg (by omega)]
theorem Lx.name {s:List UInt8} (h:cY s=true):Lx s [(1,s,0)]:=by
 obtain ⟨h1,h2,_,h4,h5⟩:=eX h
 exact Lx.word h1 h2 h4 h5
end Go.Sy.Ex
namespace Go.Sy.Ex
open Go.Sy
inductive T where
 | num (n:Int) | var (s:List UInt8) | arg | fV (s:List UInt8) | un (k:Int) (t:T) | bin (k:Int) (a b:T)
def T.kind:T→Int
 | .num _=>1 | .var _=>2 | .arg=>3 | .fV _=>4 | .un k _=>k | .bin k _ _=>k
def lvl (k:Int):Int:=if k=19 then 1 else if k=18 then 2 else if 12≤k∧k≤17 then 3 else if k=10∨k=11 then 4 else if 7≤k∧k≤9 then 5 else if k=5∨k=6 then 6 else 7
def dm (k:Int):Int:=if lvl k=3 then 4 else lvl k
def dJ (k:Int):Int:=if lvl k=3 then 4 else lvl k+1
abbrev iq:List (List UInt8×Int×Int):= [(fB,19,1),(fy,18,2),(mb,12,3),(fE,13,3),(l_,14,3),(fD,15,3),(fC,16,3),(fA,17,3),(me,10,4),(dV,11,4),(mh,7,5),(mg,8,5),(mc,9,5)]
def eU (k:Int):List UInt8:=match iq.find? (fun p=>p.2.1 == k) with
 | some p=>p.1
 | none=> []
def D8 (k:Int):List UInt8×Int:=match iq.find? (fun p=>p.2.1 == k) with
 | some p=>(p.1,p.2.2)
 | none=>([],0)
def cA (s:List UInt8):Int×Int:=match iq.find? (fun p=>p.1 == s) with
 | some p=>p.2
 | none=>(0,0)
theorem sign_eq (s:List UInt8):rS s=some (cA s):=by
 unfold rS cA iq
 by_cases rZ:s=fB
 · subst rZ; decide+kernel
 rw [if_neg rZ,List.find?_cons,show (fB == s)=false from beq_false_of_ne (Ne.symm rZ)]
 dsimp only
 by_cases rX:s=fy
 · subst rX; decide+kernel
 rw [if_neg rX,List.find?_cons,show (fy == s)=false from beq_false_of_ne (Ne.symm rX)]
 dsimp only
 by_cases sn:s=mb
 · subst sn; decide+kernel
 rw [if_neg sn,List.find?_cons,show (mb == s)=false from beq_false_of_ne (Ne.symm sn)]
 dsimp only
 by_cases sr:s=fE
 · subst sr; decide+kernel
 rw [if_neg sr,List.find?_cons,show (fE == s)=false from beq_false_of_ne (Ne.symm sr)]
 dsimp only
 by_cases si:s=l_
 · subst si; decide+kernel
 rw [if_neg si,List.find?_cons,show (l_ == s)=false from beq_false_of_ne (Ne.symm si)]
 dsimp only
 by_cases sj:s=fD
 · subst sj; decide+kernel
 rw [if_neg sj,List.find?_cons,show (fD == s)=false from beq_false_of_ne (Ne.symm sj)]
 dsimp only
 by_cases sg:s=fC
 · subst sg; decide+kernel
 rw [if_neg sg,List.find?_cons,show (fC == s)=false from beq_false_of_ne (Ne.symm sg)]
 dsimp only
 by_cases rY:s=fA
 · subst rY; decide+kernel
 rw [if_neg rY,List.find?_cons,show (fA == s)=false from beq_false_of_ne (Ne.symm rY)]
 dsimp only
 by_cases sx:s=me
 · subst sx; decide+kernel
 rw [if_neg sx,List.find?_cons,show (me == s)=false from beq_false_of_ne (Ne.symm sx)]
 dsimp only
 by_cases su:s=dV
 · subst su; decide+kernel
 rw [if_neg su,List.find?_cons,show (dV == s)=false from beq_false_of_ne (Ne.symm su)]
 dsimp only
 by_cases sA:s=mh
 · subst sA; decide+kernel
 rw [if_neg sA,List.find?_cons,show (mh == s)=false from beq_false_of_ne (Ne.symm sA)]
 dsimp only
 by_cases sy:s=mg
 · subst sy; decide+kernel
 rw [if_neg sy,List.find?_cons,show (mg == s)=false from beq_false_of_ne (Ne.symm sy)]
 dsimp only
 by_cases sw:s=mc
 · subst sw; decide+kernel
 rw [if_neg sw,List.find?_cons,show (mc == s)=false from beq_false_of_ne (Ne.symm sw)]
 dsimp only
 rfl
theorem QN (kind:Int): ∀ m n,n+m=13→ ∀ k,m+1≤k→uk k kind jD ((n:Nat):Int)=some (match (iq.drop n).find? (fun p=>p.2.1 == kind) with | some p=>(p.1,p.2.2) | none=>([],0)):=by
 intro m
 induction m with
 | zero=>
  intro n h k hk
  obtain ⟨k,rfl⟩: ∃ j,k=j+1:=⟨k - 1,by omega⟩
  obtain rfl:n=13:=by omega
  simp only [uk]
  rw [if_neg (by omega)]
  rfl
 | succ m ih=>
  intro n h k hk
  obtain ⟨k,rfl⟩: ∃ j,k=j+1:=⟨k - 1,by omega⟩
  have hlt:n<iq.length:=by show n<13; omega
  have e:ag ((n:Int)+1)=((n+1:Nat):Int):=by rw [bl (by omega) (by omega)]; omega
  have hrow: [fB,fy,mb,fE,l_,fD,fC,fA,me,dV,mh,mg,mc].getD n []=(iq[n]).1:=by
   have xh:n=0∨n=1∨n=2∨n=3∨n=4∨n=5∨n=6∨n=7∨n=8∨n=9∨n=10∨n=11∨n=12:=by omega
   rcases xh with rfl | rfl | rfl | rfl | rfl | rfl | rfl | rfl | rfl | rfl | rfl | rfl | rfl <;> rfl
  have Ub:cA (iq[n]).1=(iq[n]).2:=by
   have xh:n=0∨n=1∨n=2∨n=3∨n=4∨n=5∨n=6∨n=7∨n=8∨n=9∨n=10∨n=11∨n=12:=by omega
   rcases xh with rfl | rfl | rfl | rfl | rfl | rfl | rfl | rfl | rfl | rfl | rfl | rfl | rfl <;> rfl
  simp only [uk]
  rw [if_pos (by omega),if_pos (by omega),if_pos (by show (n:Int)<(13:Nat); omega),Int.toNat_natCast,e,ih (n+1) (by omega) k (by omega)]
  rw [show ([jD.1,jD.2.1,jD.2.2.1,jD.2.2.2.1,jD.2.2.2.2.1,jD.2.2.2.2.2.1,jD.2.2.2.2.2.2.1,jD.2.2.2.2.2.2.2.1,jD.2.2.2.2.2.2.2.2.1,jD.2.2.2.2.2.2.2.2.2.1,jD.2.2.2.2.2.2.2.2.2.2.1,jD.2.2.2.2.2.2.2.2.2.2.2.1,jD.2.2.2.2.2.2.2.2.2.2.2.2]:List (List UInt8))= [fB,fy,mb,fE,l_,fD,fC,fA,me,dV,mh,mg,mc] from rfl]
  rw [hrow,sign_eq,aa,Ub,List.drop_eq_getElem_cons hlt,List.find?_cons]
  by_cases hk2:(iq[n]).2.1=kind
  · rw [if_pos hk2]
    rw [show ((iq[n]).2.1 == kind)=true from by simpa using hk2]
  · rw [if_neg hk2]
    rw [show ((iq[n]).2.1 == kind)=false from by simpa using hk2]
theorem D5 (k:Int):rQ k=some (D8 k):=b6 14 fun j hj=>QN k 13 0 rfl j hj
theorem Sm (k:Int) (h:k<7∨19<k):iq.find? (fun p=>p.2.1 == k)=none:=by
 simp only [iq,List.find?_cons,List.find?_nil]
 rw [show ((19:Int) == k)=false from by simp; omega,show ((18:Int) == k)=false from by simp; omega,show ((12:Int) == k)=false from by simp; omega,show ((13:Int) == k)=false from by simp; omega,
  show ((14:Int) == k)=false from by simp; omega,show ((15:Int) == k)=false from by simp; omega,show ((16:Int) == k)=false from by simp; omega,show ((17:Int) == k)=false from by simp; omega,
  show ((10:Int) == k)=false from by simp; omega,show ((11:Int) == k)=false from by simp; omega,show ((7:Int) == k)=false from by simp; omega,show ((8:Int) == k)=false from by simp; omega,show ((9:Int) == k)=false from by simp; omega]
theorem nN {k:Int} (h1:7≤k) (h2:k≤19):D8 k=(eU k,lvl k)∧1≤lvl k∧lvl k≤5:=by
 have hk:k=7∨k=8∨k=9∨k=10∨k=11∨k=12∨k=13∨k=14∨k=15∨k=16∨k=17∨k=18∨k=19:=by omega
 rcases hk with rfl | rfl | rfl | rfl | rfl | rfl | rfl | rfl | rfl | rfl | rfl | rfl | rfl <;> decide
theorem VG {k:Int} (h:k<5∨19<k):lvl k=7:=by
 unfold lvl
 rw [if_neg (by omega),if_neg (by omega),if_neg (by omega),if_neg (by omega),if_neg (by omega),if_neg (by omega)]
theorem qz (k:Int):mM k=some (lvl k):=by
 unfold mM
 by_cases h5:k=5
 · subst h5; rfl
 · rw [if_neg h5]
   by_cases h6:k=6
   · subst h6; rfl
   · rw [if_neg h6,D5,aa]
     by_cases h:7≤k∧k≤19
     · obtain ⟨h1,h2,h3⟩:=nN h.1 h.2
       rw [h1,if_pos (by omega)]
     · unfold D8
       rw [Sm k (by omega)]
       rw [if_neg (by simp),VG (by omega)]
def eS (k:Int):List Int:=if lvl k=7 then [] else if lvl k=6 then [6] else [dm k,dJ k]
theorem F6 (k:Int):1≤lvl k∧lvl k≤7:=by
 unfold lvl
 repeat' split
 all_goals omega
theorem jl (k:Int):dZ k=some (eS k):=by
 unfold dZ eS
 have hr:=F6 k
 rw [qz,aa]
 by_cases h7:lvl k=7
 · rw [if_pos h7,if_pos h7]
 · rw [if_neg h7,if_neg h7]
   by_cases h6:lvl k=6
   · rw [if_pos h6,if_pos h6]
   · rw [if_neg h6,if_neg h6]
     unfold dm dJ
     by_cases h3:lvl k=3
     · rw [if_pos h3,if_pos h3,if_pos h3]
     · rw [if_neg h3,if_neg h3,if_neg h3,bl (by omega) (by omega)]
def Is:T→ai→Prop
 | .num n,e=>e.Kind=1∧e.N=n∧e.Name= []∧e.Kids= []
 | .var s,e=>e.Kind=2∧e.N=0∧e.Name=s∧e.Kids= []
 | .arg,e=>e.Kind=3∧e.N=0∧e.Name= []∧e.Kids= []
 | .fV s,e=>e.Kind=4∧e.N=0∧e.Name=s∧e.Kids= []
 | .un k t,e=>e.Kind=k∧e.N=0∧e.Name= []∧ ∃ x,e.Kids= [x]∧Is t x
 | .bin k a b,e=>e.Kind=k∧e.N=0∧e.Name= []∧ ∃ x y,e.Kids= [x,y]∧Is a x∧Is b y
theorem eta (e:ai):ai.mk e.Kind e.N e.Name e.Kids e.At=e:=by cases e; rfl
theorem Is.kind {t:T} {e:ai} (h:Is t e):e.Kind=t.kind:=by cases t <;> exact h.1
def T.ok:T→Prop
 | .num n=>0≤n∧n≤9223372036854775807
 | .var s=>cY s=true
 | .arg=>True
 | .fV s=>cY s=true
 | .un k t=>(k=5∨k=6)∧t.ok
 | .bin k a b=>(7≤k∧k≤19)∧a.ok∧b.ok
def par (c:Prop) [Decidable c] (s:List UInt8):List UInt8:=if c then 40::s++ [41] else s
def pr:T→Int→List UInt8
 | .num n,a=>par (7<a) (Lib.itoa n)
 | .var s,a=>par (7<a) s
 | .arg,a=>par (7<a) [36]
 | .fV s,a=>par (7<a) (ia++s++bD)
 | .un k t,a=>par (6<a) ((if k=5 then 45 else 33)::pr t 6)
 | .bin k x y,a=>par (lvl k<a) (pr x (dm k)++(aT++eU k++aT)++pr y (dJ k))
def T.sz:T→Nat
 | .un _ t=>t.sz+1
 | .bin _ a b=>a.sz+b.sz+1
 | _=>1
theorem jF {b:List UInt8} {c:Int} (h:b.length+1≤140737488355328) (h0:0≤c) (h1:c<256):eO b c=some (true,b++ [c.toNat.toUInt8]):=by
 unfold eO; rw [if_pos ⟨h,h0,h1⟩]
theorem fN {b s:List UInt8} (h:b.length+s.length≤140737488355328):cP b s=some ((s.length:Int),true,b++s):=by
 unfold cP; rw [if_pos h]
theorem zb (k:Int):(eU k).length≤2:=by
 unfold eU
 split
 · rename_i p hp
   have :=List.mem_of_find?_eq_some hp
   simp only [iq,List.mem_cons,List.not_mem_nil,or_false] at this
   rcases this with rfl | rfl | rfl | rfl | rfl | rfl | rfl | rfl | rfl | rfl | rfl | rfl | rfl <;> decide
 · exact Nat.zero_le _
theorem uW (c:Prop) [Decidable c] (s:List UInt8):s.length≤(par c s).length∧(par c s).length≤s.length+2:=by
 unfold par
 split <;> simp <;> omega
end Go.Sy.Ex
namespace Go.Sy.Ex
open Go.Sy
theorem pE {c:Prop} [Decidable c] (h:c) (s:List UInt8):par c s=40::s++ [41]:=if_pos h
theorem eD {c:Prop} [Decidable c] (h: ¬ c) (s:List UInt8):par c s=s:=if_neg h
theorem Gs {k:Int} (h:k=5∨k=6):eS k= [6]:=by rcases h with rfl | rfl <;> decide
theorem Ba {k:Int} (h:7≤k∧k≤19):eS k= [dm k,dJ k]:=by
 have :=(nN h.1 h.2).2
 unfold eS
 rw [if_neg (by omega),if_neg (by omega)]
theorem Kj {n:Int} (h0:0≤n) (h1:n≤9223372036854775807):qC n 10=some (Lib.itoa n):=by unfold qC; rw [if_pos ⟨rfl,by omega,h1⟩]
theorem LB {n:Int} (h0:0≤n) (h1:n≤9223372036854775807):(Lib.itoa n).length≤19:=by rw [uO h0]; exact Ru 18 _ (by omega)
theorem Dq (self:List UInt8→ai→Int→Option (List UInt8)) (k:Nat) (r:List UInt8) (K N:Int) (Nm:List UInt8) (Ks:List ai) (At:Int):jc self (k+1) r K N Nm Ks At [] ((([]:List Int).length:Nat):Int) 0=(some r):=by
 simp only [jc]
 rw [if_neg (by simp)]
theorem O1 (self:List UInt8→ai→Int→Option (List UInt8)) (k:Nat) (b r:List UInt8) (K N:Int) (Nm:List UInt8) (x:ai) (At:Int) (p:Int) (h:self b x p=some r):jc self (k+2) b K N Nm [x] At [p] ((([p]:List Int).length:Nat):Int) 0=(some r):=by
 rw [show (([p]:List Int).length:Int)=1 from rfl]
 simp only [jc]
 rw [if_pos (by omega),if_pos (by omega),if_pos (by simp),if_neg (by simp),if_neg (by omega),if_pos (by omega),if_pos (by simp)]
 rw [show [x].getD (0:Int).toNat ai.z=x from rfl,show [p].getD (0:Int).toNat 0=p from rfl,h,aa]
 rw [show ag (0+1)=1 from by decide,if_neg (by omega)]
theorem aaM (self:List UInt8→ai→Int→Option (List UInt8)) (k:Nat) (b r1 r:List UInt8) (K N:Int) (Nm:List UInt8) (x y:ai) (At:Int) (p q:Int) (hK:7≤K∧K≤19) (h:self b x p=some r1) (h2:self (r1++(aT++eU K++aT)) y q=some r) (hl:r1.length+(aT++eU K++aT).length≤140737488355328):jc self (k+3) b K N Nm [x,y] At [p,q] ((([p,q]:List Int).length:Nat):Int) 0=(some r):=by
 rw [show (([p,q]:List Int).length:Int)=2 from rfl]
 have ht:=zb K
 simp only [jc]
 rw [if_pos (by omega),if_pos (by omega),if_pos (by simp),if_neg (by simp),if_neg (by omega),if_pos (by omega),if_pos (by simp)]
 rw [show [x,y].getD (0:Int).toNat ai.z=x from rfl,show [p,q].getD (0:Int).toNat 0=p from rfl,h,aa]
 rw [show ag (0+1)=1 from by decide,if_pos (by omega),if_pos (by omega),if_pos (by simp),if_neg (by simp),if_pos (by omega),D5,aa,(nN hK.1 hK.2).1]
 dsimp only
 rw [if_pos (by simp; omega),if_pos (by simp; omega),fN hl,aa,if_pos (by omega),if_pos (by simp)]
 rw [show [x,y].getD (1:Int).toNat ai.z=y from rfl,show [p,q].getD (1:Int).toNat 0=q from rfl]
 dsimp only
 rw [h2,aa,show ag (1+1)=2 from by decide,if_neg (by omega)]
theorem w_0 (self:List UInt8→ai→Int→Option (List UInt8)) (k:Nat) (r:List UInt8) (K N:Int) (Nm:List UInt8) (Ks:List ai) (At:Int):jb self (k+1) r K N Nm Ks At [] ((([]:List Int).length:Nat):Int) 0=((eO r 41).bind fun q=>some q.2):=by
 simp only [jb]
 rw [if_neg (by simp)]
theorem w_1 (self:List UInt8→ai→Int→Option (List UInt8)) (k:Nat) (b r:List UInt8) (K N:Int) (Nm:List UInt8) (x:ai) (At:Int) (p:Int) (h:self b x p=some r):jb self (k+2) b K N Nm [x] At [p] ((([p]:List Int).length:Nat):Int) 0=((eO r 41).bind fun q=>some q.2):=by
 rw [show (([p]:List Int).length:Int)=1 from rfl]
 simp only [jb]
 rw [if_pos (by omega),if_pos (by omega),if_pos (by simp),if_neg (by simp),if_neg (by omega),if_pos (by omega),if_pos (by simp)]
 rw [show [x].getD (0:Int).toNat ai.z=x from rfl,show [p].getD (0:Int).toNat 0=p from rfl,h,aa]
 rw [show ag (0+1)=1 from by decide,if_neg (by omega)]
theorem w_2 (self:List UInt8→ai→Int→Option (List UInt8)) (k:Nat) (b r1 r:List UInt8) (K N:Int) (Nm:List UInt8) (x y:ai) (At:Int) (p q:Int) (hK:7≤K∧K≤19) (h:self b x p=some r1) (h2:self (r1++(aT++eU K++aT)) y q=some r) (hl:r1.length+(aT++eU K++aT).length≤140737488355328):jb self (k+3) b K N Nm [x,y] At [p,q] ((([p,q]:List Int).length:Nat):Int) 0=((eO r 41).bind fun q=>some q.2):=by
 rw [show (([p,q]:List Int).length:Int)=2 from rfl]
 have ht:=zb K
 simp only [jb]
 rw [if_pos (by omega),if_pos (by omega),if_pos (by simp),if_neg (by simp),if_neg (by omega),if_pos (by omega),if_pos (by simp)]
 rw [show [x,y].getD (0:Int).toNat ai.z=x from rfl,show [p,q].getD (0:Int).toNat 0=p from rfl,h,aa]
 rw [show ag (0+1)=1 from by decide,if_pos (by omega),if_pos (by omega),if_pos (by simp),if_neg (by simp),if_pos (by omega),D5,aa,(nN hK.1 hK.2).1]
 dsimp only
 rw [if_pos (by simp; omega),if_pos (by simp; omega),fN hl,aa,if_pos (by omega),if_pos (by simp)]
 rw [show [x,y].getD (1:Int).toNat ai.z=y from rfl,show [p,q].getD (1:Int).toNat 0=q from rfl]
 dsimp only
 rw [h2,aa,show ag (1+1)=2 from by decide,if_neg (by omega)]
theorem rO {r:List UInt8} (h:r.length+1≤140737488355328):((eO r 41).bind fun q=>some q.2)=some (r++ [41]):=by
 rw [jF h (by omega) (by omega),aa]; rfl
theorem aaT: ∀ (t:T) (e:ai) (b:List UInt8) (a:Int),Is t e→t.ok→(b++pr t a).length≤140737488355328→ ∀ k,t.sz+3≤k→lE k b e a=some (b++pr t a):=by
 intro t
 induction t with
 | num n=>
  intro e b a h hok hl k hk
  obtain ⟨k,rfl⟩: ∃ j,k=j+2:=⟨k - 2,by have :1≤T.sz (.num n):=Nat.le_refl _; omega⟩
  obtain ⟨h1,h2,h3,h4⟩:=h
  have hlv:lvl 1=7:=by decide
  have hpl:eS 1= []:=by decide
  show kj (lE (k+1)) (k+1) b e a=_
  unfold kj
  rw [h1,qz,aa,hlv]
  unfold pr at hl ⊢
  by_cases ha:7<a
  · rw [pE ha] at hl ⊢
    rw [if_pos ha]
    simp only [List.length_append,List.length_cons,List.length_nil] at hl
    rw [jF (by omega) (by omega) (by omega),aa]
    dsimp only
    rw [if_pos rfl,h2,Kj hok.1 hok.2,aa,fN (by simp only [List.length_append,List.length_cons,List.length_nil]; omega),aa]
    dsimp only
    rw [jl,aa,hpl,w_0,rO (by simp only [List.length_append,List.length_cons,List.length_nil]; omega)]
    simp [List.append_assoc]
  · rw [eD ha] at hl ⊢
    rw [if_neg ha]
    simp only [List.length_append,List.length_cons,List.length_nil] at hl
    rw [if_pos rfl,h2,Kj hok.1 hok.2,aa,fN (by omega),aa]
    dsimp only
    rw [jl,aa,hpl,Dq]
 | var s=>
  intro e b a h hok hl k hk
  obtain ⟨k,rfl⟩: ∃ j,k=j+2:=⟨k - 2,by have :1≤T.sz (.var s):=Nat.le_refl _; omega⟩
  obtain ⟨h1,h2,h3,h4⟩:=h
  have hlv:lvl 2=7:=by decide
  have hpl:eS 2= []:=by decide
  show kj (lE (k+1)) (k+1) b e a=_
  unfold kj
  rw [h1,qz,aa,hlv]
  unfold pr at hl ⊢
  by_cases ha:7<a
  · rw [pE ha] at hl ⊢
    rw [if_pos ha]
    simp only [List.length_append,List.length_cons,List.length_nil] at hl
    rw [jF (by omega) (by omega) (by omega),aa]
    dsimp only
    rw [if_neg (by decide),if_neg (by decide),if_pos rfl,h3,fN (by simp only [List.length_append,List.length_cons,List.length_nil]; omega),aa]
    dsimp only
    rw [jl,aa,hpl,w_0,rO (by simp only [List.length_append,List.length_cons,List.length_nil]; omega)]
    simp [List.append_assoc]
  · rw [eD ha] at hl ⊢
    rw [if_neg ha]
    simp only [List.length_append,List.length_cons,List.length_nil] at hl
    rw [if_neg (by decide),if_neg (by decide),if_pos rfl,h3,fN (by omega),aa]
    dsimp only
    rw [jl,aa,hpl,Dq]
 | arg=>
  intro e b a h hok hl k hk
  obtain ⟨k,rfl⟩: ∃ j,k=j+2:=⟨k - 2,by have :1≤T.sz (.arg):=Nat.le_refl _; omega⟩
  obtain ⟨h1,h2,h3,h4⟩:=h
  have hlv:lvl 3=7:=by decide
  have hpl:eS 3= []:=by decide
  show kj (lE (k+1)) (k+1) b e a=_
  unfold kj
  rw [h1,qz,aa,hlv]
  unfold pr at hl ⊢
  by_cases ha:7<a
  · rw [pE ha] at hl ⊢
    rw [if_pos ha]
    simp only [List.length_append,List.length_cons,List.length_nil] at hl
    rw [jF (by omega) (by omega) (by omega),aa]
    dsimp only
    rw [if_neg (by decide),if_pos rfl,jF (by simp only [List.length_append,List.length_cons,List.length_nil]; omega) (by omega) (by omega),aa]
    dsimp only
    rw [jl,aa,hpl,w_0,rO (by simp only [List.length_append,List.length_cons,List.length_nil]; omega)]
    simp [List.append_assoc]
  · rw [eD ha] at hl ⊢
    rw [if_neg ha]
    simp only [List.length_append,List.length_cons,List.length_nil] at hl
    rw [if_neg (by decide),if_pos rfl,jF (by omega) (by omega) (by omega),aa]
    dsimp only
    rw [jl,aa,hpl,Dq]
    rfl
 | fV s=>
  intro e b a h hok hl k hk
  obtain ⟨k,rfl⟩: ∃ j,k=j+2:=⟨k - 2,by have :1≤T.sz (.fV s):=Nat.le_refl _; omega⟩
  obtain ⟨h1,h2,h3,h4⟩:=h
  have hlv:lvl 4=7:=by decide
  have hpl:eS 4= []:=by decide
  show kj (lE (k+1)) (k+1) b e a=_
  unfold kj
  rw [h1,qz,aa,hlv]
  unfold pr at hl ⊢
  have abd:=(eX hok).2.1
  by_cases ha:7<a
  · rw [pE ha] at hl ⊢
    rw [if_pos ha]
    simp only [List.length_append,List.length_cons,List.length_nil] at hl
    rw [jF (by omega) (by omega) (by omega),aa]
    dsimp only
    rw [if_neg (by decide),if_neg (by decide),if_neg (by decide),if_pos rfl,h3,if_pos (by simp only [ia,List.length_cons,List.length_nil]; omega),if_pos (by simp only [ia,bD,List.length_append,List.length_cons,List.length_nil]; omega),fN (by simp only [ia,bD,List.length_append,List.length_cons,List.length_nil] at hl ⊢; omega),aa]
    dsimp only
    rw [jl,aa,hpl,w_0,rO (by simp only [ia,bD,List.length_append,List.length_cons,List.length_nil] at hl ⊢; omega)]
    simp [List.append_assoc]
  · rw [eD ha] at hl ⊢
    rw [if_neg ha]
    simp only [List.length_append,List.length_cons,List.length_nil] at hl
    rw [if_neg (by decide),if_neg (by decide),if_neg (by decide),if_pos rfl,h3,if_pos (by simp only [ia,List.length_cons,List.length_nil]; omega),if_pos (by simp only [ia,bD,List.length_append,List.length_cons,List.length_nil]; omega),fN (by simp only [ia,bD,List.length_append,List.length_cons,List.length_nil] at hl ⊢; omega),aa]
    dsimp only
    rw [jl,aa,hpl,Dq]
 | un k0 t ih=>
  intro e b a h hok hl k hk
  obtain ⟨k,rfl⟩: ∃ j,k=j+3:=⟨k - 3,by omega⟩
  obtain ⟨h1,h2,h3,x,h4,hx⟩:=h
  show kj (lE (k+2)) (k+2) b e a=_
  unfold kj
  rw [h1,qz,aa]
  unfold pr at hl ⊢
  obtain ⟨sF,abb⟩:=id hok
  rcases sF with h5 | h5
  · subst h5
    have hlv:lvl 5=6:=by decide
    have hpl:eS 5= [6]:=by decide
    rw [hlv]
    by_cases ha:6<a
    · rw [pE ha] at hl ⊢
      rw [if_pos ha]
      simp only [List.length_append,List.length_cons,List.length_nil] at hl
      have hsub:=ih x ((b++ [(40:Int).toNat.toUInt8])++ [(45:Int).toNat.toUInt8]) 6 hx hok.2 (by simp only [List.length_append,List.length_cons,List.length_nil]; omega) (k+2) (by simp only [T.sz] at hk; omega)
      rw [jF (by omega) (by omega) (by omega),aa]
      dsimp only
      rw [if_neg (by decide),if_neg (by decide),if_neg (by decide),if_neg (by decide),if_pos rfl,jF (by simp only [List.length_append,List.length_cons,List.length_nil]; omega) (by omega) (by omega),aa]
      dsimp only
      rw [jl,aa,hpl,h4,w_1 _ _ _ _ _ _ _ _ _ _ hsub,rO (by simp only [List.length_append,List.length_cons,List.length_nil]; omega)]
      simp [List.append_assoc]
    · rw [eD ha] at hl ⊢
      rw [if_neg ha]
      simp only [List.length_append,List.length_cons,List.length_nil] at hl
      have hsub:=ih x (b++ [(45:Int).toNat.toUInt8]) 6 hx hok.2 (by simp only [List.length_append,List.length_cons,List.length_nil]; omega) (k+2) (by simp only [T.sz] at hk; omega)
      rw [if_neg (by decide),if_neg (by decide),if_neg (by decide),if_neg (by decide),if_pos rfl,jF (by omega) (by omega) (by omega),aa]
      dsimp only
      rw [jl,aa,hpl,h4,O1 _ _ _ _ _ _ _ _ _ _ hsub]
      simp [List.append_assoc]
  · subst h5
    have hlv:lvl 6=6:=by decide
    have hpl:eS 6= [6]:=by decide
    rw [hlv]
    by_cases ha:6<a
    · rw [pE ha] at hl ⊢
      rw [if_pos ha]
      simp only [List.length_append,List.length_cons,List.length_nil] at hl
      have hsub:=ih x ((b++ [(40:Int).toNat.toUInt8])++ [(33:Int).toNat.toUInt8]) 6 hx hok.2 (by simp only [List.length_append,List.length_cons,List.length_nil]; omega) (k+2) (by simp only [T.sz] at hk; omega)
      rw [jF (by omega) (by omega) (by omega),aa]
      dsimp only
      rw [if_neg (by decide),if_neg (by decide),if_neg (by decide),if_neg (by decide),if_neg (by decide),if_pos rfl,jF (by simp only [List.length_append,List.length_cons,List.length_nil]; omega) (by omega) (by omega),aa]
      dsimp only
      rw [jl,aa,hpl,h4,w_1 _ _ _ _ _ _ _ _ _ _ hsub,rO (by simp only [List.length_append,List.length_cons,List.length_nil]; omega)]
      simp [List.append_assoc]
    · rw [eD ha] at hl ⊢
      rw [if_neg ha]
      simp only [List.length_append,List.length_cons,List.length_nil] at hl
      have hsub:=ih x (b++ [(33:Int).toNat.toUInt8]) 6 hx hok.2 (by simp only [List.length_append,List.length_cons,List.length_nil]; omega) (k+2) (by simp only [T.sz] at hk; omega)
      rw [if_neg (by decide),if_neg (by decide),if_neg (by decide),if_neg (by decide),if_neg (by decide),if_pos rfl,jF (by omega) (by omega) (by omega),aa]
      dsimp only
      rw [jl,aa,hpl,h4,O1 _ _ _ _ _ _ _ _ _ _ hsub]
      simp [List.append_assoc]
 | bin k0 x0 y0 nY nZ=>
  intro e b a h hok hl k hk
  obtain ⟨k,rfl⟩: ∃ j,k=j+4:=⟨k - 4,by simp only [T.sz] at hk; omega⟩
  obtain ⟨h1,h2,h3,x,y,h4,hx,hy⟩:=h
  obtain ⟨sF,Ld,Le⟩:=id hok
  have hpl:=Ba sF
  show kj (lE (k+3)) (k+3) b e a=_
  unfold kj
  rw [h1,qz,aa]
  unfold pr at hl ⊢
  have hsp:aT.length=1:=rfl
  have abg:1≤x0.sz:=by cases x0 <;> simp [T.sz]
  have abh:1≤y0.sz:=by cases y0 <;> simp [T.sz]
  by_cases ha:lvl k0<a
  · rw [pE ha] at hl ⊢
    rw [if_pos ha]
    simp only [List.length_append,List.length_cons,List.length_nil] at hl
    have ht:=zb k0
    have sJ:=nY x (b++ [(40:Int).toNat.toUInt8]) (dm k0) hx Ld (by simp only [List.length_append,List.length_cons,List.length_nil]; omega) (k+3) (by simp only [T.sz] at hk; omega)
    have sK:=nZ y (((b++ [(40:Int).toNat.toUInt8])++pr x0 (dm k0))++(aT++eU k0++aT)) (dJ k0) hy Le (by simp only [List.length_append,List.length_cons,List.length_nil]; omega) (k+3) (by simp only [T.sz] at hk; omega)
    rw [jF (by omega) (by omega) (by omega),aa]
    dsimp only
    rw [if_neg (by omega),if_neg (by omega),if_neg (by omega),if_neg (by omega),if_neg (by omega),if_neg (by omega),jl,aa,hpl,h4,w_2 _ _ _ _ _ _ _ _ _ _ _ _ _ sF sJ sK (by simp only [List.length_append,List.length_cons,List.length_nil]; omega),rO (by simp only [List.length_append,List.length_cons,List.length_nil]; omega)]
    simp [List.append_assoc]
  · rw [eD ha] at hl ⊢
    rw [if_neg ha]
    simp only [List.length_append,List.length_cons,List.length_nil] at hl
    have ht:=zb k0
    have sJ:=nY x b (dm k0) hx Ld (by simp only [List.length_append,List.length_cons,List.length_nil]; omega) (k+3) (by simp only [T.sz] at hk; omega)
    have sK:=nZ y ((b++pr x0 (dm k0))++(aT++eU k0++aT)) (dJ k0) hy Le (by simp only [List.length_append,List.length_cons,List.length_nil]; omega) (k+3) (by simp only [T.sz] at hk; omega)
    rw [if_neg (by omega),if_neg (by omega),if_neg (by omega),if_neg (by omega),if_neg (by omega),if_neg (by omega),jl,aa,hpl,h4,aaM _ _ _ _ _ _ _ _ _ _ _ _ _ sF sJ sK (by simp only [List.length_append,List.length_cons,List.length_nil]; omega)]
    simp [List.append_assoc]
theorem WE {t:T} {e:ai} (h:Is t e) (hok:t.ok) (hl:(pr t 1).length≤140737488355328):w4 e=some (pr t 1):=by
 unfold w4 Ab
 have :b_ (fun k (x:List UInt8×ai×Int)=>lE k x.1 x.2.1 x.2.2) ([],ai.mk e.Kind e.N e.Name e.Kids e.At,1)=some (pr t 1):=
  b6 (t.sz+3) fun k hk=>by
   have :=aaT t (ai.mk e.Kind e.N e.Name e.Kids e.At) [] 1 (by cases t <;> exact h) hok (by simpa using hl) k hk
   rw [List.nil_append] at this
   exact this
 rw [this,aa]
 rfl
end Go.Sy.Ex
namespace Go.Sy.Ex
open Go.Sy
def st (l:List ak) (i o:Nat):aK:=⟨⟨l,(i:Int),⟨0,0⟩⟩,(o:Int)⟩
def aj (l:List ak) (i:Nat):ak:=l.getD i ak.z
def aS (t:ak) (s:List UInt8):Bool:=decide ((t.Kind=3∨t.Kind=1)∧t.Text=s)
section
variable {l:List ak} {i o:Nat}
theorem uT:oA (st l i o)=some (true,st l i o):=rfl
theorem jj (hi:i<l.length):iO (st l i o)=some (aj l i,st l i o):=by
 unfold iO
 rw [uT,aa]
 have h1: ¬ ((i:Nat):Int)<0:=by omega
 have h2: ¬ (l.length:Int)≤((i:Nat):Int):=by omega
 have h3:0≤((i:Nat):Int):=by omega
 have h4:((i:Nat):Int)<(l.length:Int):=by omega
 simp only [Bool.not_true,cond_false,st,Int.toNat_natCast,h1,h2,h3,h4,if_true,if_false]; rfl
theorem xR (hi:i<l.length) (s:List UInt8):kW (st l i o) s=some (aS (aj l i) s,st l i o):=by
 unfold kW aS
 rw [jj hi,aa]
 dsimp only
 by_cases h3:(aj l i).Kind=3
 · rw [if_pos h3]; congr 2; rw [decide_eq_decide]; simp [h3]
 · rw [if_neg h3]
   by_cases h1:(aj l i).Kind=1
   · rw [if_pos h1]; congr 2; rw [decide_eq_decide]; simp [h1]
   · rw [if_neg h1]
     congr 2
     symm
     rw [decide_eq_false_iff_not]
     rintro ⟨h | h,_⟩ <;> contradiction
theorem dS (hi:i<l.length) (hl:l.length≤100000):ag (((i:Nat):Int)+1)=((i+1:Nat):Int):=by rw [bl (by omega) (by omega)]; omega
theorem y_ (hi:i<l.length) (hl:l.length≤100000) (s:List UInt8):nh (st l i o) s=some (aS (aj l i) s,if aS (aj l i) s=true then st l (i+1) o else st l i o):=by
 unfold nh
 rw [xR hi,aa]
 dsimp only
 cases h:aS (aj l i) s with
 | true=>
  rw [cond_true,if_pos rfl]
  show some (true,(⟨⟨l,ag (((i:Nat):Int)+1),⟨0,0⟩⟩,(o:Int)⟩:aK))=_
  rw [dS hi hl]; rfl
 | false=>rw [cond_false,if_neg (by simp)]
theorem tL (hi:i<l.length) (hl:l.length≤100000) {s:List UInt8} (h:aS (aj l i) s=true):jP (st l i o) s=some (st l (i+1) o):=by
 unfold jP
 rw [y_ hi hl,aa,h]; rfl
theorem uN (hi:i<l.length):pG (st l i o)=some (decide ((aj l i).Kind=1)&& !ep (aj l i).Text,st l i o):=by
 unfold pG
 rw [jj hi,aa]
 dsimp only
 by_cases h1:(aj l i).Kind=1
 · rw [if_pos h1,F5,aa,decide_eq_true h1]; rfl
 · rw [if_neg h1,decide_eq_false h1]; rfl
theorem A6 (hi:i<l.length) (hl:l.length≤100000) (h1:(aj l i).Kind=1) (h2:ep (aj l i).Text=false):ng (st l i o)=some ((aj l i).Text,st l (i+1) o):=by
 unfold ng
 rw [uN hi,aa]
 dsimp only
 rw [decide_eq_true h1,h2]
 show (if 0≤ag (ag (((i:Nat):Int)+1) - 1) then if ag (ag (((i:Nat):Int)+1) - 1)<(l.length:Int) then some ((l.getD (ag (ag (((i:Nat):Int)+1) - 1)).toNat ak.z).Text,(⟨⟨l,ag (((i:Nat):Int)+1),⟨0,0⟩⟩,(o:Int)⟩:aK)) else none else none)=_
 rw [dS hi hl,show ag (((i+1:Nat):Int) - 1)=((i:Nat):Int) from by rw [bl (by omega) (by omega)]; omega,if_pos (by omega),if_pos (by omega),Int.toNat_natCast]
 rfl
theorem qj (hi:i<l.length) (hl:l.length≤100000) (ho:o<12) (a:Int):ki (st l i o) a=some (true,st l (i+1) (o+1)):=by
 unfold ki
 show (if ((o:Nat):Int)=12 then _ else some (true,(⟨⟨l,ag (((i:Nat):Int)+1),⟨0,0⟩⟩,ag (((o:Nat):Int)+1)⟩:aK)))=_
 rw [if_neg (by omega),dS hi hl,show ag (((o:Nat):Int)+1)=((o+1:Nat):Int) from by rw [bl (by omega) (by omega)]; omega]
 rfl
end
def Seq (l:List ak) (i:Nat):List Tk→Prop
 | []=>True
 | k::K=>i<l.length∧strip (aj l i)=k∧Seq l (i+1) K
theorem Seq.append {l:List ak} : ∀ {i:Nat} {K K':List Tk},Seq l i (K++K')↔Seq l i K∧Seq l (i+K.length) K'
 | i,[],K'=>by simp [Seq]
 | i,k::K,K'=>by
  rw [List.cons_append]
  simp only [Seq,List.length_cons]
  rw [Seq.append,show i+1+K.length=i+(K.length+1) from by omega]
  constructor
  · rintro ⟨a,b,c,d⟩; exact ⟨⟨a,b,c⟩,d⟩
  · rintro ⟨⟨a,b,c⟩,d⟩; exact ⟨a,b,c,d⟩
def oh (c:Prop) [Decidable c] (K:List Tk):List Tk:=if c then (3,bM,0)::K++ [(3,bD,0)] else K
def toks:T→Int→List Tk
 | .num n,a=>oh (7<a) [(2,Lib.itoa n,n)]
 | .var s,a=>oh (7<a) [(1,s,0)]
 | .arg,a=>oh (7<a) [(3,kI,0)]
 | .fV s,a=>oh (7<a) [(1,iR,0),(3,bM,0),(1,s,0),(3,bD,0)]
 | .un k t,a=>oh (6<a) ((3,if k=5 then dV else jr,0)::toks t 6)
 | .bin k x y,a=>oh (lvl k<a) (toks x (dm k)++(3,eU k,0)::toks y (dJ k))
def qH (c:Prop) [Decidable c] (n:Nat):Nat:=if c then n+1 else n
def bC:T→Int→Nat
 | .un k t,a=>qH (6<a) (bC t 6+1)
 | .bin k x y,a=>qH (lvl k<a) (max (bC x (dm k)) (bC y (dJ k)))
 | _,a=>qH (7<a) 0
def jW (t:ak):Int:=if t.Kind=3 then (cA t.Text).2 else 0
def P (t:T) (K:List Tk) (n:Nat) (m:Int):Prop:= ∀ (l:List ak) (i o:Nat),l.length≤100000→Seq l i K→i+K.length<l.length→o+n≤12→jW (aj l (i+K.length))<m→
 ∃ e Z,Is t e∧ ∀ k,Z≤k→d_ k (st l i o) m=some (e,st l (i+K.length) o)
def Sg (t:T) (K:List Tk) (n:Nat):Prop:= ∀ (l:List ak) (i o:Nat),l.length≤100000→Seq l i K→i+K.length<l.length→o+n≤12→
 ∃ e Z Z2,Is t e∧ ∀ k,Z≤k→ ∀ k2,Z2≤k2→ja (d_ k) k2 (st l i o)=some (e,st l (i+K.length) o)
noncomputable def loop (k k':Nat) (l:List ak) (i o:Nat) (m:Int) (e:ai):Option (ai×aK):=
 nQ (d_ k) k' l ((i:Nat):Int) 0 0 ((o:Nat):Int) m 0 0 [] [] 0 e.Kind e.N e.Name e.Kids e.At
def Qp (t:T) (K:List Tk) (n:Nat) (m:Int):Prop:= ∀ (l:List ak) (i o:Nat),l.length≤100000→Seq l i K→i+K.length<l.length→o+n≤12→jW (aj l (i+K.length))≤m→
 ∃ e Z j,Is t e∧j<Z∧ ∀ k,Z≤k→d_ (k+1) (st l i o) m=loop k (k - j) l (i+K.length) o m e
theorem A_ (k:Nat) (l:List ak) (i o:Nat) {m:Int} (hm:1≤m) (fe:m≤5) {e:ai} {i':Nat} (h:d_ k (st l i o) (m+1)=some (e,st l i' o)):
 d_ (k+1) (st l i o) m=loop k k l i' o m e:=by
 show qk (d_ k) k (st l i o) m=_
 unfold qk
 rw [if_neg (by omega),bl (by omega) (by omega),h,aa]
 rfl
theorem L5 (k k':Nat) (l:List ak) (i o:Nat) {m:Int} (hm:1≤m) (hi:i<l.length) (hs:jW (aj l i)≠m) (e:ai) (hk:1≤k'):loop k k' l i o m e=some (e,st l i o):=by
 obtain ⟨k',rfl⟩: ∃ j,k'=j+1:=⟨k' - 1,by omega⟩
 unfold loop
 simp only [nQ]
 rw [show (aK.mk (bg.mk l ((i:Nat):Int) (aL.mk 0 0)) ((o:Nat):Int))=st l i o from rfl,jj hi,aa,sign_eq,aa,eta]
 dsimp only
 unfold jW at hs
 by_cases h3:(aj l i).Kind=3
 · rw [if_pos h3] at hs
   rw [if_neg (by simpa using h3),if_pos hs]
 · rw [if_pos h3]
theorem L6 (k k':Nat) (l:List ak) (hl:l.length≤100000) (i o:Nat) {m:Int} (hm:1≤m) (fe:m≤5) (hi:i<l.length) {kd:Int} {tx:List UInt8} (ht:strip (aj l i)=(3,tx,0)) (hg:cA tx=(kd,m)) (e:ai) {y:ai} {i':Nat}
 (hy:d_ k (st l (i+1) o) (m+1)=some (y,st l i' o)):
 loop k (k'+1) l i o m e=if m=3 then some (ai.mk kd 0 [] [e,y] (aj l i).At,st l i' o) else loop k k' l i' o m (ai.mk kd 0 [] [e,y] (aj l i).At):=by
 unfold loop
 simp only [nQ]
 rw [show (aK.mk (bg.mk l ((i:Nat):Int) (aL.mk 0 0)) ((o:Nat):Int))=st l i o from rfl,jj hi,aa,sign_eq,aa,eta]
 dsimp only
 unfold strip at ht
 simp only [Prod.mk.injEq] at ht
 rw [ht.2.1,hg]
 dsimp only
 rw [if_neg (by simp [ht.1]),if_neg (by simp)]
 rw [show (aK.mk (bg.mk (st l i o).Row.L (ag ((st l i o).Row.At+1)) (st l i o).Row.bk) (st l i o).aR)=st l (i+1) o from by
  show (⟨⟨l,ag (((i:Nat):Int)+1),⟨0,0⟩⟩,(o:Int)⟩:aK)=_
  rw [dS hi hl]; rfl]
 rw [bl (by omega) (by omega),hy,aa]
 simp only [eta]
 rfl
theorem jK {l:List ak} {i:Nat} {k:Int} {s:List UInt8} {n:Int} (h:strip (aj l i)=(k,s,n)) (hk:k=3∨k=1):aS (aj l i) s=true:=by
 unfold strip at h
 simp only [Prod.mk.injEq] at h
 unfold aS
 rw [decide_eq_true_eq,h.1,h.2.1]
 exact ⟨hk,rfl⟩
theorem lN {l:List ak} {i:Nat} {k:Int} {s s':List UInt8} {n:Int} (h:strip (aj l i)=(k,s,n)) (hne:(k≠3∧k≠1)∨s≠s'):aS (aj l i) s'=false:=by
 unfold strip at h
 simp only [Prod.mk.injEq] at h
 unfold aS
 rw [decide_eq_false_iff_not,h.1,h.2.1]
 rintro ⟨h1,h2⟩
 rcases hne with hne | hne
 · rcases h1 with h1 | h1
   · exact hne.1 h1
   · exact hne.2 h1
 · exact hne h2
end Go.Sy.Ex
namespace Go.Sy.Ex
open Go.Sy
theorem Gn (k:Nat) (s:aK):d_ (k+1) s 6=(rR (d_ k) s).bind fun r1=>some (ai.mk r1.1.Kind r1.1.N r1.1.Name r1.1.Kids r1.1.At,r1.2):=by
 show qk (d_ k) k s 6=_
 unfold qk
 rw [if_pos rfl]
theorem P6 {t:T} {K:List Tk} {n:Nat} (h:Sg t K n):P t K n 6:=fun l i o hl hs hi ho _=>by
 obtain ⟨e,Z,Z2,he,hr⟩:=h l i o hl hs hi ho
 refine ⟨e,Z+1,he,fun k hk=> ?_⟩
 obtain ⟨k,rfl⟩: ∃ j,k=j+1:=⟨k - 1,by omega⟩
 rw [Gn,show rR (d_ k) (st l i o)=some (e,st l (i+K.length) o) from b6 Z2 fun j hj=>hr k (by omega) j hj,aa,eta]
theorem II {t:T} {K:List Tk} {n:Nat} {m:Int} (h1:1≤m) (h:Qp t K n m):P t K n m:=fun l i o hl hs hi ho hv=>by
 obtain ⟨e,Z,j,he,hj,hr⟩:=h l i o hl hs hi ho (by omega)
 refine ⟨e,Z+1,he,fun k hk=> ?_⟩
 obtain ⟨k,rfl⟩: ∃ j,k=j+1:=⟨k - 1,by omega⟩
 rw [hr k (by omega)]
 exact L5 k _ l _ o h1 hi (by omega) e (by omega)
theorem Dw {t:T} {K:List Tk} {n:Nat} {m:Int} (h1:1≤m) (h5:m≤5) (h:P t K n (m+1)):Qp t K n m:=fun l i o hl hs hi ho hv=>by
 obtain ⟨e,Z,he,hr⟩:=h l i o hl hs hi ho (by omega)
 exact ⟨e,Z+1,0,he,by omega,fun k hk=>by rw [A_ k l i o h1 h5 (hr k (by omega)),Nat.sub_zero]⟩
theorem IG {t:T} {K:List Tk} {n:Nat} {m:Int} (h1:1≤m) (h5:m≤5) (h:P t K n (m+1)):P t K n m:=II h1 (Dw h1 h5 h)
theorem pz {c:Prop} [Decidable c] (h: ¬ c) (K:List Tk):oh c K=K:=if_neg h
theorem Wn {c:Prop} [Decidable c] (h:c) (K:List Tk):oh c K=(3,bM,0)::K++ [(3,bD,0)]:=if_pos h
theorem jL {c:Prop} [Decidable c] (h: ¬ c) (n:Nat):qH c n=n:=if_neg h
theorem Wm {c:Prop} [Decidable c] (h:c) (n:Nat):qH c n=n+1:=if_pos h
theorem vS {t:ak} {tx:List UInt8} (h:strip t=(3,tx,0)):jW t=(cA tx).2:=by
 unfold strip at h
 simp only [Prod.mk.injEq] at h
 unfold jW
 rw [if_pos h.1,h.2.1]
theorem C_ {k:Int} (h:7≤k∧k≤19):cA (eU k)=(k,lvl k):=by
 have hk:k=7∨k=8∨k=9∨k=10∨k=11∨k=12∨k=13∨k=14∨k=15∨k=16∨k=17∨k=18∨k=19:=by omega
 rcases hk with rfl | rfl | rfl | rfl | rfl | rfl | rfl | rfl | rfl | rfl | rfl | rfl | rfl <;> decide
theorem Pm {k:Int} {x y:T} {Kx Ky:List Tk} {nx ny:Nat} (hk:7≤k∧k≤19) (h3:lvl k≠3) (hx:Qp x Kx nx (lvl k)) (hy:P y Ky ny (lvl k+1)):Qp (.bin k x y) (Kx++(3,eU k,0)::Ky) (max nx ny) (lvl k):=fun l i o hl hs hi ho hv=>by
 have hr:=(nN hk.1 hk.2).2
 simp only [List.length_append,List.length_cons] at hi hv ⊢
 obtain ⟨sJ,xo,hop,sK⟩:=Seq.append.1 hs
 obtain ⟨e,Z,j,he,hj,xD⟩:=hx l i o hl sJ xo (by omega) (by rw [vS hop,C_ hk]; exact Int.le_refl _)
 have hlen:i+Kx.length+1+Ky.length=i+(Kx.length+(Ky.length+1)):=by omega
 obtain ⟨f,Z',hf,hr2⟩:=hy l (i+Kx.length+1) o hl sK (by omega) (by omega) (by rw [hlen]; omega)
 refine ⟨ai.mk k 0 [] [e,f] (aj l (i+Kx.length)).At,max Z Z'+2,j+1,⟨rfl,rfl,rfl,e,f,rfl,he,hf⟩,by omega,fun q hq=> ?_⟩
 rw [xD q (by omega),show q - j=(q - (j+1))+1 from by omega]
 rw [L6 q _ l hl _ o hr.1 hr.2 xo hop (C_ hk) e (hr2 q (by omega)),if_neg h3,hlen]
theorem QT {k:Int} {x y:T} {Kx Ky:List Tk} {nx ny:Nat} (hk:7≤k∧k≤19) (h3:lvl k=3) (hx:P x Kx nx 4) (hy:P y Ky ny 4) (l:List ak) (i o:Nat) (hl:l.length≤100000) (hs:Seq l i (Kx++(3,eU k,0)::Ky)) (hi:i+(Kx++(3,eU k,0)::Ky).length<l.length) (ho:o+max nx ny≤12) (hv:jW (aj l (i+(Kx++(3,eU k,0)::Ky).length))<4):
 ∃ e Z,Is (.bin k x y) e∧ ∀ q,Z≤q→d_ q (st l i o) 3=some (e,st l (i+(Kx++(3,eU k,0)::Ky).length) o):=by
 simp only [List.length_append,List.length_cons] at hi hv ⊢
 obtain ⟨sJ,xo,hop,sK⟩:=Seq.append.1 hs
 obtain ⟨e,Z,he,xD⟩:=hx l i o hl sJ xo (by omega) (by rw [vS hop,C_ hk,h3]; show (3:Int)<4; decide)
 have hlen:i+Kx.length+1+Ky.length=i+(Kx.length+(Ky.length+1)):=by omega
 obtain ⟨f,Z',hf,hr2⟩:=hy l (i+Kx.length+1) o hl sK (by omega) (by omega) (by rw [hlen]; omega)
 refine ⟨ai.mk k 0 [] [e,f] (aj l (i+Kx.length)).At,max Z Z'+2,⟨rfl,rfl,rfl,e,f,rfl,he,hf⟩,fun q hq=> ?_⟩
 obtain ⟨q,rfl⟩: ∃ j,q=j+2:=⟨q - 2,by omega⟩
 rw [A_ (q+1) l i o (by decide) (by decide) (xD (q+1) (by omega))]
 rw [L6 (q+1) q l hl _ o (by decide) (by decide) xo hop (by rw [C_ hk,h3]) e (hr2 (q+1) (by omega)),if_pos rfl,hlen]
theorem Pk {k:Int} {x y:T} {Kx Ky:List Tk} {nx ny:Nat} (hk:7≤k∧k≤19) (h3:lvl k=3) (hx:P x Kx nx 4) (hy:P y Ky ny 4):P (.bin k x y) (Kx++(3,eU k,0)::Ky) (max nx ny) 3:=fun l i o hl hs hi ho hv=>QT hk h3 hx hy l i o hl hs hi ho (by omega)
theorem uM {l:List ak} {i o:Nat} (hi:i<l.length) {k:Int} {s:List UInt8} {n:Int} (h:strip (aj l i)=(k,s,n)) (s':List UInt8) (b:Bool) (hb:b=decide ((k=3∨k=1)∧s=s')):kW (st l i o) s'=some (b,st l i o):=by
 rw [xR hi]
 unfold strip at h
 simp only [Prod.mk.injEq] at h
 unfold aS
 rw [h.1,h.2.1,hb]
theorem vX {l:List ak} {i o:Nat} (hi:i<l.length) (hl:l.length≤100000) {k:Int} {s:List UInt8} {n:Int} (h:strip (aj l i)=(k,s,n)) (s':List UInt8) (b:Bool) (hb:b=decide ((k=3∨k=1)∧s=s')):nh (st l i o) s'=some (b,if b=true then st l (i+1) o else st l i o):=by
 rw [y_ hi hl]
 unfold strip at h
 simp only [Prod.mk.injEq] at h
 unfold aS
 rw [h.1,h.2.1,hb]
theorem yZ {self:aK→Int→Option (ai×aK)} {l:List ak} {i o:Nat} (hi:i<l.length) {k:Int} {s:List UInt8} {n:Int} (h:strip (aj l i)=(k,s,n)) (h1:decide ((k=3∨k=1)∧s=dV)=false) (h2:decide ((k=3∨k=1)∧s=jr)=false) (k2:Nat) {e:ai} {st':aK} (hp:iD self (st l i o)=some (e,st')):
 ja self (k2+1) (st l i o)=some (e,st'):=by
 show ql (ja self k2) self k2 (st l i o)=_
 unfold ql
 rw [jj hi,aa]
 dsimp only
 rw [uM hi h dV false h1.symm,aa]
 dsimp only [cond_false]
 rw [uM hi h jr false h2.symm,aa]
 dsimp only [cond_false]
 rw [hp,aa,eta]
theorem gy {t:ak} {k:Int} {s:List UInt8} {n:Int} (h:strip t=(k,s,n)):t.Kind=k∧t.Text=s∧t.N=n:=by
 unfold strip at h
 simpa only [Prod.mk.injEq] using h
theorem Pw {n:Int} :Sg (.num n) [(2,Lib.itoa n,n)] 0:=fun l i o hl hs hi ho=>by
 obtain ⟨h1,h2, -⟩:=hs
 refine ⟨ai.mk 1 n [] [] (aj l i).At,0,1,⟨rfl,rfl,rfl,rfl⟩,fun k _ k2 hk2=> ?_⟩
 obtain ⟨k2,rfl⟩: ∃ j,k2=j+1:=⟨k2 - 1,by omega⟩
 refine yZ h1 h2 (by rw [decide_eq_false_iff_not]; rintro ⟨h | h,_⟩ <;> cases h) (by rw [decide_eq_false_iff_not]; rintro ⟨h | h,_⟩ <;> cases h) k2 ?_
 unfold iD
 rw [jj h1,aa]
 dsimp only
 rw [if_pos (gy h2).1,(gy h2).2.2]
 show some (_,(⟨⟨l,ag (((i:Nat):Int)+1),⟨0,0⟩⟩,(o:Int)⟩:aK))=_
 rw [dS h1 hl]; rfl
theorem F_ {s:List UInt8} (h:cY s=true) {c:UInt8} (hc:lt c=false) (u:List UInt8):s≠c::u:=fun e=>by
 have :=(eX h).2.2.2.1
 rw [e] at this
 rw [List.getD_cons_zero] at this
 rw [hc] at this; cases this
theorem Pz {s:List UInt8} (h:cY s=true):Sg (.var s) [(1,s,0)] 0:=fun l i o hl hs hi ho=>by
 obtain ⟨h1,h2, -⟩:=hs
 refine ⟨ai.mk 2 0 s [] (aj l i).At,0,1,⟨rfl,rfl,rfl,rfl⟩,fun k _ k2 hk2=> ?_⟩
 obtain ⟨k2,rfl⟩: ∃ j,k2=j+1:=⟨k2 - 1,by omega⟩
 refine yZ h1 h2 (by rw [decide_eq_false_iff_not]; rintro ⟨_,h'⟩; exact F_ h (by decide) _ h') (by rw [decide_eq_false_iff_not]; rintro ⟨_,h'⟩; exact F_ h (by decide) _ h') k2 ?_
 unfold iD
 rw [jj h1,aa]
 dsimp only
 rw [if_neg (by rw [(gy h2).1]; decide)]
 rw [vX h1 hl h2 kI false (by symm; rw [decide_eq_false_iff_not]; rintro ⟨_,h'⟩; exact F_ h (by decide) _ h'),aa]
 dsimp only [cond_false]
 rw [if_neg (by decide),uN h1,aa]
 dsimp only
 rw [(gy h2).1,(gy h2).2.1,(eX h).2.2.1]
 simp only [decide_true,Bool.not_false,Bool.and_true,cond_true]
 rw [A6 h1 hl (gy h2).1 (by rw [(gy h2).2.1]; exact (eX h).2.2.1),aa,(gy h2).2.1]
 rfl
theorem Pu:Sg .arg [(3,kI,0)] 0:=fun l i o hl hs hi ho=>by
 obtain ⟨h1,h2, -⟩:=hs
 refine ⟨ai.mk 3 0 [] [] (aj l i).At,0,1,⟨rfl,rfl,rfl,rfl⟩,fun k _ k2 hk2=> ?_⟩
 obtain ⟨k2,rfl⟩: ∃ j,k2=j+1:=⟨k2 - 1,by omega⟩
 refine yZ h1 h2 (by decide) (by decide) k2 ?_
 unfold iD
 rw [jj h1,aa]
 dsimp only
 rw [if_neg (by rw [(gy h2).1]; decide)]
 rw [vX h1 hl h2 kI true (by decide),aa]
 rfl
theorem Pv {s:List UInt8} (h:cY s=true):Sg (.fV s) [(1,iR,0),(3,bM,0),(1,s,0),(3,bD,0)] 0:=fun l i o hl hs hi ho=>by
 obtain ⟨h1,h2,h3,h4,h5,h6,h7,h8, -⟩:=hs
 refine ⟨ai.mk 4 0 s [] (aj l i).At,0,1,⟨rfl,rfl,rfl,rfl⟩,fun k _ k2 hk2=> ?_⟩
 obtain ⟨k2,rfl⟩: ∃ j,k2=j+1:=⟨k2 - 1,by omega⟩
 refine yZ h1 h2 (by decide) (by decide) k2 ?_
 unfold iD
 rw [jj h1,aa]
 dsimp only
 rw [if_neg (by rw [(gy h2).1]; decide)]
 rw [vX h1 hl h2 kI false (by decide),aa]
 dsimp only [cond_false]
 rw [if_neg (by decide),uN h1,aa]
 dsimp only
 rw [(gy h2).2.1,show (!ep iR)=false from by decide]
 simp only [Bool.and_false,cond_false]
 rw [vX h1 hl h2 iR true (by decide),aa]
 dsimp only [cond_true]
 rw [if_pos rfl,tL h3 hl (jK h4 (Or.inl rfl)),aa]
 rw [A6 h5 hl (gy h6).1 (by rw [(gy h6).2.1]; exact (eX h).2.2.1),aa,(gy h6).2.1]
 dsimp only
 rw [tL h7 hl (jK h8 (Or.inl rfl)),aa]
 rfl
theorem Px {t:T} {K:List Tk} {n:Nat} (h:P t K n 1):Sg t ((3,bM,0)::K++ [(3,bD,0)]) (n+1):=fun l i o hl hs hi ho=>by
 simp only [List.length_append,List.length_cons,List.length_nil] at hi ⊢
 obtain ⟨⟨h1,h2,h3⟩,hr⟩:=Seq.append.1 hs
 obtain ⟨h4,h5, -⟩:=hr
 simp only [List.length_cons] at h4 h5
 have hlen:i+1+K.length=i+(K.length+1):=by omega
 obtain ⟨e,Z,he,hp⟩:=h l (i+1) (o+1) hl h3 (by omega) (by omega) (by rw [hlen,vS h5]; decide)
 refine ⟨e,Z,1,he,fun k hk k2 hk2=> ?_⟩
 obtain ⟨k2,rfl⟩: ∃ j,k2=j+1:=⟨k2 - 1,by omega⟩
 refine yZ h1 h2 (by decide) (by decide) k2 ?_
 unfold iD
 rw [jj h1,aa]
 dsimp only
 rw [if_neg (by rw [(gy h2).1]; decide)]
 rw [vX h1 hl h2 kI false (by decide),aa]
 dsimp only [cond_false]
 rw [if_neg (by decide),uN h1,aa]
 dsimp only
 rw [show decide ((aj l i).Kind=1)=false from by rw [(gy h2).1]; decide]
 simp only [Bool.false_and,cond_false]
 rw [vX h1 hl h2 iR false (by decide),aa]
 dsimp only [cond_false]
 rw [if_neg (by decide),uM h1 h2 bM true (by decide),aa]
 dsimp only [Bool.not_true,cond_false]
 rw [qj h1 hl (by omega),aa]
 dsimp only [Bool.not_true,cond_false]
 rw [hp k hk,aa]
 dsimp only
 rw [hlen,tL h4 hl (jK h5 (Or.inl rfl)),aa,eta]
 show some (e,(⟨⟨l,((i+(K.length+1)+1:Nat):Int),⟨0,0⟩⟩,ag (((o+1:Nat):Int) - 1)⟩:aK))=_
 rw [show ag (((o+1:Nat):Int) - 1)=(o:Int) from by rw [bl (by omega) (by omega)]; omega]
 rfl
theorem Py {k:Int} {t:T} {K:List Tk} {n:Nat} (hk:k=5∨k=6) (h:Sg t K n):Sg (.un k t) ((3,if k=5 then dV else jr,0)::K) (n+1):=fun l i o hl hs hi ho=>by
 simp only [List.length_cons] at hi ⊢
 obtain ⟨h1,h2,h3⟩:=hs
 have hlen:i+1+K.length=i+(K.length+1):=by omega
 obtain ⟨e,Z,Z2,he,hr⟩:=h l (i+1) (o+1) hl h3 (by omega) (by omega)
 refine ⟨ai.mk k 0 [] [e] (aj l i).At,Z,Z2+1,⟨rfl,rfl,rfl,e,rfl,he⟩,fun q hq k2 hk2=> ?_⟩
 obtain ⟨k2,rfl⟩: ∃ j,k2=j+1:=⟨k2 - 1,by omega⟩
 show ql (ja (d_ q) k2) (d_ q) k2 (st l i o)=_
 unfold ql
 rw [jj h1,aa]
 dsimp only
 have hw:ag (((o+1:Nat):Int) - 1)=(o:Int):=by rw [bl (by omega) (by omega)]; omega
 rcases hk with rfl | rfl
 · rw [if_pos rfl] at h2
   rw [uM h1 h2 dV true (by decide),aa]
   dsimp only [cond_true]
   rw [qj h1 hl (by omega),aa]
   dsimp only [Bool.not_true,cond_false]
   rw [hr q hq k2 (by omega),aa,eta,hlen]
   show some (_,(⟨⟨l,((i+(K.length+1):Nat):Int),⟨0,0⟩⟩,ag (((o+1:Nat):Int) - 1)⟩:aK))=_
   rw [hw]; rfl
 · rw [if_neg (by decide)] at h2
   rw [uM h1 h2 dV false (by decide),aa]
   dsimp only [cond_false]
   rw [uM h1 h2 jr true (by decide),aa]
   dsimp only [cond_true]
   rw [qj h1 hl (by omega),aa]
   dsimp only [Bool.not_true,cond_false]
   rw [hr q hq k2 (by omega),aa,eta,hlen]
   show some (_,(⟨⟨l,((i+(K.length+1):Nat):Int),⟨0,0⟩⟩,ag (((o+1:Nat):Int) - 1)⟩:aK))=_
   rw [hw]; rfl
def oO (t:T):Prop:=Sg t (toks t 6) (bC t 6)∧(∀ m:Int,1≤m→m≤6→P t (toks t m) (bC t m) m)∧ ∀ m:Int,1≤m→m≤5→m≠3→Qp t (toks t m) (bC t m) m
theorem down {t:T} {K:List Tk} {n:Nat} (h6:P t K n 6): ∀ (j:Nat) (m:Int),m=6 - (j:Int)→1≤m→P t K n m
 | 0, m, hm, _ => by have : m = 6 := by omega
                     subst this; exact h6
 | j+1,m,hm,hl=>IG (by omega) (by omega) (down h6 j (m+1) (by omega) (by omega))
theorem El {t:T} {K:List Tk} {n:Nat} {a:Int} (ha:a≤6) (h6:P t K n a): ∀ (j:Nat) (m:Int),m=a - (j:Int)→1≤m→P t K n m
 | 0, m, hm, _ => by have : m = a := by omega
                     subst this; exact h6
 | j+1,m,hm,hl=>IG (by omega) (by omega) (El ha h6 j (m+1) (by omega) (by omega))
theorem Sg.at {t:T} {K:List Tk} {n:Nat} (h:Sg t K n) (m:Int) (h1:1≤m) (h6:m≤6):P t K n m:=down (P6 h) (6 - m).toNat m (by omega) h1
theorem wj {t:T} {K:List Tk} {n:Nat} (hS:Sg t K n) (hs: ∀ m:Int,1≤m→m≤6→toks t m=K∧bC t m=n):oO t:=by
 have hP: ∀ m:Int,1≤m→m≤6→P t (toks t m) (bC t m) m:=fun m h1 h6=>by rw [(hs m h1 h6).1,(hs m h1 h6).2]; exact hS.at m h1 h6
 refine ⟨?_,hP,fun m h1 h5 _=> ?_⟩
 · rw [(hs 6 (by decide) (by decide)).1,(hs 6 (by decide) (by decide)).2]; exact hS
 · rw [(hs m h1 (by omega)).1,(hs m h1 (by omega)).2]
   exact Dw h1 h5 (hS.at (m+1) (by omega) (by omega))
theorem Pa {k:Int} {x y:T} (hk:7≤k∧k≤19) (hx:oO x) (hy:oO y):oO (.bin k x y):=by
 have hr:=(nN hk.1 hk.2).2
 have hb:toks x (dm k)++(3,eU k,0)::toks y (dJ k)=toks (.bin k x y) 1∧max (bC x (dm k)) (bC y (dJ k))=bC (.bin k x y) 1:=by
  simp only [toks,bC]; rw [pz (by omega),jL (by omega)]; exact ⟨rfl,rfl⟩
 have hlo: ∀ m:Int,m≤lvl k→toks (.bin k x y) m=toks (.bin k x y) 1∧bC (.bin k x y) m=bC (.bin k x y) 1:=fun m hm=>by
  simp only [toks,bC]; rw [pz (by omega),pz (by omega),jL (by omega),jL (by omega)]; exact ⟨rfl,rfl⟩
 have hhi: ∀ m:Int,lvl k<m→toks (.bin k x y) m=(3,bM,0)::toks (.bin k x y) 1++ [(3,bD,0)]∧bC (.bin k x y) m=bC (.bin k x y) 1+1:=fun m hm=>by
  simp only [toks,bC]; rw [Wn (by omega),pz (by omega),Wm (by omega),jL (by omega)]; exact ⟨rfl,rfl⟩
 have hQ:lvl k≠3→Qp (.bin k x y) (toks (.bin k x y) 1) (bC (.bin k x y) 1) (lvl k):=fun h3=>by
  have hlf:dm k=lvl k:=by unfold dm; rw [if_neg h3]
  have uG:dJ k=lvl k+1:=by unfold dJ; rw [if_neg h3]
  rw [← hb.1, ← hb.2,hlf,uG]
  exact Pm hk h3 (hx.2.2 (lvl k) hr.1 hr.2 h3) (hy.2.1 (lvl k+1) (by omega) (by omega))
 have hP:P (.bin k x y) (toks (.bin k x y) 1) (bC (.bin k x y) 1) (lvl k):=by
  by_cases h3:lvl k=3
  · have hlf:dm k=4:=by unfold dm; rw [if_pos h3]
    have uG:dJ k=4:=by unfold dJ; rw [if_pos h3]
    rw [← hb.1, ← hb.2,hlf,uG,h3]
    exact Pk hk h3 (hx.2.1 4 (by decide) (by decide)) (hy.2.1 4 (by decide) (by decide))
  · exact II hr.1 (hQ h3)
 have hS:Sg (.bin k x y) (toks (.bin k x y) 6) (bC (.bin k x y) 6):=by
  rw [(hhi 6 (by omega)).1,(hhi 6 (by omega)).2]
  exact Px (El (by omega) hP (lvl k - 1).toNat 1 (by omega) (by decide))
 have KA: ∀ m:Int,1≤m→m≤6→P (.bin k x y) (toks (.bin k x y) m) (bC (.bin k x y) m) m:=fun m h1 h6=>by
  by_cases h:m≤lvl k
  · rw [(hlo m h).1,(hlo m h).2]
    exact El (by omega) hP (lvl k - m).toNat m (by omega) h1
  · rw [(hhi m (by omega)).1,(hhi m (by omega)).2, ← (hhi 6 (by omega)).1, ← (hhi 6 (by omega)).2]
    exact hS.at m h1 h6
 refine ⟨hS,KA,fun m h1 h5 h3=> ?_⟩
 by_cases h:m=lvl k
 · subst h
   rw [(hlo _ (Int.le_refl _)).1,(hlo _ (Int.le_refl _)).2]
   exact hQ h3
 · have e:toks (.bin k x y) m=toks (.bin k x y) (m+1)∧bC (.bin k x y) m=bC (.bin k x y) (m+1):=by
    by_cases hm:m<lvl k
    · rw [(hlo m (by omega)).1,(hlo m (by omega)).2,(hlo (m+1) (by omega)).1,(hlo (m+1) (by omega)).2]; exact ⟨rfl,rfl⟩
    · rw [(hhi m (by omega)).1,(hhi m (by omega)).2,(hhi (m+1) (by omega)).1,(hhi (m+1) (by omega)).2]; exact ⟨rfl,rfl⟩
   rw [e.1,e.2]
   exact Dw h1 h5 (KA (m+1) (by omega) (by omega))
theorem zA: ∀ t:T,t.ok→oO t
 | .num n,h=>wj Pw fun m h1 h6=>by simp only [toks,bC]; rw [pz (by omega),jL (by omega)]; exact ⟨rfl,rfl⟩
 | .var s,h=>wj (Pz h) fun m h1 h6=>by simp only [toks,bC]; rw [pz (by omega),jL (by omega)]; exact ⟨rfl,rfl⟩
 | .arg,h=>wj Pu fun m h1 h6=>by simp only [toks,bC]; rw [pz (by omega),jL (by omega)]; exact ⟨rfl,rfl⟩
 | .fV s,h=>wj (Pv h) fun m h1 h6=>by simp only [toks,bC]; rw [pz (by omega),jL (by omega)]; exact ⟨rfl,rfl⟩
 | .un k t,h=>wj (Py h.1 (zA t h.2).1) fun m h1 h6=>by simp only [toks,bC]; rw [pz (by omega),jL (by omega)]; exact ⟨rfl,rfl⟩
 | .bin k x y,h=>Pa h.1 (zA x h.2.1) (zA y h.2.2)
theorem Qo {t:T} (h:t.ok):P t (toks t 1) (bC t 1) 1:=(zA t h).2.1 1 (by decide) (by decide)
end Go.Sy.Ex
namespace Go.Sy.Ex
open Go.Sy
def h2 (y:UInt8):Bool:= !decide (y=61∨y=62∨y=38∨y=124)
def h1 (x:UInt8):Bool:= !decide (x=45∨x=61∨x=33∨x=60∨x=62∨x=38∨x=124)
theorem Wl (x y:UInt8) (h:h2 y=true): [x,y] ∉ iL:=by
 unfold h2 at h
 simp only [Bool.not_eq_true',decide_eq_false_iff_not,not_or] at h
 simp [iL,h]
theorem Wk (x y:UInt8) (h:h1 x=true): [x,y] ∉ iL:=by
 unfold h1 at h
 simp only [Bool.not_eq_true',decide_eq_false_iff_not,not_or] at h
 simp [iL,h]
theorem Zj {a b:List UInt8} (h: ∀ y,b.head?=some y→nm y=false∧h2 y=true):lu a b=true:=by
 unfold lu
 split
 · rename_i x y hx hy
   obtain ⟨e1,e2⟩:=h y hy
   rw [e1,Bool.and_false,decide_eq_false (Wl x y e2)]; rfl
 · rfl
theorem Zi {a b:List UInt8} (h: ∀ x,a.getLast?=some x→nm x=false∧h1 x=true):lu a b=true:=by
 unfold lu
 split
 · rename_i x y hx hy
   obtain ⟨e1,e2⟩:=h x hx
   rw [e1,Bool.false_and,decide_eq_false (Wk x y e2)]; rfl
 · rfl
theorem Lx.par {c:Prop} [Decidable c] {s:List UInt8} {K:List Tk} (h:Lx s K):Lx (Ex.par c s) (oh c K):=by
 unfold Ex.par oh
 split
 · refine Lx.append (a:=40::s) (Lx.append (a:= [40]) (b:=s) (Ka:= [(3,bM,0)]) (uR 2 (by decide)) h (Zi fun x hx=>by cases hx; decide)) (Kb:= [(3,bD,0)]) (uR 2 (by decide)) (Zj fun x hx=>by cases hx; decide)
 · exact h
theorem Lx.eU {k:Int} (h:7≤k∧k≤19):Lx (aT++eU k++aT) [(3,Ex.eU k,0)]:=by
 have hk:k=7∨k=8∨k=9∨k=10∨k=11∨k=12∨k=13∨k=14∨k=15∨k=16∨k=17∨k=18∨k=19:=by omega
 rcases hk with rfl | rfl | rfl | rfl | rfl | rfl | rfl | rfl | rfl | rfl | rfl | rfl | rfl <;> exact uR 3 (by decide)
theorem H8: ∀ {l:List ak} {K R:List Tk} {i:Nat},(l.drop i).map strip=K++R→Seq l i K
 | l,[],R,i,_=>trivial
 | l,k::K,R,i,h=>by
  have hi:i<l.length:=by
   by_cases hc:i<l.length
   · exact hc
   · rw [List.drop_eq_nil_of_le (by omega)] at h; cases h
  rw [List.drop_eq_getElem_cons hi,List.map_cons,List.cons_append] at h
  injection h with h1 h2
  exact ⟨hi,by unfold aj; rw [List.getD_eq_getElem?_getD,List.getElem?_eq_getElem hi]; exact h1,H8 h2⟩
end Go.Sy.Ex
namespace Go.Sy.Ex
open Go.Sy
theorem LU (c:Int):vo c=some (kR c):=by
 have fin: ∀ a:Bool,((a=true)↔((97≤c∧c≤122)∨(65≤c∧c≤90)∨c=95))→some a=some (kR c):=by
  intro a ha
  have e1:a=kR c:=by rw [Bool.eq_iff_iff,ha]; simp [kR]
  rw [e1]
 unfold vo
 repeat' split
 all_goals
  refine fin _ ?_
  first
   | (simp only [decide_eq_true_eq]; omega)
   | exact ⟨fun _=>by omega,fun _=>rfl⟩
theorem Ej (c:Int):td c=some (isDigit c):=by
 unfold td isDigit
 by_cases h:48≤c
 · rw [if_pos h]; simp [h]
 · rw [if_neg h]; simp [h]
theorem YS (s:List UInt8): ∀ m n,n+m=35→ ∀ k,m+1≤k→vn k s Ja ((n:Nat):Int)=some (decide (s ∈ oL.drop n)):=by
 intro m
 induction m with
 | zero=>
  intro n h k hk
  obtain ⟨k,rfl⟩: ∃ j,k=j+1:=⟨k - 1,by omega⟩
  obtain rfl:n=35:=by omega
  simp only [vn]
  rw [if_neg (by omega)]
  rfl
 | succ m ih=>
  intro n h k hk
  obtain ⟨k,rfl⟩: ∃ j,k=j+1:=⟨k - 1,by omega⟩
  have hlt:n<oL.length:=by rw [aaN]; omega
  have e:ag ((n:Int)+1)=((n+1:Nat):Int):=by rw [bl (by omega) (by omega)]; omega
  have hlen:(n:Int)<(oL.length:Int):=by omega
  simp only [vn]
  rw [if_pos (by omega),if_pos (by omega),if_pos hlen,e,ih (n+1) (by omega) k (by omega),List.drop_eq_getElem_cons hlt]
  by_cases hx:oL.getD (((n:Nat):Int).toNat) []=s
  · rw [if_pos hx]
    rw [Int.toNat_natCast,cF _ hlt] at hx
    rw [hx]
    simp
  · rw [if_neg hx]
    rw [Int.toNat_natCast,cF _ hlt] at hx
    congr 1
    rw [decide_eq_decide,List.mem_cons]
    exact ⟨.inr,fun q=>q.elim (fun q=>absurd q.symm hx) id⟩
theorem YR (s:List UInt8):Cg s=some (ep s):=b6 36 fun k hk=>YS s 35 0 rfl k hk
end Go.Sy.Ex
namespace Go.Sy.Ex
open Go.Sy
def Fw:Nat→ai→Prop
 | 0,_=>False
 | n+1,e=>(e.Kids.length≤n+2∧e.Kids.length≤10000000000000)∧e.Name.length≤199999999999999∧(-9223372036854775808≤e.N∧e.N≤9223372036854775807)∧ ∀ x ∈ e.Kids,Fw n x
def nu (e:ai):Bool:=decide ((1≤e.Kind∧e.Kind≤19)∧e.Kids.length=(eS e.Kind).length∧((e.Kind=2∨e.Kind=4)↔e.Name≠ [])∧((e.Kind=2∨e.Kind=4)→cY e.Name=true)∧(e.N=0∨(e.Kind=1∧0<e.N)))
theorem Zm {e:ai} (hn:e.Name.length≤199999999999999):z_ e=some (nu e):=b6 2 fun k hk=>by
 obtain ⟨k,rfl⟩: ∃ j,k=j+2:=⟨k - 2,by omega⟩
 have xl:w7 (k+1) e.Kind e.N e.Name e.Kids e.At=some (decide (e.N=0∨(e.Kind=1∧0<e.N))):=by
  simp only [w7]
  by_cases h0:e.N=0
  · rw [if_pos h0,decide_eq_true (Or.inl h0)]
  · rw [if_neg h0]
    by_cases h1:e.Kind=1
    · rw [if_pos h1]; congr 1; rw [decide_eq_decide]; simp [h0,h1]
    · rw [if_neg h1]; congr 1; symm; rw [decide_eq_false_iff_not]; simp [h0,h1]
 have hc0: ∀ named:Bool,uo (k+2) e.Kind e.N e.Name e.Kids e.At named=some (decide (((named=true)↔e.Name≠ [])∧((named=true)→cY e.Name=true)∧(e.N=0∨(e.Kind=1∧0<e.N)))):=fun named=>by
  simp only [uo]
  cases named with
  | false=>
   by_cases hN:e.Name= []
   · rw [if_neg (by simp [hN]),cond_false,xl]; congr 1; rw [decide_eq_decide]; simp [hN]
   · rw [if_pos (by simp [hN])]; congr 1; symm; rw [decide_eq_false_iff_not]; simp [hN]
  | true=>
   by_cases hN:e.Name= []
   · rw [if_pos (by simp [hN])]; congr 1; symm; rw [decide_eq_false_iff_not]; simp [hN]
   · rw [if_neg (by simp [hN]),cond_true,F3 _ (by omega),aa]
     cases hP:cY e.Name with
     | false=>simp
     | true=>
      rw [Bool.not_true,cond_false,xl]; congr 1; rw [decide_eq_decide]; simp [hN]
 have key: ∀ named:Bool,((named=true)↔(e.Kind=2∨e.Kind=4))→(if e.Kind<1 then
  some false else
  if 19<e.Kind then
  some false else
  (dZ e.Kind).bind fun r1=>
  if (e.Kids.length:Int)≠(r1.length:Int) then
  some false else
  uo (k+2) e.Kind e.N e.Name e.Kids e.At named)=some (nu e):=fun named hnm=>by
  unfold nu
  by_cases h1:e.Kind<1
  · rw [if_pos h1,decide_eq_false (fun q=>by omega)]
  · rw [if_neg h1]
    by_cases h19:19<e.Kind
    · rw [if_pos h19,decide_eq_false (fun q=>by omega)]
    · rw [if_neg h19,jl,aa]
      by_cases hl:e.Kids.length=(eS e.Kind).length
      · rw [if_neg (by omega),hc0]; congr 1; rw [decide_eq_decide,hnm]
        exact ⟨fun q=>⟨by omega,hl,q⟩,fun q=>q.2.2⟩
      · rw [if_pos (by omega),decide_eq_false (fun q=>hl q.2.1)]
 show Aa (k+2) e=_
 unfold Aa
 by_cases h2:e.Kind=2
 · rw [if_pos h2]
   exact key true (by simp [h2])
 · rw [if_neg h2]
   exact key (decide (e.Kind=4)) (by simp [h2])
def Tr (e:ai):Prop:= ∃ t,Is t e∧t.ok
theorem Is.nu {t:T} {e:ai} (h:Is t e) (hok:t.ok):nu e=true:=by
 unfold Ex.nu
 rw [decide_eq_true_eq]
 cases t with
 | num n=>
  obtain ⟨h1,h2,h3,h4⟩:=h
  obtain ⟨h5,h6⟩:=hok
  rw [h1,h2,h3,h4]
  exact ⟨by decide,by decide,by decide,by decide,by omega⟩
 | var s=>
  obtain ⟨h1,h2,h3,h4⟩:=h
  rw [h1,h2,h3,h4]
  exact ⟨by decide,by decide,by simp [(eX hok).1],fun _=>hok,by omega⟩
 | arg=>
  obtain ⟨h1,h2,h3,h4⟩:=h
  rw [h1,h2,h3,h4]
  exact ⟨by decide,by decide,by decide,by decide,by omega⟩
 | fV s=>
  obtain ⟨h1,h2,h3,h4⟩:=h
  rw [h1,h2,h3,h4]
  exact ⟨by decide,by decide,by simp [(eX hok).1],fun _=>hok,by omega⟩
 | un k t=>
  obtain ⟨h1,h2,h3,x,h4,_⟩:=h
  obtain ⟨hk,_⟩:=hok
  rw [h1,h2,h3,h4,Gs hk]
  exact ⟨by omega,rfl,⟨fun q=>by omega,fun q=>absurd rfl q⟩,fun q=>by omega, .inl rfl⟩
 | bin k a b=>
  obtain ⟨h1,h2,h3,x,y,h4,_⟩:=h
  obtain ⟨hk,_⟩:=hok
  rw [h1,h2,h3,h4,Ba hk]
  exact ⟨by omega,rfl,⟨fun q=>by omega,fun q=>absurd rfl q⟩,fun q=>by omega, .inl rfl⟩
def inr:T→Nat
 | .un k t=>bC t 6
 | .bin k x y=>max (bC x (dm k)) (bC y (dJ k))
 | _=>0
theorem A7 {t:T} (h:t.ok) {a:Int} (ha:a≤7):bC t a=inr t+(if lvl t.kind<a then 1 else 0)+(if lvl t.kind=6 then 1 else 0):=by
 cases t with
 | num n=>
  have hk:lvl (T.num n).kind=7:=by show lvl 1=7; decide
  simp only [bC,inr]; rw [jL (by omega),if_neg (c:=lvl _<a) (by omega),if_neg (c:=lvl _=6) (by omega)]
 | var s=>
  have hk:lvl (T.var s).kind=7:=by show lvl 2=7; decide
  simp only [bC,inr]; rw [jL (by omega),if_neg (c:=lvl _<a) (by omega),if_neg (c:=lvl _=6) (by omega)]
 | arg=>
  have hk:lvl T.arg.kind=7:=by show lvl 3=7; decide
  simp only [bC,inr]; rw [jL (by omega),if_neg (c:=lvl _<a) (by omega),if_neg (c:=lvl _=6) (by omega)]
 | fV s=>
  have hk:lvl (T.fV s).kind=7:=by show lvl 4=7; decide
  simp only [bC,inr]; rw [jL (by omega),if_neg (c:=lvl _<a) (by omega),if_neg (c:=lvl _=6) (by omega)]
 | un k t=>
  have hk:lvl (T.un k t).kind=6:=by show lvl k=6; rcases h.1 with rfl | rfl <;> decide
  simp only [bC,inr]; rw [if_pos (c:=lvl _=6) hk]; unfold qH; split <;> split <;> omega
 | bin k x y=>
  have :=(nN h.1.1 h.1.2).2
  have hk:lvl (T.bin k x y).kind=lvl k:=rfl
  simp only [bC,inr]; rw [if_neg (c:=lvl (T.bin k x y).kind=6) (by omega)]; unfold qH; split <;> split <;> omega
theorem inside {e:ai} (hs:nu e=true) (hN:e.N≤9223372036854775807) (o:Int):(∃ t,Is t e∧t.ok∧o+inr t≤12)↔(o≤12∧ ∀ p ∈ e.Kids.zip (eS e.Kind), ∃ t,Is t p.1∧t.ok∧o+bC t p.2≤12):=by
 have hs':=hs
 unfold nu at hs'
 rw [decide_eq_true_eq] at hs'
 obtain ⟨hk,hl,sG,hn2,hN0⟩:=hs'
 constructor
 · rintro ⟨t,ht,hok,hle⟩
   refine ⟨by omega,fun p hp=> ?_⟩
   have aa6:=ht.kind
   cases t with
   | num n=>rw [ht.2.2.2] at hp; cases hp
   | var n=>rw [ht.2.2.2] at hp; cases hp
   | arg=>rw [ht.2.2.2] at hp; cases hp
   | fV n=>rw [ht.2.2.2] at hp; cases hp
   | un k t=>
    obtain ⟨h1,h2,h3,x,h4,h5⟩:=ht
    rw [h4,h1,Gs hok.1] at hp
    simp only [List.zip_cons_cons,List.zip_nil_right,List.mem_singleton] at hp
    subst hp
    exact ⟨t,h5,hok.2,by simpa only [inr] using hle⟩
   | bin k a b=>
    obtain ⟨h1,h2,h3,x,y,h4,h5,h6⟩:=ht
    rw [h4,h1,Ba hok.1] at hp
    simp only [inr] at hle
    simp only [List.zip_cons_cons,List.zip_nil_right,List.mem_cons,List.not_mem_nil,or_false] at hp
    rcases hp with rfl | rfl
    · exact ⟨a,h5,hok.2.1,by show o+((bC a (dm k):Nat):Int)≤12; omega⟩
    · exact ⟨b,h6,hok.2.2,by show o+((bC b (dJ k):Nat):Int)≤12; omega⟩
 · rintro ⟨ho,hp⟩
   have TG:e.Kind=1∨e.Kind=2∨e.Kind=3∨e.Kind=4∨(e.Kind=5∨e.Kind=6)∨(7≤e.Kind∧e.Kind≤19):=by omega
   rcases TG with h | h | h | h | h | h
   · rw [h] at hl
     exact ⟨.num e.N,⟨h,rfl,by simpa [h] using sG,List.eq_nil_of_length_eq_zero (hl.trans (by decide))⟩,by unfold T.ok; omega,by simp only [inr]; omega⟩
   · rw [h] at hl
     exact ⟨.var e.Name,⟨h,by omega,rfl,List.eq_nil_of_length_eq_zero (hl.trans (by decide))⟩,hn2 (.inl h),by simp only [inr]; omega⟩
   · rw [h] at hl
     exact ⟨.arg,⟨h,by omega,by simpa [h] using sG,List.eq_nil_of_length_eq_zero (hl.trans (by decide))⟩,trivial,by simp only [inr]; omega⟩
   · rw [h] at hl
     exact ⟨.fV e.Name,⟨h,by omega,rfl,List.eq_nil_of_length_eq_zero (hl.trans (by decide))⟩,hn2 (.inr h),by simp only [inr]; omega⟩
   · rw [Gs h] at hl hp
     obtain ⟨x,hx⟩:=List.length_eq_one_iff.1 hl
     rw [hx] at hp
     obtain ⟨t,h1,h2,h3⟩:=hp (x,6) (by simp)
     exact ⟨.un e.Kind t,⟨rfl,by omega,Classical.byContradiction fun q=>by have :=sG.2 q; omega,x,hx,h1⟩,⟨h,h2⟩,by simpa only [inr] using h3⟩
   · rw [Ba h] at hl hp
     obtain ⟨x,y,hx⟩: ∃ x y,e.Kids= [x,y]:=by
      match hq:e.Kids with
      | [x,y]=>exact ⟨x,y,rfl⟩
      | []=>rw [hq] at hl; cases hl
      | [_]=>rw [hq] at hl; cases hl
      | _::_::_::_=>rw [hq] at hl; simp at hl
     rw [hx] at hp
     obtain ⟨t,h1,h2,h3⟩:=hp (x,dm e.Kind) (by simp)
     obtain ⟨u,h4,h5,h6⟩:=hp (y,dJ e.Kind) (by simp)
     have h3:o+((bC t (dm e.Kind):Nat):Int)≤12:=h3
     have h6:o+((bC u (dJ e.Kind):Nat):Int)≤12:=h6
     exact ⟨.bin e.Kind t u,⟨rfl,by omega,Classical.byContradiction fun q=>by have :=sG.2 q; omega,x,y,hx,h1,h4⟩,⟨h,h2,h5⟩,by simp only [inr]; omega⟩
theorem Wy {k:Int} : ∀ p ∈ eS k,1≤p∧p≤6:=fun p hp=>by
 have :=F6 k
 unfold eS at hp
 split at hp
 · cases hp
 · split at hp
   · simp at hp; omega
   · unfold dm dJ at hp
     simp at hp
     rcases hp with rfl | rfl <;> split <;> omega
theorem YJ (self:ai→Int→Int→Option Bool) (e:ai) (o:Int) (Q:ai→Int→Prop) (hl:e.Kids.length=(eS e.Kind).length) (h2:e.Kids.length≤10000000000000) (hQ: ∀ x ∈ e.Kids, ∀ p,1≤p∧p≤6→ ∃ b,self x p o=some b∧(b=true↔Q x p)):
 ∀ m n,n+m=e.Kids.length→ ∀ k,m+1≤k→ ∃ b,nR self k o e.Kind e.N e.Name e.Kids e.At (eS e.Kind) ((eS e.Kind).length:Int) ((n:Nat):Int)=some b∧(b=true↔ ∀ q ∈ (e.Kids.zip (eS e.Kind)).drop n,Q q.1 q.2):=by
 intro m
 induction m with
 | zero=>
  intro n h k hk
  obtain ⟨k,rfl⟩: ∃ j,k=j+1:=⟨k - 1,by omega⟩
  refine ⟨true, ?_, ?_⟩
  · simp only [nR]; rw [if_neg (by omega)]
  · rw [List.drop_eq_nil_of_le (by rw [List.length_zip]; omega)]; simp
 | succ m ih=>
  intro n h k hk
  obtain ⟨k,rfl⟩: ∃ j,k=j+1:=⟨k - 1,by omega⟩
  have sG:n<e.Kids.length:=by omega
  have hn2:n<(eS e.Kind).length:=by omega
  have hz:(e.Kids.zip (eS e.Kind)).drop n=(e.Kids[n],(eS e.Kind)[n])::(e.Kids.zip (eS e.Kind)).drop (n+1):=by
   rw [List.drop_eq_getElem_cons (by rw [List.length_zip]; omega),List.getElem_zip]
  obtain ⟨b,hb,hb'⟩:=hQ e.Kids[n] (List.getElem_mem sG) (eS e.Kind)[n] (Wy _ (List.getElem_mem hn2))
  simp only [nR]
  rw [if_pos (by omega),if_pos (by omega),if_pos (by omega),if_pos (by omega),if_pos (by omega),Int.toNat_natCast,cF _ sG,cF _ hn2,hb,aa]
  cases b with
  | false=>
   refine ⟨false,by simp, ?_⟩
   rw [hz]
   constructor
   · intro q; cases q
   · intro q
     exact (Bool.false_ne_true (hb'.2 (q _ List.mem_cons_self))).elim
  | true=>
   obtain ⟨b',h1,h2⟩:=ih (n+1) (by omega) k (by omega)
   refine ⟨b', ?_, ?_⟩
   · simp only [Bool.not_true,cond_false]
     rw [show ag ((n:Int)+1)=((n+1:Nat):Int) from by rw [bl (by omega) (by omega)]; omega]
     exact h1
   · rw [hz,h2]
     simp [hb'.1 rfl]
theorem HN: ∀ (n:Nat) (e:ai) (a o:Int),Fw n e→1≤a∧a≤6→0≤o→o≤12→ ∀ k,n+4≤k→ ∃ b,qm k e a o=some b∧(b=true↔ ∃ t,Is t e∧t.ok∧o+bC t a≤12)
 | 0,e,a,o,h,_,_,_,_,_=>h.elim
 | n+1,e,a,o,⟨h1,h2,h3,h4⟩,ha,ho,Fi,k,hk=>by
  obtain ⟨k,rfl⟩: ∃ j,k=j+1:=⟨k - 1,by omega⟩
  show ∃ b,z7 (qm k) k e a o=some b∧_
  unfold z7
  rw [eta,Zm h2,aa]
  cases hs:nu e with
  | false=>
   refine ⟨false,rfl, ?_⟩
   constructor
   · intro q; cases q
   · rintro ⟨t,ht,hok,_⟩
     rw [ht.nu hok] at hs; cases hs
  | true=>
   have hs':=hs
   unfold nu at hs'
   rw [decide_eq_true_eq] at hs'
   have hl:=hs'.2.1
   have tail: ∀ o':Int,0≤o'→ ∃ b,(if 12<o' then some false else (dZ e.Kind).bind fun r=>nR (qm k) k o' e.Kind e.N e.Name e.Kids e.At r (r.length:Int) 0)=some b∧(b=true↔ ∃ t,Is t e∧t.ok∧o'+inr t≤12):=fun o' ho'=>by
    by_cases h12:12<o'
    · rw [if_pos h12]
      exact ⟨false,rfl,⟨fun q=>(by cases q),fun ⟨t,_,_,q⟩=>(by omega)⟩⟩
    · rw [if_neg h12,jl,aa]
      obtain ⟨b,hb,hb'⟩:=YJ (qm k) e o' (fun x p=> ∃ t,Is t x∧t.ok∧o'+bC t p≤12) hl h1.2 (fun x hx p hp=>HN n x p o' (h4 x hx) hp ho' (by omega) k (by omega)) e.Kids.length 0 (by omega) k (by omega)
      refine ⟨b,hb, ?_⟩
      rw [hb',inside hs h3.2 o',List.drop_zero]
      exact ⟨fun q=>⟨by omega,q⟩,fun q=>q.2⟩
   rw [Bool.not_true,cond_false]
   simp only [qz,aa]
   have fin: ∀ o':Int,o'=o+(if lvl e.Kind<a then 1 else 0)+(if lvl e.Kind=6 then 1 else 0)→ ∀ b:Bool,(b=true↔ ∃ t,Is t e∧t.ok∧o'+inr t≤12)→(b=true↔ ∃ t,Is t e∧t.ok∧o+bC t a≤12):=fun o' ho' b hb=>by
    rw [hb]
    constructor
    · rintro ⟨t,ht,hok,q⟩
      refine ⟨t,ht,hok, ?_⟩
      rw [A7 hok (by omega), ← ht.kind]
      rw [ho'] at q
      split at q <;> split at q <;> (try rw [if_pos (by assumption)]) <;> (try rw [if_neg (by assumption)]) <;> (try rw [if_pos (by assumption)]) <;> (try rw [if_neg (by assumption)]) <;> omega
    · rintro ⟨t,ht,hok,q⟩
      refine ⟨t,ht,hok, ?_⟩
      rw [A7 hok (by omega), ← ht.kind] at q
      rw [ho']
      split <;> split <;> (try rw [if_pos (by assumption)] at q) <;> (try rw [if_neg (by assumption)] at q) <;> (try rw [if_pos (by assumption)] at q) <;> (try rw [if_neg (by assumption)] at q) <;> omega
   by_cases hA:lvl e.Kind<a
   · rw [if_pos hA]
     by_cases h6:lvl e.Kind=6
     · rw [if_pos h6]
       rw [show ag (ag (o+1)+1)=o+2 from by rw [bl (n:=o+1) (by omega) (by omega),bl (by omega) (by omega)]; omega]
       obtain ⟨b,hb,hb'⟩:=tail (o+2) (by omega)
       exact ⟨b,hb,fin (o+2) (by rw [if_pos hA,if_pos h6]; omega) b hb'⟩
     · rw [if_neg h6]
       rw [show ag (o+1)=o+1 from bl (by omega) (by omega)]
       obtain ⟨b,hb,hb'⟩:=tail (o+1) (by omega)
       exact ⟨b,hb,fin (o+1) (by rw [if_pos hA,if_neg h6]; omega) b hb'⟩
   · rw [if_neg hA]
     by_cases h6:lvl e.Kind=6
     · rw [if_pos h6]
       rw [show ag (o+1)=o+1 from bl (by omega) (by omega)]
       obtain ⟨b,hb,hb'⟩:=tail (o+1) (by omega)
       exact ⟨b,hb,fin (o+1) (by rw [if_neg hA,if_pos h6]; omega) b hb'⟩
     · rw [if_neg h6]
       obtain ⟨b,hb,hb'⟩:=tail o (by omega)
       exact ⟨b,hb,fin o (by rw [if_neg hA,if_neg h6]; omega) b hb'⟩
theorem Po {n:Nat} {e:ai} (h:Fw n e): ∃ b,uh e=some b∧(b=true↔ ∃ t,Is t e∧t.ok∧bC t 1≤12):=by
 obtain ⟨b, -,hb'⟩:=HN n e 1 0 h (by decide) (by decide) (by decide) (n+4) (Nat.le_refl _)
 refine ⟨b, ?_, ?_⟩
 · unfold uh
   rw [eta,show z6 e 1 0=some b from b6 (n+4) fun k hk=> ?_,aa]
   obtain ⟨b2,h1,h2⟩:=HN n e 1 0 h (by decide) (by decide) (by decide) k hk
   have :b2=b:=by rw [Bool.eq_iff_iff,h2,hb']
   rw [← this]; exact h1
 · rw [hb']
   constructor
   · rintro ⟨t,h1,h2,h3⟩; exact ⟨t,h1,h2,by omega⟩
   · rintro ⟨t,h1,h2,h3⟩; exact ⟨t,h1,h2,by omega⟩
end Go.Sy.Ex
namespace Go.Sy.Ex
open Go.Sy
theorem FN:Lib.itoa 1= [49]:=by rw [uO (by decide),show (1:Int).toNat=1 from rfl,kO (by decide)]; rfl
theorem LA:Lib.itoa 2= [50]:=by rw [uO (by decide),show (2:Int).toNat=2 from rfl,kO (by decide)]; rfl
theorem Fw.up: ∀ {n m:Nat} {e:ai},Fw n e→n≤m→Fw m e
 | 0,_,_,h,_=>h.elim
 | n+1,0,_,_,h=>by omega
 | n+1,m+1,e,⟨h1,h2,h3,h4⟩,h=>⟨by omega,h2,h3,fun x hx=>Fw.up (h4 x hx) (by omega)⟩
theorem Is.fw: ∀ {t:T} {e:ai},Is t e→t.ok→Fw (t.sz+1) e
 | .num n,e,h,hok=>⟨by rw [h.2.2.2]; simp,by rw [h.2.2.1]; decide,by rw [h.2.1]; unfold T.ok at hok; omega,by rw [h.2.2.2]; intro x hx; cases hx⟩
 | .var s,e,h,hok=>⟨by rw [h.2.2.2]; simp,by rw [h.2.2.1]; have :=(eX hok).2.1; omega,by rw [h.2.1]; decide,by rw [h.2.2.2]; intro x hx; cases hx⟩
 | .arg,e,h,hok=>⟨by rw [h.2.2.2]; simp,by rw [h.2.2.1]; decide,by rw [h.2.1]; decide,by rw [h.2.2.2]; intro x hx; cases hx⟩
 | .fV s,e,h,hok=>⟨by rw [h.2.2.2]; simp,by rw [h.2.2.1]; have :=(eX hok).2.1; omega,by rw [h.2.1]; decide,by rw [h.2.2.2]; intro x hx; cases hx⟩
 | .un k t,e,h,hok=>by
  obtain ⟨h1,h2,h3,x,h4,h5⟩:=h
  exact ⟨by rw [h4]; simp,by rw [h3]; decide,by rw [h2]; decide,by rw [h4]; intro y hy; rw [List.mem_singleton] at hy; subst hy; exact Is.fw h5 hok.2⟩
 | .bin k a b,e,h,hok=>by
  obtain ⟨h1,h2,h3,x,y,h4,h5,h6⟩:=h
  refine ⟨by rw [h4]; simp,by rw [h3]; decide,by rw [h2]; decide, ?_⟩
  rw [h4]; intro z hz
  simp only [List.mem_cons,List.not_mem_nil,or_false] at hz
  rcases hz with rfl | rfl
  · exact Fw.up (Is.fw h5 hok.2.1) (by simp only [T.sz]; omega)
  · exact Fw.up (Is.fw h6 hok.2.2) (by simp only [T.sz]; omega)
theorem Pp {t:T} {e:ai} (h:Is t e) (hok:t.ok) (hn:bC t 1≤12):uh e=some true:=by
 obtain ⟨b,h1,h2⟩:=Po (h.fw hok)
 rw [h1,h2.2 ⟨t,h,hok,hn⟩]
end Go.Sy.Ex
namespace Go.Sy.Ex
open Go.Sy
theorem nx {n:Nat} (h:n<100000000000000):ag ((n:Int)+1)=((n+1:Nat):Int):=by rw [bl (by omega) (by omega)]; omega
theorem tB (k:Int):tq k=some (lvl k):=by
 unfold tq lvl
 by_cases h19:k=19
 · rw [if_pos h19,if_pos h19]
 rw [if_neg h19,if_neg h19]
 by_cases Ai:k=18
 · rw [if_pos Ai,if_pos Ai]
 rw [if_neg Ai,if_neg Ai]
 repeat' split
 all_goals first
  | rfl
  | (exfalso; omega)
end Go.Sy.Ex
namespace Go.Sy.Ex
open Go.Sy
theorem VV {t:T} (h:t.ok) {a:Int} (ha:a≤7):bC t a=bC t 1+(if lvl t.kind<a then 1 else 0):=by
 rw [A7 h ha,A7 h (a:=1) (by decide)]
 have :=F6 t.kind
 rw [if_neg (c:=lvl t.kind<1) (by omega)]
 omega
theorem Mt {t:T} (h:t.ok) {a:Int} (ha:a≤7):pr t a=if lvl t.kind<a then 40::pr t 1++ [41] else pr t 1:=by
 cases t with
 | num n=>
  have hk:lvl (T.num n).kind=7:=by show lvl 1=7; decide
  rw [if_neg (c:=lvl _<a) (by omega)]; simp only [pr]; rw [eD (by omega),eD (by omega)]
 | var n=>
  have hk:lvl (T.var n).kind=7:=by show lvl 2=7; decide
  rw [if_neg (c:=lvl _<a) (by omega)]; simp only [pr]; rw [eD (by omega),eD (by omega)]
 | arg=>
  have hk:lvl T.arg.kind=7:=by show lvl 3=7; decide
  rw [if_neg (c:=lvl _<a) (by omega)]; simp only [pr]; rw [eD (by omega),eD (by omega)]
 | fV n=>
  have hk:lvl (T.fV n).kind=7:=by show lvl 4=7; decide
  rw [if_neg (c:=lvl _<a) (by omega)]; simp only [pr]; rw [eD (by omega),eD (by omega)]
 | un k t=>
  have hk:lvl (T.un k t).kind=6:=by show lvl k=6; rcases h.1 with rfl | rfl <;> decide
  simp only [pr]
  by_cases h6:6<a
  · rw [if_pos (c:=lvl _<a) (by omega),pE h6,eD (by omega)]
  · rw [if_neg (c:=lvl _<a) (by omega),eD h6,eD (by omega)]
 | bin k x y=>
  have hr:=(nN h.1.1 h.1.2).2
  have hk:lvl (T.bin k x y).kind=lvl k:=rfl
  simp only [pr]
  by_cases h6:lvl k<a
  · rw [if_pos (c:=lvl (T.bin k x y).kind<a) (by omega),pE h6,eD (by omega)]
  · rw [if_neg (c:=lvl (T.bin k x y).kind<a) (by omega),eD h6,eD (by omega)]
theorem Gu {t:T} (h:t.ok) {a:Int} (ha:a≤7):(pr t 1).length≤(pr t a).length:=by
 rw [Mt h ha]; split
 · simp; omega
 · exact Nat.le_refl _
theorem HO (self:ai→Option (List UInt8)) {t:T} {e:ai} (h:Is t e) (hok:t.ok) {a:Int} (ha:a≤7) (hs:self e=some (pr t 1)) (hl:(pr t a).length≤9223372036854775807):kF self e a=some (pr t a):=by
 unfold kF
 rw [tB,aa,eta,hs,aa,h.kind]
 rw [Mt hok ha] at hl ⊢
 by_cases hlt:lvl t.kind<a
 · rw [if_pos hlt] at hl ⊢
   simp only [List.length_append,List.length_cons,List.length_nil] at hl
   rw [if_pos hlt]
   rw [if_pos (by simp; omega),if_pos (by simp; omega)]; rfl
 · rw [if_neg hlt] at hl ⊢
   rw [if_neg hlt,aa]
theorem YO {k:Int} (h:7≤k∧k≤19):nj k=some (eU k):=by
 have hk:k=7∨k=8∨k=9∨k=10∨k=11∨k=12∨k=13∨k=14∨k=15∨k=16∨k=17∨k=18∨k=19:=by omega
 rcases hk with rfl | rfl | rfl | rfl | rfl | rfl | rfl | rfl | rfl | rfl | rfl | rfl | rfl <;> decide
theorem WQ: ∀ (t:T) (e:ai),Is t e→t.ok→(pr t 1).length≤9223372036854775807→ ∀ k,t.sz+1≤k→kE k e=some (pr t 1):=by
 intro t
 induction t with
 | num n=>
  intro e h hok hl k hk
  obtain ⟨k,rfl⟩: ∃ j,k=j+1:=⟨k - 1,by omega⟩
  show kD (kE k) k e=_
  unfold kD
  rw [tB,aa,if_pos h.1,h.2.1,ID n (by have :=hok.1; omega) hok.2,aa]
  simp only [pr]; rw [eD (by decide)]
 | var s=>
  intro e h hok hl k hk
  obtain ⟨k,rfl⟩: ∃ j,k=j+1:=⟨k - 1,by omega⟩
  show kD (kE k) k e=_
  unfold kD
  rw [tB,aa,if_neg (by rw [h.1]; decide),if_pos h.1,h.2.2.1]
  simp only [pr]; rw [eD (by decide)]
 | arg=>
  intro e h hok hl k hk
  obtain ⟨k,rfl⟩: ∃ j,k=j+1:=⟨k - 1,by omega⟩
  show kD (kE k) k e=_
  unfold kD
  rw [tB,aa,if_neg (by rw [h.1]; decide),if_neg (by rw [h.1]; decide),if_pos h.1]
  simp only [pr]; rw [eD (by decide)]
 | fV s=>
  intro e h hok hl k hk
  obtain ⟨k,rfl⟩: ∃ j,k=j+1:=⟨k - 1,by omega⟩
  show kD (kE k) k e=_
  unfold kD
  have :=(eX hok).2.1
  rw [tB,aa,if_neg (by rw [h.1]; decide),if_neg (by rw [h.1]; decide),if_neg (by rw [h.1]; decide),if_pos h.1,h.2.2.1,if_pos (by simp; omega),if_pos (by simp; omega)]
  simp only [pr]; rw [eD (by decide)]
 | un q t ih=>
  intro e h hok hl k hk
  obtain ⟨h1,h2,h3,x,h4,h5⟩:=h
  simp only [T.sz] at hk
  obtain ⟨k,rfl⟩: ∃ j,k=j+1:=⟨k - 1,by omega⟩
  have hp:pr (.un q t) 1=(if q=5 then 45 else 33)::pr t 6:=by simp only [pr]; rw [eD (by decide)]
  rw [hp] at hl ⊢
  simp only [List.length_cons] at hl
  have Lq:=Gu hok.2 (a:=6) (by decide)
  have hx:=HO (kE k) h5 hok.2 (a:=6) (by decide) (ih x h5 hok.2 (by omega) k (by omega)) (by omega)
  show kD (kE k) k e=_
  unfold kD
  rw [tB,aa,h1]
  rcases hok.1 with rfl | rfl
  · rw [if_neg (by decide),if_neg (by decide),if_neg (by decide),if_neg (by decide),if_pos rfl,if_pos rfl,show nj 5=some dV from by decide,aa,if_pos (by decide),if_pos (by rw [h4]; simp),h4,show [x].getD (0:Int).toNat ai.z=x from rfl,hx,aa,if_pos (by simp; omega)]
    rfl
  · rw [if_neg (by decide),if_neg (by decide),if_neg (by decide),if_neg (by decide),if_neg (by decide),if_pos rfl,show nj 6=some jr from by decide,aa,if_pos (by decide),if_pos (by rw [h4]; simp),h4,show [x].getD (0:Int).toNat ai.z=x from rfl,hx,aa,if_pos (by simp; omega)]
    rfl
 | bin q a b xN xO=>
  intro e h hok hl k hk
  obtain ⟨h1,h2,h3,x,y,h4,h5,h6⟩:=h
  simp only [T.sz] at hk
  obtain ⟨k,rfl⟩: ∃ j,k=j+1:=⟨k - 1,by omega⟩
  have hr:=(nN hok.1.1 hok.1.2).2
  have hp:pr (.bin q a b) 1=pr a (dm q)++(aT++eU q++aT)++pr b (dJ q):=by simp only [pr]; rw [eD (by omega)]
  rw [hp] at hl ⊢
  simp only [List.length_append,List.length_cons,List.length_nil] at hl
  have hlf:dm q≤7:=by unfold dm; split <;> omega
  have uG:dJ q≤7:=by unfold dJ; split <;> omega
  have hsa:=Gu hok.2.1 hlf
  have hsb:=Gu hok.2.2 uG
  have hx:=HO (kE k) h5 hok.2.1 hlf (xN x h5 hok.2.1 (by omega) k (by omega)) (by omega)
  have hy:=HO (kE k) h6 hok.2.2 uG (xO y h6 hok.2.2 (by omega) k (by omega)) (by omega)
  show kD (kE k) k e=_
  unfold kD
  have hwr:ag (lvl q+1)=lvl q+1:=bl (by omega) (by omega)
  have lsp:aT.length=1:=rfl
  have hq:7≤q∧q≤19:=hok.1
  have e1: [x,y].getD (0:Int).toNat ai.z=x:=rfl
  have e2: [x,y].getD (1:Int).toNat ai.z=y:=rfl
  rw [tB,aa,h1,if_neg (by omega),if_neg (by omega),if_neg (by omega),if_neg (by omega),if_neg (by omega),if_neg (by omega),YO hok.1]
  simp only [aa,h4,e1,e2,hwr]
  by_cases nV:lvl q=3
  · have el:dm q=4:=by unfold dm; rw [if_pos nV]
    have er:dJ q=lvl q+1:=by unfold dJ; rw [if_pos nV]; omega
    rw [el,er] at hl ⊢
    rw [el] at hx
    rw [er] at hy
    rw [if_pos nV,if_pos (by decide),if_pos (by simp),hx,aa,if_pos (by (try simp only [List.length_append]); omega),if_pos (by (try simp only [List.length_append]); omega),if_pos (by (try simp only [List.length_append]); omega),if_pos (by decide),if_pos (by simp),hy,aa,if_pos (by (try simp only [List.length_append]); omega)]
    simp
  · have el:dm q=lvl q:=by unfold dm; rw [if_neg nV]
    have er:dJ q=lvl q+1:=by unfold dJ; rw [if_neg nV]
    rw [el,er] at hl ⊢
    rw [el] at hx
    rw [er] at hy
    rw [if_neg nV,if_pos (by decide),if_pos (by simp),hx,aa,if_pos (by (try simp only [List.length_append]); omega),if_pos (by (try simp only [List.length_append]); omega),if_pos (by (try simp only [List.length_append]); omega),if_pos (by decide),if_pos (by simp),hy,aa,if_pos (by (try simp only [List.length_append]); omega)]
    simp
theorem MA {t:T} {e:ai} (h:Is t e) (hok:t.ok) (hl:(pr t 1).length≤9223372036854775807):vB e=some (pr t 1):=b6 (t.sz+1) fun k hk=>WQ t e h hok hl k hk
theorem yg: ∀ (t:T) (a:Int),t.ok→(pr t a).length≤40*t.sz
 | .num n,a,h=>by
  have :=LB h.1 h.2
  have :=(uW (7<a) (Lib.itoa n)).2
  simp only [pr,T.sz]; omega
 | .var s,a,h=>by
  have :=(eX h).2.1
  have :=(uW (7<a) s).2
  simp only [pr,T.sz]; omega
 | .arg,a,h=>by
  have :=(uW (7<a) [36]).2
  simp only [pr,T.sz]; simp at this; omega
 | .fV s,a,h=>by
  have :=(eX h).2.1
  have :=(uW (7<a) (ia++s++bD)).2
  simp at this
  simp only [pr,T.sz]; simp; omega
 | .un k t,a,h=>by
  have :=yg t 6 h.2
  have :=(uW (6<a) ((if k=5 then 45 else 33)::pr t 6)).2
  simp only [List.length_cons] at this
  simp only [pr,T.sz]; omega
 | .bin k x y,a,h=>by
  have :=yg x (dm k) h.2.1
  have :=yg y (dJ k) h.2.2
  have :=zb k
  have :=(uW (lvl k<a) (pr x (dm k)++(aT++eU k++aT)++pr y (dJ k))).2
  simp only [List.length_append,List.length_cons,List.length_nil] at this
  simp only [pr,T.sz]; omega
end Go.Sy.Ex
namespace Go.Sy.Ex
open Go.Sy
end Go.Sy.Ex
namespace Go.Sy.Ex
open Go.Sy
def T.dp:T→Nat
 | .un _ t=>t.dp+1
 | .bin _ a b=>max a.dp b.dp+1
 | _=>0
theorem VW: ∀ (t:T) (a:Int),t.ok→a≤7→bC t 1≤2*t.dp∧bC t a≤2*t.dp+1:=by
 have up: ∀ (t:T) (a:Int),t.ok→a≤7→bC t 1≤2*t.dp→bC t 1≤2*t.dp∧bC t a≤2*t.dp+1:=fun t a h ha h1=>by
  rw [VV h ha]
  refine ⟨h1, ?_⟩
  split <;> omega
 intro t
 induction t with
 | num n=>intro a h ha; exact up _ a h ha (Nat.zero_le _)
 | var n=>intro a h ha; exact up _ a h ha (Nat.zero_le _)
 | arg=>intro a h ha; exact up _ a h ha (Nat.zero_le _)
 | fV n=>intro a h ha; exact up _ a h ha (Nat.zero_le _)
 | un k t ih=>
  intro a h ha
  have :=(ih 6 h.2 (by decide)).2
  refine up _ a h ha ?_
  simp only [bC,T.dp]; rw [jL (by decide)]; omega
 | bin k x y nY nZ=>
  intro a h ha
  have hr:=(nN h.1.1 h.1.2).2
  have h1:=(nY (dm k) h.2.1 (by unfold dm; split <;> omega)).2
  have h2:=(nZ (dJ k) h.2.2 (by unfold dJ; split <;> omega)).2
  refine up _ a h ha ?_
  simp only [bC,T.dp]; rw [jL (by omega)]; omega
theorem Ww {v n:Int} (hn:0<n) (hn2:n≤1000000): ∃ r,kY v n=some r∧0≤r∧r<n:=by
 unfold kY
 rw [if_pos (by omega)]
 have h1:v.tmod n<n:=Int.tmod_lt_of_pos v hn
 have h2: -n<v.tmod n:=by
  have h:=Int.tmod_lt_of_pos (-v) hn
  rw [Int.neg_tmod] at h; omega
 by_cases h:v.tmod n<0
 · rw [if_pos h,bl (by omega) (by omega)]; exact ⟨_,rfl,by omega,by omega⟩
 · rw [if_neg h]; exact ⟨_,rfl,by omega,by omega⟩
theorem kq {L:List Int} {i:Nat} (hi:i≤L.length) (hL:L.length≤1000000) {n:Int} (hn:0<n) (hn2:n≤1000000): ∃ r i',bK (a_.mk L (i:Int)) n=some (r,a_.mk L ((i':Nat):Int))∧0≤r∧r<n∧i'≤L.length:=by
 unfold bK
 by_cases h:L.length≤i
 · rw [if_pos (by show (L.length:Int)≤(i:Int); omega)]
   exact ⟨0,i,rfl,by omega,by omega,hi⟩
 · rw [if_neg (by show ¬ (L.length:Int)≤(i:Int); omega)]
   have e1:ag ((i:Int)+1)=((i+1:Nat):Int):=nx (by omega)
   have e2:ag (((i+1:Nat):Int) - 1)=((i:Nat):Int):=by rw [bl (by omega) (by omega)]; omega
   dsimp only
   rw [e1,e2,if_pos (by omega),if_pos (by omega)]
   obtain ⟨r,hr,h1,h2⟩:=Ww (v:=L.getD ((i:Nat):Int).toNat 0) hn hn2
   rw [hr,aa]
   exact ⟨r,i+1,rfl,h1,h2,by omega⟩
theorem uX {L:List Int} {i:Nat} (hi:i≤L.length) (hL:L.length≤1000000) {l:List (List UInt8)} (h0:l≠ []) (hl:l.length≤1000): ∃ s i',fq (a_.mk L (i:Int)) l []=some (s,a_.mk L ((i':Nat):Int))∧s ∈ l∧i'≤L.length:=by
 have hpos:0<l.length:=List.length_pos_iff.2 h0
 unfold fq
 rw [if_neg (by omega)]
 obtain ⟨r,i',hr,h1,h2,h3⟩:=kq hi hL (n:=(l.length:Int)) (by omega) (by omega)
 rw [hr,aa]
 dsimp only
 rw [if_pos h1,if_pos h2,cF _ (by omega)]
 exact ⟨_,i',rfl,List.getElem_mem _,h3⟩
def Made (L:List Int) (s:aV) (d:Nat) (f:Nat→Option (ai×a_)) (K:Nat):Prop:= ∃ e i' t,(∀ k,K≤k→f k=some (e,a_.mk L ((i':Nat):Int)))∧i'≤L.length∧Is t e∧t.ok∧t.dp≤d∧t.sz≤2 ^ (d+1) - 1
theorem Jq (L:List Int) (hL:L.length≤1000000) (s:aV) (hV: ∀ v ∈ s.Vars,cY v=true) (An:s.Vars.length≤1000) (hS: ∀ v ∈ s.eV,cY v=true) (Am:s.eV.length≤1000) (i:Nat) (hi:i≤L.length) (q:Int) (h0:0≤q) (h6:q<6):
 ∃ e i' t,(∀ (self:a_→aV→Int→Option (ai×a_)) (k:Nat) (d:Int),kX self (k+1) L (i:Int) d s.Vars s.gO s.gE s.eV 0 0 [] [] 0 q=some (e,a_.mk L ((i':Nat):Int)))∧i'≤L.length∧Is t e∧t.ok∧t.dp=0∧t.sz=1:=by
 have arg:(q=2→s.Vars= [])→(q=3→s.eV= [])→2≤q→ ∃ e i' t,(∀ (self:a_→aV→Int→Option (ai×a_)) (k:Nat) (d:Int),kX self (k+1) L (i:Int) d s.Vars s.gO s.gE s.eV 0 0 [] [] 0 q=some (e,a_.mk L ((i':Nat):Int)))∧i'≤L.length∧Is t e∧t.ok∧t.dp=0∧t.sz=1:=fun hv hs h2=>by
  refine ⟨ai.mk 3 0 [] [] 0,i, .arg,fun self k d=> ?_,hi,⟨rfl,rfl,rfl,rfl⟩,trivial,rfl,rfl⟩
  rw [kX.eq_2,if_neg (by omega)]
  by_cases c2:q=2
  · rw [if_pos c2,hv c2,if_neg (by simp),if_neg (by omega),if_pos (by omega)]
  · rw [if_neg c2]
    by_cases c3:q=3
    · rw [if_pos c3,hs c3,if_neg (by simp),if_pos (by omega)]
    · rw [if_neg c3,if_pos (by omega)]
 by_cases c1:q<2
 · obtain ⟨r,i',hr,h1,h2,h3⟩:=kq hi hL (n:=6) (by decide) (by decide)
   have hrow:0≤vL.getD r.toNat 0∧vL.getD r.toNat 0≤9223372036854775807:=by
    have :r=0∨r=1∨r=2∨r=3∨r=4∨r=5:=by omega
    rcases this with rfl | rfl | rfl | rfl | rfl | rfl <;> decide
   refine ⟨ai.mk 1 (vL.getD r.toNat 0) [] [] 0,i', .num (vL.getD r.toNat 0),fun self k d=> ?_,h3,⟨rfl,rfl,rfl,rfl⟩,hrow,rfl,rfl⟩
   rw [kX.eq_2,if_pos c1,hr,aa]
   dsimp only
   rw [if_pos h1,if_pos (by show r<((6:Nat):Int); omega)]
 · by_cases c2:q=2
   · by_cases hv:s.Vars= []
     · exact arg (fun _=>hv) (fun h=>by omega) (by omega)
     · obtain ⟨v,i',hr,h1,h2⟩:=uX hi hL hv An
       have :0<s.Vars.length:=List.length_pos_iff.2 hv
       refine ⟨ai.mk 2 0 v [] 0,i', .var v,fun self k d=> ?_,h2,⟨rfl,rfl,rfl,rfl⟩,hV v h1,rfl,rfl⟩
       rw [kX.eq_2,if_neg c1,if_pos c2,if_pos (by omega),hr,aa]
   · by_cases c3:q=3
     · by_cases hs:s.eV= []
       · exact arg (fun h=>by omega) (fun _=>hs) (by omega)
       · obtain ⟨v,i',hr,h1,h2⟩:=uX hi hL hs Am
         have :0<s.eV.length:=List.length_pos_iff.2 hs
         refine ⟨ai.mk 4 0 v [] 0,i', .fV v,fun self k d=> ?_,h2,⟨rfl,rfl,rfl,rfl⟩,hS v h1,rfl,rfl⟩
         rw [kX.eq_2,if_neg c1,if_neg c2,if_pos c3,if_pos (by omega),hr,aa]
     · exact arg (fun h=>by omega) (fun h=>by omega) (by omega)
theorem SB (L:List Int) (hL:L.length≤1000000) (s:aV) (hV: ∀ v ∈ s.Vars,cY v=true) (An:s.Vars.length≤1000) (hS: ∀ v ∈ s.eV,cY v=true) (Am:s.eV.length≤1000):
 ∀ (d:Nat),d≤100→ ∀ i:Nat,i≤L.length→Made L s d (fun k=>lV k (a_.mk L (i:Int)) s (d:Int)) (4*d+4):=by
 intro d
 induction d with
 | zero=>
  intro hd i hi
  obtain ⟨r,i1,hr,h1,h2,h3⟩:=kq hi hL (n:=14) (by decide) (by decide)
  obtain ⟨q,T6,T7,hq⟩: ∃ q:Int,0≤q∧q<6∧q=if 5<r then r.tmod 6 else r:=by
   refine ⟨_, ?_, ?_,rfl⟩
   · split
     · exact Int.tmod_nonneg _ h1
     · exact h1
   · split
     · exact Int.tmod_lt_of_pos r (by decide)
     · omega
  obtain ⟨e,i',t,he,h4,h5,h6,h7,h8⟩:=Jq L hL s hV An hS Am i1 h3 q T6 T7
  refine ⟨e,i',t,fun k hk=> ?_,h4,h5,h6,by omega,by rw [h8]; decide⟩
  obtain ⟨k,rfl⟩: ∃ j,k=j+2:=⟨k - 2,by omega⟩
  show vj (lV (k+1)) (k+1) _ s _=_
  unfold vj
  rw [hr,aa,if_pos (by rfl)]
  dsimp only
  by_cases c5:5<r
  · rw [if_pos c5] at hq ⊢
    rw [if_pos (by decide), ← hq]
    exact he _ _ _
  · rw [if_neg c5] at hq ⊢
    rw [← hq]
    exact he _ _ _
 | succ d ih=>
  intro hd i hi
  obtain ⟨q,i1,hr,h1,h2,h3⟩:=kq hi hL (n:=14) (by decide) (by decide)
  have hp:2 ^ (d+1+1)=2*2 ^ (d+1):=by rw [Nat.pow_succ,Nat.mul_comm]
  have TZ:1≤2 ^ (d+1):=Nat.one_le_two_pow
  have hw:ag (((d+1:Nat):Int) - 1)=(d:Int):=by rw [bl (by omega) (by omega)]; omega
  have start: ∀ (k:Nat) (x:Option (ai×a_)),kX (lV k) k L (i1:Int) ((d+1:Nat):Int) s.Vars s.gO s.gE s.eV 0 0 [] [] 0 q=x→lV (k+1) (a_.mk L (i:Int)) s ((d+1:Nat):Int)=x:=fun k x hx=>by
   show vj (lV k) k _ s _=_
   unfold vj
   rw [hr,aa,if_neg (by omega)]
   exact hx
  by_cases c6:q<6
  · obtain ⟨e,i',t,he,h4,h5,h6,h7,h8⟩:=Jq L hL s hV An hS Am i1 h3 q h1 c6
    refine ⟨e,i',t,fun k hk=> ?_,h4,h5,h6,by omega,by omega⟩
    obtain ⟨k,rfl⟩: ∃ j,k=j+2:=⟨k - 2,by omega⟩
    exact start (k+1) _ (he _ _ _)
  · by_cases c7:q=6
    · obtain ⟨r,i2,hr2,g1,g2,g3⟩:=kq h3 hL (n:=2) (by decide) (by decide)
      obtain ⟨e,i',t,jd,h4,h5,h6,h7,h8⟩:=ih (by omega) i2 g3
      have he: ∀ k,4*d+4≤k→lV k (a_.mk L (i2:Int)) (aV.mk s.Vars s.gO s.gE s.eV) (d:Int)=some (e,a_.mk L ((i':Nat):Int)):=jd
      refine ⟨ai.mk (5+r) 0 [] [e] 0,i', .un (5+r) t,fun k hk=> ?_,h4,⟨rfl,rfl,rfl,e,rfl,h5⟩,⟨by omega,h6⟩,by simp only [T.dp]; omega,by simp only [T.sz]; omega⟩
      obtain ⟨k,rfl⟩: ∃ j,k=j+2:=⟨k - 2,by omega⟩
      refine start (k+1) _ ?_
      rw [kX.eq_2,if_neg (by omega),if_neg (by omega),if_neg (by omega),if_neg c6,if_pos c7,hr2,aa]
      dsimp only
      rw [hw,he (k+1) (by omega),aa,bl (by omega) (by omega)]
    · obtain ⟨e,i2,t,jd,h4,h5,h6,h7,h8⟩:=ih (by omega) i1 h3
      have he: ∀ k,4*d+4≤k→lV k (a_.mk L (i1:Int)) (aV.mk s.Vars s.gO s.gE s.eV) (d:Int)=some (e,a_.mk L ((i2:Nat):Int)):=jd
      obtain ⟨r,i3,xE,g1,g2,g3⟩:=kq h4 hL (n:=13) (by decide) (by decide)
      obtain ⟨f,i4,u,Tv,j4,j5,j6,j7,j8⟩:=ih (by omega) i3 g3
      have hf: ∀ k,4*d+4≤k→lV k (a_.mk L (i3:Int)) (aV.mk s.Vars s.gO s.gE s.eV) (d:Int)=some (f,a_.mk L ((i4:Nat):Int)):=Tv
      refine ⟨ai.mk (7+r) 0 [] [e,f] 0,i4, .bin (7+r) t u,fun k hk=> ?_,j4,⟨rfl,rfl,rfl,e,f,rfl,h5,j5⟩,⟨by omega,h6,j6⟩,by simp only [T.dp]; omega,by simp only [T.sz]; omega⟩
      obtain ⟨k,rfl⟩: ∃ j,k=j+3:=⟨k - 3,by omega⟩
      refine start (k+2) _ ?_
      rw [kX.eq_2,if_neg (by omega),if_neg (by omega),if_neg (by omega),if_neg c6,if_neg c7,vk.eq_2]
      rw [hw,he (k+2) (by omega),aa,xE,aa]
      dsimp only
      rw [hf (k+2) (by omega),aa,eta,bl (by omega) (by omega)]
end Go.Sy.Ex
namespace Go.Sy.Ex
open Go.Sy
theorem YU (t:List UInt8) (hl:t.length<200000000000000): ∀ m n,n+m=t.length→(∀ k,3*m+1≤k→kZ k t ((n:Nat):Int)=some ((cg false (t.drop n) n:Nat):Int))∧ ∀ k,3*m+2≤k→qN k t ((n:Nat):Int)=some ((cg true (t.drop n) n:Nat):Int):=by
 intro m
 induction m with
 | zero=>
  intro n h
  have hd:t.drop n= []:=List.drop_eq_nil_of_le (by omega)
  have h0: ∀ k,1≤k→kZ k t ((n:Nat):Int)=some ((cg false (t.drop n) n:Nat):Int):=by
   intro k hk
   obtain ⟨k,rfl⟩: ∃ j,k=j+1:=⟨k - 1,by omega⟩
   simp only [kZ]
   rw [if_neg (by omega),hd]; rfl
  refine ⟨fun k hk=>h0 k (by omega),fun k hk=> ?_⟩
  obtain ⟨k,rfl⟩: ∃ j,k=j+1:=⟨k - 1,by omega⟩
  simp only [qN]
  rw [if_neg (by omega),h0 k (by omega),hd]; rfl
 | succ m ih=>
  intro n h
  have hlt:n<t.length:=by omega
  obtain ⟨i0,i1⟩:=ih (n+1) (by omega)
  have e:ag ((n:Int)+1)=((n+1:Nat):Int):=by rw [bl (by omega) (by omega)]; omega
  have hd:t.drop n=t[n]::t.drop (n+1):=List.drop_eq_getElem_cons hlt
  have kM:((t[n].toNat:Nat):Int)=10↔t[n]=10:=lB t[n] 10 (by decide)
  have zQ:((t[n].toNat:Nat):Int)=32↔t[n]=32:=lB t[n] 32 (by decide)
  have c9:((t[n].toNat:Nat):Int)=9↔t[n]=9:=lB t[n] 9 (by decide)
  have zP:((t[n].toNat:Nat):Int)=13↔t[n]=13:=lB t[n] 13 (by decide)
  have wQ:((t[n].toNat:Nat):Int)=35↔t[n]=35:=lB t[n] 35 (by decide)
  have h0: ∀ k,3*(m+1)+1≤k→kZ k t ((n:Nat):Int)=some ((cg false (t.drop n) n:Nat):Int):=by
   intro k hk
   obtain ⟨k,rfl⟩: ∃ j,k=j+1:=⟨k - 1,by omega⟩
   simp only [kZ]
   have g1:(n:Int)<(t.length:Int):=by omega
   have g0:0≤(n:Int):=by omega
   simp only [g0,g1,if_true,Int.toNat_natCast,cF _ hlt,e]
   rw [hd,i0 k (by omega)]
   have l1:t[n]=35→qN k t ((n:Nat):Int)=some ((cg true (t.drop (n+1)) (n+1):Nat):Int):=by
    intro hb
    obtain ⟨k,rfl⟩: ∃ j,k=j+1:=⟨k - 1,by omega⟩
    simp only [qN]
    rw [if_pos g1,if_pos g0,if_pos g1,Int.toNat_natCast,cF _ hlt,if_pos (by rw [hb]; decide),e]
    exact i1 k (by omega)
   simp only [cg]
   by_cases zG:t[n]=32
   · rw [if_pos (zQ.2 zG),if_pos (.inl zG)]
   · rw [if_neg (fun q=>zG (zQ.1 q))]
     by_cases b9:t[n]=9
     · rw [if_pos (c9.2 b9),if_pos (.inr (.inl b9))]
     · rw [if_neg (fun q=>b9 (c9.1 q))]
       by_cases iZ:t[n]=10
       · rw [if_pos (kM.2 iZ),if_pos (.inr (.inr (.inl iZ)))]
       · rw [if_neg (fun q=>iZ (kM.1 q))]
         by_cases zF:t[n]=13
         · rw [if_pos (zP.2 zF),if_pos (.inr (.inr (.inr zF)))]
         · have hno: ¬ (t[n]=32∨t[n]=9∨t[n]=10∨t[n]=13):=fun q=>q.elim zG fun q=>q.elim b9 fun q=>q.elim iZ zF
           rw [if_neg (fun q=>zF (zP.1 q)),if_neg hno]
           by_cases mF:t[n]=35
           · rw [if_pos (wQ.2 mF),if_pos mF,l1 mF]
           · rw [if_neg (fun q=>mF (wQ.1 q)),if_neg mF]
  refine ⟨h0,fun k hk=> ?_⟩
  obtain ⟨k,rfl⟩: ∃ j,k=j+1:=⟨k - 1,by omega⟩
  simp only [qN]
  rw [if_pos (by omega),if_pos (by omega),if_pos (by omega),Int.toNat_natCast,cF _ hlt,e]
  by_cases iZ:t[n]=10
  · rw [if_neg (fun q=>q (kM.2 iZ)),h0 k (by omega),hd]
    simp only [cg]
    rw [if_pos (.inr (.inr (.inl iZ))),if_pos iZ]
  · rw [if_pos (fun q=>iZ (kM.1 q)),i1 k (by omega),hd]
    simp only [cg]
    rw [if_neg iZ]
theorem aaL (t:List UInt8) (hl:t.length<200000000000000) (hd: ∀ c ∈ t,dg c=true): ∀ m n acc,n+m=t.length→acc<9223372036854775808→ ∀ k,m+1≤k→vt k t ((acc:Nat):Int) ((n:Nat):Int)=some (match oJ acc (t.drop n) with | some v=>((v:Int),true) | none=>(0,false)):=by
 intro m
 induction m with
 | zero=>
  intro n acc h ha k hk
  obtain ⟨k,rfl⟩: ∃ j,k=j+1:=⟨k - 1,by omega⟩
  simp only [vt]
  rw [if_neg (by omega),List.drop_eq_nil_of_le (by omega)]
  rfl
 | succ m ih=>
  intro n acc h ha k hk
  obtain ⟨k,rfl⟩: ∃ j,k=j+1:=⟨k - 1,by omega⟩
  have hlt:n<t.length:=by omega
  have hc:=(wV t[n]).1 (hd _ (List.getElem_mem hlt))
  have e:ag ((n:Int)+1)=((n+1:Nat):Int):=by rw [bl (by omega) (by omega)]; omega
  have e1:Dr (((t[n]).toNat:Int) - 48)=((t[n].toNat - 48:Nat):Int):=by rw [aaU (by omega) (by omega)]; omega
  have e2:ag ((t[n].toNat - 48:Nat):Int)=((t[n].toNat - 48:Nat):Int):=bl (by omega) (by omega)
  have e3:ag (9223372036854775807 - ((t[n].toNat - 48:Nat):Int))=((9223372036854775807 - (t[n].toNat - 48):Nat):Int):=by rw [bl (by omega) (by omega)]; omega
  have e4:Int.tdiv ((9223372036854775807 - (t[n].toNat - 48):Nat):Int) 10=(((9223372036854775807 - (t[n].toNat - 48)) / 10:Nat):Int):=by
   rw [Int.tdiv_eq_ediv_of_nonneg (by omega)]; omega
  have e5:ag (((9223372036854775807 - (t[n].toNat - 48)) / 10:Nat):Int)=(((9223372036854775807 - (t[n].toNat - 48)) / 10:Nat):Int):=bl (by omega) (by omega)
  simp only [vt]
  rw [if_pos (by omega),if_pos (by omega),if_pos (by omega),if_pos (by decide),Int.toNat_natCast,cF _ hlt,e,e1,e2,e3,e4,e5,List.drop_eq_getElem_cons hlt]
  unfold oJ
  by_cases hb:(9223372036854775807 - (t[n].toNat - 48)) / 10<acc
  · rw [if_pos (by omega),if_pos hb]
  · rw [if_neg (by omega),if_neg hb]
    have e6:ag (ag (10*(acc:Int))+((t[n].toNat - 48:Nat):Int))=((10*acc+(t[n].toNat - 48):Nat):Int):=by
     rw [bl (n:=10*(acc:Int)) (by omega) (by omega),bl (by omega) (by omega)]; omega
    rw [e6]
    exact ih (n+1) _ (by omega) (by omega) k (by omega)
theorem aaK (t:List UInt8) (hl:t.length<200000000000000) (hd: ∀ c ∈ t,dg c=true):oB t=some (match oJ 0 t with | some v=>((v:Int),true) | none=>(0,false)):=
 b6 (t.length+1) fun k hk=>aaL t hl hd t.length 0 0 (by omega) (by omega) k hk
theorem V8 (s:List UInt8) (i:Nat) (hi:i<s.length) (one:List UInt8) (hl:one.length<200000000000000): ∀ m n,n+m=one.length→ ∀ k,m+1≤k→tg k s ((i:Nat):Int) one ((n:Nat):Int)=some (if s[i] ∈ one.drop n then 1 else 0):=by
 intro m
 induction m with
 | zero=>
  intro n h k hk
  obtain ⟨k,rfl⟩: ∃ j,k=j+1:=⟨k - 1,by omega⟩
  simp only [tg]
  rw [if_neg (by omega),List.drop_eq_nil_of_le (by omega)]
  simp
 | succ m ih=>
  intro n h k hk
  obtain ⟨k,rfl⟩: ∃ j,k=j+1:=⟨k - 1,by omega⟩
  have hlt:n<one.length:=by omega
  have e:ag ((n:Int)+1)=((n+1:Nat):Int):=by rw [bl (by omega) (by omega)]; omega
  simp only [tg]
  rw [if_pos (by omega),if_pos (by omega),if_pos (by omega),if_pos (by omega),if_pos (by omega),Int.toNat_natCast,Int.toNat_natCast,cF _ hlt,cF _ hi,e,ih (n+1) (by omega) k (by omega),List.drop_eq_getElem_cons hlt]
  by_cases hx:s[i]=one[n]
  · rw [if_pos (by rw [hx]),if_pos (by rw [hx]; exact List.mem_cons_self ..)]
  · rw [if_neg (fun q=>hx (UInt8.toNat_inj.1 (by omega)))]
    congr 1
    have :(s[i] ∈ one[n]::one.drop (n+1))↔s[i] ∈ one.drop (n+1):=by rw [List.mem_cons]; exact ⟨fun q=>q.elim (fun q=>absurd q hx) id, .inr⟩
    simp only [this]
theorem YT (t:List UInt8) (n:Nat) (hl:t.length<200000000000000) (h:n<t.length):Cj t ((n:Nat):Int)=some ((dL (t.drop n):Nat):Int):=by
 have e1:ag ((n:Int)+1)=((n+1:Nat):Int):=by rw [bl (by omega) (by omega)]; omega
 have e2:ag ((n:Int)+2)=((n+2:Nat):Int):=by rw [bl (by omega) (by omega)]; omega
 refine b6 50 fun k hk=> ?_
 obtain ⟨k,rfl⟩: ∃ j,k=j+8:=⟨k - 8,by omega⟩
 have hone:=V8 t n h ic (by decide) 20 0 (by decide) k (by omega)
 have k1:ag ((0:Int)+1)=1:=by decide
 have k2:ag ((1:Int)+1)=2:=by decide
 have k3:ag ((2:Int)+1)=3:=by decide
 have k4:ag ((3:Int)+1)=4:=by decide
 have k5:ag ((4:Int)+1)=5:=by decide
 have k6:ag ((5:Int)+1)=6:=by decide
 have k7:ag ((6:Int)+1)=7:=by decide
 have Lg:tg k t ((n:Nat):Int) ic 0=some (if t[n] ∈ ic then 1 else 0):=hone
 have fin:some (if t[n] ∈ ic then (1:Int) else 0)=some (((if t[n] ∈ ic then 1 else 0:Nat)):Int):=by split <;> rfl
 by_cases h1:n+1<t.length
 · have g1:((n+1:Nat):Int)<(t.length:Int):=by omega
   have g2:(0:Int)≤((n+2:Nat):Int):=by omega
   have g3:((n+2:Nat):Int)≤(t.length:Int):=by omega
   have g4:(0:Int)≤(n:Int):=by omega
   have g5:(n:Int)≤((n+2:Nat):Int):=by omega
   have hm: [t[n],t[n+1]] ∈ iL↔([t[n],t[n+1]]=nq∨ [t[n],t[n+1]]=fC∨ [t[n],t[n+1]]=fA∨ [t[n],t[n+1]]=fE∨ [t[n],t[n+1]]=fD∨ [t[n],t[n+1]]=fy∨ [t[n],t[n+1]]=fB):=by
    unfold iL
    rw [List.mem_cons,List.mem_cons,List.mem_cons,List.mem_cons,List.mem_cons,List.mem_cons,List.mem_singleton]
   have q0:(0:Int)<(([nq,fC,fA,fE,fD,fy,fB].length:Nat):Int):=by decide
   have q1:(1:Int)<(([nq,fC,fA,fE,fD,fy,fB].length:Nat):Int):=by decide
   have q2:(2:Int)<(([nq,fC,fA,fE,fD,fy,fB].length:Nat):Int):=by decide
   have q3:(3:Int)<(([nq,fC,fA,fE,fD,fy,fB].length:Nat):Int):=by decide
   have q4:(4:Int)<(([nq,fC,fA,fE,fD,fy,fB].length:Nat):Int):=by decide
   have q5:(5:Int)<(([nq,fC,fA,fE,fD,fy,fB].length:Nat):Int):=by decide
   have q6:(6:Int)<(([nq,fC,fA,fE,fD,fy,fB].length:Nat):Int):=by decide
   simp only [Ck,vq,D0,k1,k2,k3,k4,k5,k6,k7,e1,e2,g1,g2,g3,g4,g5,if_true,JA t n h1,Lg,Oe t n h1]
   simp only [show (0:Int)<7 by decide,show (1:Int)<7 by decide,show (2:Int)<7 by decide,show (3:Int)<7 by decide,show (4:Int)<7 by decide,show (5:Int)<7 by decide,show (6:Int)<7 by decide,show ¬ (7:Int)<7 by decide,show (0:Int)≤0 by decide,show (0:Int)≤1 by decide,show (0:Int)≤2 by decide,show (0:Int)≤3 by decide,show (0:Int)≤4 by decide,show (0:Int)≤5 by decide,show (0:Int)≤6 by decide,if_true,if_false,q0,q1,q2,q3,q4,q5,q6]
   simp only [hm]
   by_cases p0: [t[n],t[n+1]]=nq
   · rw [if_pos (by exact p0),if_pos (.inl p0)]; rfl
   · rw [if_neg (by exact p0)]
     by_cases p1: [t[n],t[n+1]]=fC
     · rw [if_pos (by exact p1),if_pos (.inr (.inl p1))]; rfl
     · rw [if_neg (by exact p1)]
       by_cases p2: [t[n],t[n+1]]=fA
       · rw [if_pos (by exact p2),if_pos (.inr (.inr (.inl p2)))]; rfl
       · rw [if_neg (by exact p2)]
         by_cases p3: [t[n],t[n+1]]=fE
         · rw [if_pos (by exact p3),if_pos (.inr (.inr (.inr (.inl p3))))]; rfl
         · rw [if_neg (by exact p3)]
           by_cases p4: [t[n],t[n+1]]=fD
           · rw [if_pos (by exact p4),if_pos (.inr (.inr (.inr (.inr (.inl p4)))))]; rfl
           · rw [if_neg (by exact p4)]
             by_cases p5: [t[n],t[n+1]]=fy
             · rw [if_pos (by exact p5),if_pos (.inr (.inr (.inr (.inr (.inr (.inl p5))))))]; rfl
             · rw [if_neg (by exact p5)]
               by_cases p6: [t[n],t[n+1]]=fB
               · rw [if_pos (by exact p6),if_pos (.inr (.inr (.inr (.inr (.inr (.inr p6))))))]; rfl
               · rw [if_neg (by exact p6)]
                 have hn: ¬ ([t[n],t[n+1]]=nq∨ [t[n],t[n+1]]=fC∨ [t[n],t[n+1]]=fA∨ [t[n],t[n+1]]=fE∨ [t[n],t[n+1]]=fD∨ [t[n],t[n+1]]=fy∨ [t[n],t[n+1]]=fB):=fun q=>q.elim p0 fun q=>q.elim p1 fun q=>q.elim p2 fun q=>q.elim p3 fun q=>q.elim p4 fun q=>q.elim p5 p6
                 rw [if_neg hn]
                 exact fin
 · have g1: ¬ ((n+1:Nat):Int)<(t.length:Int):=by omega
   simp only [Ck,vq,D0,k1,k2,k3,k4,k5,k6,k7,e1,e2,g1,if_false,Lg,Od t n (by omega:n+1=t.length)]
   simp only [show (0:Int)<7 by decide,show (1:Int)<7 by decide,show (2:Int)<7 by decide,show (3:Int)<7 by decide,show (4:Int)<7 by decide,show (5:Int)<7 by decide,show (6:Int)<7 by decide,show ¬ (7:Int)<7 by decide,if_true,if_false]
   exact fin
theorem V5 (s:List UInt8) (i:Nat) (hl:s.length<200000000000000): ∀ m n,n+m=s.length→i≤n→ ∀ k,m+1≤k→tf k s ((i:Nat):Int) 0 0 0 [] 0 ((n:Nat):Int) 0 ((i:Nat):Int) 0 [] 0=some (if i+24<cR nm s n then (ak.mk 0 0 0 [] 0,13) else (ak.mk 1 (i:Nat) (cR nm s n:Nat) (cut s ((i:Nat):Int) ((cR nm s n:Nat):Int)) 0,0)):=by
 intro m
 induction m with
 | zero=>
  intro n h hi k hk
  obtain ⟨k,rfl⟩: ∃ j,k=j+1:=⟨k - 1,by omega⟩
  simp only [tf]
  rw [if_neg (by omega),HR (by omega),bl (by omega) (by omega)]
  by_cases lF:i+24<n
  · rw [if_pos (by omega),if_pos lF]
  · rw [if_neg (by omega),if_neg lF,if_pos (by omega),if_pos (by omega),if_pos (by omega),if_pos (by omega)]
 | succ m ih=>
  intro n h hi k hk
  obtain ⟨k,rfl⟩: ∃ j,k=j+1:=⟨k - 1,by omega⟩
  have hlt:n<s.length:=by omega
  have e:ag ((n:Int)+1)=((n+1:Nat):Int):=by rw [bl (by omega) (by omega)]; omega
  simp only [tf,LU,Ej,aa]
  rw [if_pos (by omega),if_pos (by omega),if_pos (by omega),Int.toNat_natCast,cF _ hlt,e,ih (n+1) (by omega) (by omega) k (by omega)]
  have oZ:isDigit ((s[n].toNat:Nat):Int)=dg s[n]:=rfl
  have hlt':kR ((s[n].toNat:Nat):Int)=lt s[n]:=rfl
  rw [oZ,hlt',bl (by omega) (by omega)]
  cases hL:lt s[n] with
  | true=>rw [cond_true,vM hlt (by simp [nm,hL])]
  | false=>
   rw [cond_false,if_pos (by omega),if_pos (by omega)]
   cases hD:dg s[n] with
   | true=>rw [cond_true,vM hlt (by simp [nm,hD])]
   | false=>
    rw [cond_false,HQ hlt (by simp [nm,hL,hD])]
    by_cases lF:i+24<n
    · rw [if_pos (by omega),if_pos lF]
    · rw [if_neg (by omega),if_neg lF,if_pos (by omega),if_pos (by omega),if_pos (by omega),if_pos (by omega)]
noncomputable def A8 (s:List UInt8) (i j:Nat):Option (ak×Int):=
 if i+1<j∧s.getD i 0=48 then some (ak.mk 0 0 0 [] 0,11) else
  (oB (cut s ((i:Nat):Int) ((j:Nat):Int))).bind fun r=>bif !r.2 then some (ak.mk 0 0 0 [] 0,16) else some (ak.mk 2 (i:Nat) (j:Nat) (cut s ((i:Nat):Int) ((j:Nat):Int)) r.1,0)
theorem V6 (s:List UInt8) (i:Nat) (hl:s.length<200000000000000) (K4:i<s.length): ∀ m n,n+m=s.length→i≤n→ ∀ k,m+1≤k→vp k s ((i:Nat):Int) 0 0 0 [] 0 ((n:Nat):Int) 0 ((i:Nat):Int) 0 [] 0=A8 s i (cR dg s n):=by
 have Re:((s[i].toNat:Nat):Int)=48↔s[i]=48:=lB s[i] 48 (by decide)
 have tail: ∀ n,n≤s.length→i≤n→(if 1<ag ((n:Int) - (i:Int)) then
  if 0≤(i:Int) then
  if (i:Int)<(s.length:Int) then
  if ((s.getD (i:Int).toNat 0).toNat:Int)=48 then
  some (ak.mk 0 0 0 [] 0,11) else
  if 0≤(n:Int) then
  if (n:Int)≤(s.length:Int) then
  if 0≤(i:Int) then
  if (i:Int)≤(n:Int) then
  (oB (cut s (i:Int) (n:Int))).bind fun r7=>
  bif !r7.2 then
  some (ak.mk 0 0 0 [] 0,16) else
  if 0≤(n:Int) then
  if (n:Int)≤(s.length:Int) then
  if 0≤(i:Int) then
  if (i:Int)≤(n:Int) then
  some (ak.mk 2 (i:Int) (n:Int) (cut s (i:Int) (n:Int)) r7.1,0) else none else none else none else none else none else none else none else none else none else none else
  if 0≤(n:Int) then
  if (n:Int)≤(s.length:Int) then
  if 0≤(i:Int) then
  if (i:Int)≤(n:Int) then
  (oB (cut s (i:Int) (n:Int))).bind fun r8=>
  bif !r8.2 then
  some (ak.mk 0 0 0 [] 0,16) else
  if 0≤(n:Int) then
  if (n:Int)≤(s.length:Int) then
  if 0≤(i:Int) then
  if (i:Int)≤(n:Int) then
  some (ak.mk 2 (i:Int) (n:Int) (cut s (i:Int) (n:Int)) r8.1,0) else none else none else none else none else none else none else none else none)=A8 s i n:=by
  intro n hn hi
  have q0:(0:Int)≤(i:Int):=by omega
  have q1:(i:Int)<(s.length:Int):=by omega
  have q2:(0:Int)≤(n:Int):=by omega
  have q3:(n:Int)≤(s.length:Int):=by omega
  have q4:(i:Int)≤(n:Int):=by omega
  simp only [q0,q1,q2,q3,q4,if_true,Int.toNat_natCast,cF _ K4,Re]
  unfold A8
  rw [bl (by omega) (by omega),cF _ K4]
  by_cases h1:i+1<n
  · rw [if_pos (by omega)]
    by_cases h2:s[i]=48
    · rw [if_pos h2,if_pos ⟨h1,h2⟩]
    · rw [if_neg h2,if_neg (fun q=>h2 q.2)]
  · rw [if_neg (by omega),if_neg (fun q=>h1 q.1)]
 intro m
 induction m with
 | zero=>
  intro n h hi k hk
  obtain ⟨k,rfl⟩: ∃ j,k=j+1:=⟨k - 1,by omega⟩
  simp only [vp]
  rw [if_neg (by omega),HR (by omega)]
  exact tail n (by omega) hi
 | succ m ih=>
  intro n h hi k hk
  obtain ⟨k,rfl⟩: ∃ j,k=j+1:=⟨k - 1,by omega⟩
  have hlt:n<s.length:=by omega
  have e:ag ((n:Int)+1)=((n+1:Nat):Int):=by rw [bl (by omega) (by omega)]; omega
  simp only [vp,Ej,aa]
  rw [if_pos (by omega),if_pos (by omega),if_pos (by omega),Int.toNat_natCast,cF _ hlt,e,ih (n+1) (by omega) (by omega) k (by omega)]
  have oZ:isDigit ((s[n].toNat:Nat):Int)=dg s[n]:=rfl
  rw [oZ]
  cases hD:dg s[n] with
  | true=>rw [cond_true,vM hlt hD]
  | false=>
   rw [cond_false,HQ hlt hD]
   exact tail n (by omega) hi
theorem YM (t:List UInt8) (n:Nat) (hl:t.length<200000000000000) (h:n<t.length):Ci t ((n:Nat):Int)=some (ez t n):=by
 refine b6 (t.length+1) fun k hk=> ?_
 simp only [HA,LU,Ej,aa,Int.toNat_natCast,cF _ h,YT t n hl h]
 rw [if_pos (by omega),if_pos (by omega),if_pos (by omega),if_pos (by omega)]
 have oZ:isDigit ((t[n].toNat:Nat):Int)=dg t[n]:=rfl
 have hlt:kR ((t[n].toNat:Nat):Int)=lt t[n]:=rfl
 rw [oZ,hlt]
 unfold ez
 rw [cF _ h]
 cases hL:lt t[n] with
 | true=>
  rw [cond_true,V5 t n hl (t.length - n) n (by omega) (Nat.le_refl _) k (by omega),Ek _ hL,ud]
  rfl
 | false=>
  rw [cond_false]
  cases hD:dg t[n] with
  | true=>
   rw [cond_true,V6 t n hl h (t.length - n) n (by omega) (Nat.le_refl _) k (by omega)]
   have r:=tE dg t n (by omega)
   have hc:cut t ((n:Nat):Int) ((cR dg t n:Nat):Int)=(t.drop n).takeWhile dg:=ud dg t n
   have hlen:((t.drop n).takeWhile dg).length≤t.length:=by
    have :=vW dg (t.drop n); rw [List.length_drop] at this; omega
   have aa7:cR dg t n=n+((t.drop n).takeWhile dg).length:=rfl
   have hd0:((t.drop n).takeWhile dg).getD 0 0=t[n]:=by
    rw [List.drop_eq_getElem_cons h,List.takeWhile_cons_of_pos hD]; rfl
   unfold A8 oe
   rw [hc,aaK _ (by omega) (fun c hc=>Dl _ _ c hc),aa,hd0,cF _ h]
   simp only [if_true]
   by_cases h1:1<((t.drop n).takeWhile dg).length∧t[n]=48
   · rw [if_pos ⟨by omega,h1.2⟩,if_pos h1]; rfl
   · rw [if_neg (fun q=>h1 ⟨by omega,q.2⟩),if_neg h1]
     cases oJ 0 ((t.drop n).takeWhile dg) with
     | some v=>rfl
     | none=>rfl
  | false=>
   rw [cond_false]
   have hs:=vR (t.drop n)
   rw [List.length_drop] at hs
   simp only [Bool.false_eq_true,if_false]
   by_cases hz:dL (t.drop n)=0
   · rw [if_pos (by omega),if_pos hz]
   · have e:ag ((n:Int)+((dL (t.drop n):Nat):Int))=((n+dL (t.drop n):Nat):Int):=by rw [bl (by omega) (by omega)]; omega
     rw [e,if_neg (by omega),if_neg hz,if_pos (by omega),if_pos (by omega),if_pos (by omega),if_pos (by omega),Ee]
theorem NN (t:List UInt8) (n:Nat) (hl:t.length<200000000000000) (h:n≤t.length):yL t ((n:Nat):Int)=some ((cg false (t.drop n) n:Nat):Int):=
 b6 (3*(t.length - n)+1) fun k hk=>(YU t hl (t.length - n) n (by omega)).1 k hk
theorem WR (t:List UInt8) (hl:t.length≤16384): ∀ m n,t.length≤n+m→n≤t.length→(∀ h:n<t.length,t[n]≠32)→ ∀ l:List ak,l.length≤n→ ∀ k k',m+1≤k→m+1≤k'→
 s_ k t 0 0 l ((n:Nat):Int)=some (gF k' t l n):=by
 intro m
 induction m with
 | zero=>
  intro n h hn _ l Fg k k' hk hk'
  obtain ⟨k,rfl⟩: ∃ j,k=j+1:=⟨k - 1,by omega⟩
  obtain ⟨k',rfl⟩: ∃ j,k'=j+1:=⟨k' - 1,by omega⟩
  · simp only [s_,gF,List.length_cons,List.length_nil]
    rw [if_neg (by omega),if_pos (by omega),if_neg (by omega),show (t.length:Int)=(n:Int) by omega]
 | succ m ih=>
  intro n h hn hb l Fg k k' hk hk'
  obtain ⟨k,rfl⟩: ∃ j,k=j+1:=⟨k - 1,by omega⟩
  obtain ⟨k',rfl⟩: ∃ j,k'=j+1:=⟨k' - 1,by omega⟩
  by_cases hlt:n<t.length
  · have hi:(n:Int)<(t.length:Int):=by omega
    have E1:(l.length+(0+1))*48≤140737488355328:=by omega
    simp only [s_,gF,List.length_cons,List.length_nil,hi,hlt,if_true,YM t n (by omega) hlt,aa,E1]
    by_cases hz:(ez t n).2=0
    · simp only [hz,ne_eq,not_true_eq_false,if_false]
      obtain ⟨e,he,h1,h2,_⟩:=Dk t n hlt hz
      simp only [he,NN t e (by omega) h2,aa,Int.toNat_natCast]
      have hg:=qW (t.drop e) false e
      rw [List.length_drop] at hg
      exact ih _ (by omega) (by omega) (fun hh=>Ae t e h2 hh) _ (by rw [List.length_append,List.length_singleton]; omega) k k' (by omega) (by omega)
    · simp only [hz,ne_eq,not_false_eq_true,if_true]
  · · simp only [s_,gF,List.length_cons,List.length_nil]
      rw [if_neg (by omega),if_pos (by omega),if_neg hlt,show (t.length:Int)=(n:Int) by omega]
theorem WO (t:List UInt8):Cf t=some (iY t):=by
 refine b6 (t.length+1) fun k hk=> ?_
 unfold Hx iY
 by_cases hl:16384<t.length
 · rw [if_pos (by omega),if_pos hl]
 · have hg:=qW t false 0
   rw [if_neg (by omega),if_neg hl,show (0:Int)=((0:Nat):Int) from rfl,NN t 0 (by omega) (Nat.zero_le _),aa]
   exact (WR t (by omega) t.length _ (by omega) (by rw [List.drop_zero]; omega) (fun hh=>Ae t 0 (Nat.zero_le _) hh) [] (Nat.zero_le _) k _ (by omega) (by omega))
end Go.Sy.Ex
namespace Go.Sy.Ex
open Go.Sy
def rs (l:List ak) (i o:Nat):aU:=⟨l,(i:Int),(o:Int),⟨0,0⟩⟩
def fR (t:ak):aL:=if t.Kind=4 then ⟨12,t.At⟩ else ⟨11,t.At⟩
theorem nM (t:ak):(fR t).Code≠0:=by unfold fR; split <;> (dsimp only; decide)
section
variable {l:List ak} {i o:Nat}
theorem pO (hi:i<l.length) (s:List UInt8):k9 (rs l i o) s=some (aS (aj l i) s,rs l i o):=by
 have h:eT l ((i:Nat):Int) s=some (aS (aj l i) s):=by
  unfold eT aS
  have e:l.getD ((i:Nat):Int).toNat ak.z=aj l i:=by rw [Int.toNat_natCast]; rfl
  rw [e]
  have a1:((i:Nat):Int)<(l.length:Int):=by omega
  have a2:0≤((i:Nat):Int):=by omega
  simp only [a1,a2,if_true]
  by_cases h3:(aj l i).Kind=3
  · rw [if_pos h3]; congr 1; rw [decide_eq_decide]; simp [h3]
  · rw [if_neg h3]
    by_cases h1:(aj l i).Kind=1
    · rw [if_pos h1]; congr 1; rw [decide_eq_decide]; simp [h1]
    · rw [if_neg h1]; congr 1; symm; rw [decide_eq_false_iff_not]; rintro ⟨h | h,_⟩ <;> contradiction
 show (eT l ((i:Nat):Int) s).bind _=_
 rw [h,aa]
theorem vf (hi:i<l.length):kC l ((i:Nat):Int)=some (fR (aj l i)):=by
 unfold kC fR
 have e:l.getD ((i:Nat):Int).toNat ak.z=aj l i:=by rw [Int.toNat_natCast]; rfl
 rw [e]
 have a1:((i:Nat):Int)<(l.length:Int):=by omega
 have a2:0≤((i:Nat):Int):=by omega
 simp only [a1,a2,if_true]
 split <;> rfl
theorem HW (hi:i<l.length):pJ (rs l i o)=some (ai.mk 0 0 [] [] 0,aU.mk l (i:Int) (o:Int) (fR (aj l i))):=by
 unfold pJ
 rw [if_pos (by rfl)]
 show (kC l ((i:Nat):Int)).bind _=_
 rw [vf hi,aa]; rfl
theorem Iv (hi:i<l.length):lU (st l i o)=some (aK.mk (bg.mk l (i:Int) (fR (aj l i))) (o:Int)):=by
 unfold lU
 rw [jj hi,aa]
 dsimp only
 unfold fR
 by_cases h4:(aj l i).Kind=4
 · rw [if_pos h4,if_pos h4]
   unfold nc
   rw [uT,aa]
   rfl
 · rw [if_neg h4,if_neg h4]
   unfold nc
   rw [uT,aa]
   rfl
theorem Iq (hi:i<l.length) (hl:l.length≤100000) {s:List UInt8} (h:aS (aj l i) s=false):jP (st l i o) s=some (aK.mk (bg.mk l (i:Int) (fR (aj l i))) (o:Int)):=by
 unfold jP
 rw [y_ hi hl,aa,h]
 dsimp only [Bool.not_false,cond_true]
 rw [if_neg (by decide),Iv hi,aa]
 rfl
theorem CD (hi:i<l.length) (hl:l.length≤100000) {s:List UInt8} (h:aS (aj l i) s=true):jq (rs l i o) s=some (rs l (i+1) o):=by
 unfold jq
 rw [if_neg (by intro q; exact q rfl),pO hi,aa,h]
 show some (aU.mk l (ag ((i:Int)+1)) (o:Int) ⟨0,0⟩)=_
 rw [dS hi hl]; rfl
theorem HV (hi:i<l.length) {s:List UInt8} (h:aS (aj l i) s=false):jq (rs l i o) s=some (aU.mk l (i:Int) (o:Int) (fR (aj l i))):=by
 unfold jq
 rw [if_neg (by intro q; exact q rfl),pO hi,aa,h]
 dsimp only [Bool.not_false,cond_true]
 rw [HW hi,aa]
 rfl
theorem tC (hi:i<l.length):ni l ((i:Nat):Int)=some (decide ((aj l i).Kind=1)&& !ep (aj l i).Text):=by
 unfold ni
 have e:l.getD ((i:Nat):Int).toNat ak.z=aj l i:=by rw [Int.toNat_natCast]; rfl
 rw [e]
 have a1:((i:Nat):Int)<(l.length:Int):=by omega
 have a2:0≤((i:Nat):Int):=by omega
 simp only [a1,a2,if_true]
 by_cases h1:(aj l i).Kind=1
 · rw [if_pos h1,YR,aa,decide_eq_true h1,Bool.true_and]
 · rw [if_neg h1,decide_eq_false h1,Bool.false_and]
theorem yW (hi:i<l.length) (hl:l.length≤100000) (ho:o<12):jo (rs l i o)=some (true,rs l (i+1) (o+1)):=by
 unfold jo
 rw [if_neg (by show ¬ ((o:Nat):Int)=12; omega)]
 show some (true,aU.mk l (ag ((i:Int)+1)) (ag ((o:Int)+1)) ⟨0,0⟩)=_
 rw [dS hi hl,show ag (((o:Nat):Int)+1)=((o+1:Nat):Int) from by rw [bl (by omega) (by omega)]; omega]
 rfl
theorem Nz (hi:i<l.length):jo (rs l i 12)=some (false,aU.mk l (i:Int) 12 ⟨14,(aj l i).At⟩):=by
 unfold jo
 rw [if_pos (by rfl),if_pos (by show (0:Int)≤(i:Int); omega),if_pos (by show ((i:Nat):Int)<(l.length:Int); omega)]
 show some (false,aU.mk l (i:Int) 12 ⟨14,(l.getD ((i:Nat):Int).toNat ak.z).At⟩)=_
 rw [Int.toNat_natCast]; rfl
theorem JH (a:Int):ki (st l i 12) a=some (false,aK.mk (bg.mk l (i:Int) ⟨14,a⟩) 12):=by
 unfold ki
 rw [if_pos (by rfl)]
 unfold nc
 rw [uT,aa]
 rfl
end
section
variable {s:aK} (h:s.Row.bk.Code≠0)
include h
theorem Gg:oA s=some (false,s):=by unfold oA; rw [decide_eq_false h]
theorem x6:iO s=some (ak.mk 4 0 0 [] 0,s):=by
 unfold iO; rw [Gg h,aa]; rfl
theorem UD (x:List UInt8):kW s x=some (false,s):=by
 unfold kW; rw [x6 h,aa]; rfl
theorem ZT (x:List UInt8):nh s x=some (false,s):=by
 unfold nh; rw [UD h,aa]; rfl
theorem Sj (c a:Int):nc s c a=some s:=by
 unfold nc; rw [Gg h,aa]; rfl
theorem O7:lU s=some s:=by
 unfold lU; rw [x6 h,aa]
 dsimp only
 rw [if_pos rfl,Sj h,aa]
theorem Ip (x:List UInt8):jP s x=some s:=by
 unfold jP; rw [ZT h,aa]
 dsimp only [Bool.not_false,cond_true]
 rw [O7 h,aa]
 rfl
theorem UE:pG s=some (false,s):=by
 unfold pG; rw [x6 h,aa]; rfl
theorem VP:ng s=some ([],s):=by
 unfold ng; rw [UE h,aa]
 dsimp only [Bool.not_false,cond_true]
 rw [O7 h,aa]
 rfl
end
theorem Y_ {s:aU} (h:s.bad.Code≠0) (x:List UInt8):jq s x=some s:=by unfold jq; rw [if_pos h]
theorem JX (s:aK):aK.mk (bg.mk s.Row.L s.Row.At (aL.mk s.Row.bk.Code s.Row.bk.At)) s.aR=s:=by cases s; rename_i r o; cases r; rename_i l a f; cases f; rfl
theorem ND (s:aU):aU.mk s.l s.an s.aR (aL.mk s.bad.Code s.bad.At)=s:=by cases s; rename_i l a o f; cases f; rfl
def Fe:Nat→ai→Prop
 | 0,_=>False
 | n+1,e=>e.Kids.length≤2∧ ∀ x ∈ e.Kids,Fe n x
def Fd (e:ai):Prop:= ∃ n,Fe n e
theorem Fe.up: ∀ {n m:Nat} {e:ai},Fe n e→n≤m→Fe m e
 | 0,_,_,h,_=>h.elim
 | n+1,0,_,_,h=>by omega
 | n+1,m+1,e,⟨h1,h4⟩,h=>⟨h1,fun x hx=>Fe.up (h4 x hx) (by omega)⟩
theorem Fd.leaf {e:ai} (h:e.Kids= []):Fd e:=⟨1,by rw [h]; decide,by rw [h]; intro x hx; cases hx⟩
theorem Fd.one {e x:ai} (h:e.Kids= [x]) (hx:Fd x):Fd e:=by
 obtain ⟨n,hn⟩:=hx
 exact ⟨n+1,by rw [h]; simp,by rw [h]; intro y hy; rw [List.mem_singleton] at hy; subst hy; exact hn⟩
theorem Fd.two {e x y:ai} (h:e.Kids= [x,y]) (hx:Fd x) (hy:Fd y):Fd e:=by
 obtain ⟨n,hn⟩:=hx
 obtain ⟨m,hm⟩:=hy
 refine ⟨max n m+1,by rw [h]; simp, ?_⟩
 rw [h]; intro z hz
 simp only [List.mem_cons,List.not_mem_nil,or_false] at hz
 rcases hz with rfl | rfl
 · exact hn.up (by omega)
 · exact hm.up (by omega)
def Out (l:List ak) (i o:Nat) (f:Nat→Nat→Option (ai×aK)) (g:Nat→Nat→Option (ai×aU)):Prop:=
 (∃ e i' Z,i≤i'∧i'<l.length∧Fd e∧(∀ k,Z≤k→ ∀ k2,Z≤k2→f k k2=some (e,st l i' o))∧ ∀ k,Z≤k→ ∀ k2,Z≤k2→g k k2=some (e,rs l i' o))∨
 (∃ e s e' s' Z,s.Row.bk.Code≠0∧s'.bad=s.Row.bk∧(∀ k,Z≤k→ ∀ k2,Z≤k2→f k k2=some (e,s))∧ ∀ k,Z≤k→ ∀ k2,Z≤k2→g k k2=some (e',s'))
def R (l:List ak) (m:Int) (i o:Nat):Prop:=Out l (i+1) o (fun k _=>d_ k (st l i o) m) (fun k _=>f_ k (rs l i o) m)
def SG (l:List ak) (i o:Nat):Prop:=Out l (i+1) o (fun k k2=>ja (d_ k) k2 (st l i o)) (fun k k2=>lX (f_ k) k2 (rs l i o))
structure Ok (l:List ak):Prop where
 len:l.length≤100000
 word: ∀ i,(aj l i).Kind=1→(aj l i).Text≠bM
 more: ∀ i,i<l.length→(aj l i).Kind≠4→i+1<l.length
theorem jE {l:List ak} {i0 o:Nat} {f:Nat→Nat→Option (ai×aK)} {g:Nat→Nat→Option (ai×aU)} {e:ai} {s:aK} {e':ai} {s':aU} (Z:Nat) (h1:s.Row.bk.Code≠0) (h2:s'.bad=s.Row.bk) (hf: ∀ k,Z≤k→ ∀ k2,Z≤k2→f k k2=some (e,s)) (hg: ∀ k,Z≤k→ ∀ k2,Z≤k2→g k k2=some (e',s')):Out l i0 o f g:= .inr ⟨e,s,e',s',Z,h1,h2,hf,hg⟩
section
variable {l:List ak} (H:Ok l)
include H
theorem PR {i o:Nat} (hi:i<l.length) (ho:o≤12) (IH: ∀ j o',i<j→j<l.length→o'≤12→R l 1 j o'):
 Out l (i+1) o (fun k _=>iD (d_ k) (st l i o)) (fun k _=>kG (f_ k) (rs l i o)):=by
 have hl:=H.len
 have more:=fun h4=>H.more i hi h4
 have a1:((i:Nat):Int)<(l.length:Int):=by omega
 have a2:0≤((i:Nat):Int):=by omega
 have et:l.getD ((i:Nat):Int).toNat ak.z=aj l i:=by rw [Int.toNat_natCast]; rfl
 have rst: ∀ i' o',aU.mk l ((i':Nat):Int) ((o':Nat):Int) ⟨0,0⟩=rs l i' o':=fun _ _=>rfl
 have f0: ∀ self,iD self (st l i o)=(if (aj l i).Kind=2 then
  some (ai.mk 1 (aj l i).N [] [] (aj l i).At,st l (i+1) o) else
  bif aS (aj l i) kI then some (ai.mk 3 0 [] [] (aj l i).At,st l (i+1) o) else
  bif decide ((aj l i).Kind=1)&& !ep (aj l i).Text then some (ai.mk 2 0 (aj l i).Text [] (aj l i).At,st l (i+1) o) else
  bif aS (aj l i) iR then
  (jP (st l (i+1) o) bM).bind fun r6=>
  (ng r6).bind fun r7=>
  (jP r7.2 bD).bind fun r8=>
  some (ai.mk 4 0 r7.1 [] (aj l i).At,r8) else
  bif !aS (aj l i) bM then
  (lU (st l i o)).bind fun bJ=>
  some (ai.mk 0 0 [] [] 0,bJ) else
  (ki (st l i o) (aj l i).At).bind fun bU=>
  bif !bU.1 then
  some (ai.mk 0 0 [] [] 0,bU.2) else
  (self bU.2 1).bind fun bS=>
  (jP bS.2 bD).bind fun bY=>
  some (ai.mk bS.1.Kind bS.1.N bS.1.Name bS.1.Kids bS.1.At,aK.mk bY.Row (ag (bY.aR - 1)))):=fun self=>by
  unfold iD
  rw [jj hi,aa]
  dsimp only
  by_cases k2:(aj l i).Kind=2
  · rw [if_pos k2,if_pos k2]
    show some (_,(⟨⟨l,ag (((i:Nat):Int)+1),⟨0,0⟩⟩,(o:Int)⟩:aK))=_
    rw [dS hi hl]; rfl
  rw [if_neg k2,if_neg k2,y_ hi hl,aa]
  dsimp only
  cases aS (aj l i) kI with
  | true=>rfl
  | false=>
   rw [cond_false,cond_false,if_neg (by decide),uN hi,aa]
   dsimp only
   cases hn:(decide ((aj l i).Kind=1)&& !ep (aj l i).Text) with
   | true=>
    rw [Bool.and_eq_true,decide_eq_true_eq,Bool.not_eq_true'] at hn
    rw [cond_true,cond_true,A6 hi hl hn.1 hn.2,aa]
   | false=>
    rw [cond_false,cond_false,y_ hi hl,aa]
    dsimp only
    cases aS (aj l i) iR with
    | true=>rfl
    | false=>
     rw [cond_false,cond_false,if_neg (by decide),xR hi,aa]
 have g0: ∀ self,kG self (rs l i o)=(if (aj l i).Kind=2 then
  some (ai.mk 1 (aj l i).N [] [] (aj l i).At,rs l (i+1) o) else
  bif aS (aj l i) kI then some (ai.mk 3 0 [] [] (aj l i).At,rs l (i+1) o) else
  bif aS (aj l i) iR then
  (jq (rs l (i+1) o) bM).bind fun r3=>
  if r3.bad.Code≠0 then
  some (ai.mk 0 0 [] [] 0,r3) else
  (ni r3.l r3.an).bind fun r4=>
  bif !r4 then
  (pJ r3).bind fun r5=>
  some (ai.mk r5.1.Kind r5.1.N r5.1.Name r5.1.Kids r5.1.At,r5.2) else
  if 0≤r3.an then
  if r3.an<(r3.l.length:Int) then
  (jq (aU.mk r3.l (ag (r3.an+1)) r3.aR r3.bad) bD).bind fun r6=>
  some (ai.mk 4 0 ((r3.l.getD r3.an.toNat ak.z).Text) [] (aj l i).At,r6) else none else none else
  bif aS (aj l i) bM then
  (jo (rs l i o)).bind fun r8=>
  bif !r8.1 then
  some (ai.mk 0 0 [] [] 0,r8.2) else
  (self r8.2 1).bind fun r9=>
  (jq r9.2 bD).bind fun bJ=>
  some (ai.mk r9.1.Kind r9.1.N r9.1.Name r9.1.Kids r9.1.At,aU.mk bJ.l bJ.an (ag (bJ.aR - 1)) bJ.bad) else
  bif decide ((aj l i).Kind=1)&& !ep (aj l i).Text then
  some (ai.mk 2 0 (aj l i).Text [] (aj l i).At,rs l (i+1) o) else
  some (ai.mk 0 0 [] [] 0,aU.mk l (i:Int) (o:Int) (fR (aj l i)))):=fun self=>by
  unfold kG
  have A9:aU.mk l (ag ((i:Int)+1)) (o:Int) ⟨0,0⟩=rs l (i+1) o:=by rw [dS hi hl]; rfl
  have q1:(rs l i o).an=(i:Int):=rfl
  have q2:(rs l i o).l=l:=rfl
  have q3:(rs l i o).aR=(o:Int):=rfl
  have q4:(rs l i o).bad=⟨0,0⟩:=rfl
  rw [q1,q2,q3,q4,et,A9,if_pos a2,if_pos a1,pO hi,aa]
  by_cases k2:(aj l i).Kind=2
  · rw [if_pos k2,if_pos k2]
  rw [if_neg k2,if_neg k2]
  dsimp only
  rw [q1,q2,q3,q4,A9]
  cases aS (aj l i) kI with
  | true=>rfl
  | false=>
   rw [cond_false,cond_false,pO hi,aa]
   dsimp only
   rw [q1,q2,q3,q4,A9]
   cases aS (aj l i) iR with
   | true=>rfl
   | false=>
    rw [cond_false,cond_false,pO hi,aa]
    dsimp only
    cases aS (aj l i) bM with
    | true=>rfl
    | false=>
     rw [cond_false,cond_false,q1,q2,q3,q4,A9,tC hi,aa,HW hi,aa]
 by_cases k2:(aj l i).Kind=2
 · refine .inl ⟨ai.mk 1 (aj l i).N [] [] (aj l i).At,i+1,0,Nat.le_refl _,more (by omega),Fd.leaf rfl,fun k _ _ _=> ?_,fun k _ _ _=> ?_⟩
   · (try dsimp only); rw [f0,if_pos k2]
   · (try dsimp only); rw [g0,if_pos k2]
 cases hd:aS (aj l i) kI with
 | true=>
  have hk:=(of_decide_eq_true hd).1
  refine .inl ⟨ai.mk 3 0 [] [] (aj l i).At,i+1,0,Nat.le_refl _,more (by omega),Fd.leaf rfl,fun k _ _ _=> ?_,fun k _ _ _=> ?_⟩
  · (try dsimp only); rw [f0,if_neg k2,hd,cond_true]
  · (try dsimp only); rw [g0,if_neg k2,hd,cond_true]
 | false=>
  cases hn:(decide ((aj l i).Kind=1)&& !ep (aj l i).Text) with
  | true=>
   have hn':=hn
   rw [Bool.and_eq_true,decide_eq_true_eq,Bool.not_eq_true'] at hn'
   have n1:aS (aj l i) iR=false:=by
    unfold aS; rw [decide_eq_false_iff_not]; rintro ⟨_,q⟩; rw [q] at hn'; exact absurd hn'.2 (by decide)
   have n2:aS (aj l i) bM=false:=by
    unfold aS; rw [decide_eq_false_iff_not]; rintro ⟨_,q⟩; exact H.word i hn'.1 q
   refine .inl ⟨ai.mk 2 0 (aj l i).Text [] (aj l i).At,i+1,0,Nat.le_refl _,more (by omega),Fd.leaf rfl,fun k _ _ _=> ?_,fun k _ _ _=> ?_⟩
   · (try dsimp only); rw [f0,if_neg k2,hd,cond_false,hn,cond_true]
   · (try dsimp only); rw [g0,if_neg k2,hd,cond_false,n1,cond_false,n2,cond_false,hn,cond_true]
  | false=>
   cases hin:aS (aj l i) iR with
   | true=>
    have hk:=(of_decide_eq_true hin).1
    have hm:=more (by omega)
    cases gv:aS (aj l (i+1)) bM with
    | false=>
     refine jE 0 (e:=ai.mk 4 0 [] [] (aj l i).At) (s:=aK.mk (bg.mk l ((i+1:Nat):Int) (fR (aj l (i+1)))) (o:Int)) (e':=ai.mk 0 0 [] [] 0) (s':=aU.mk l ((i+1:Nat):Int) (o:Int) (fR (aj l (i+1)))) (nM _) rfl (fun k _ _ _=> ?_) (fun k _ _ _=> ?_)
     · (try dsimp only); rw [f0,if_neg k2,hd,cond_false,hn,cond_false,hin,cond_true,Iq hm hl gv,aa,VP (nM _),aa]
       dsimp only
       rw [Ip (nM _),aa]
     · (try dsimp only); rw [g0,if_neg k2,hd,cond_false,hin,cond_true,HV hm gv,aa,if_pos (nM _)]
    | true=>
     have hk':=(of_decide_eq_true gv).1
     have hm2:=H.more (i+1) hm (by omega)
     have b1:(rs l (i+1) o).bad.Code=0:=rfl
     have b2:(rs l (i+1) o).l=l:=rfl
     have b3:(rs l (i+1) o).an=((i+1:Nat):Int):=rfl
     cases hnm:(decide ((aj l (i+1+1)).Kind=1)&& !ep (aj l (i+1+1)).Text) with
     | false=>
      refine jE 0 (e:=ai.mk 4 0 [] [] (aj l i).At) (s:=aK.mk (bg.mk l ((i+1+1:Nat):Int) (fR (aj l (i+1+1)))) (o:Int)) (e':=ai.mk 0 0 [] [] 0) (s':=aU.mk l ((i+1+1:Nat):Int) (o:Int) (fR (aj l (i+1+1)))) (nM _) rfl (fun k _ _ _=> ?_) (fun k _ _ _=> ?_)
      · (try dsimp only); rw [f0,if_neg k2,hd,cond_false,hn,cond_false,hin,cond_true,tL hm hl gv,aa]
        have hname:ng (st l (i+1+1) o)=some ([],aK.mk (bg.mk l ((i+1+1:Nat):Int) (fR (aj l (i+1+1)))) (o:Int)):=by
         unfold ng
         rw [uN hm2,aa,hnm]
         dsimp only [Bool.not_false,cond_true]
         rw [Iv hm2,aa]
         rfl
        rw [hname,aa]
        dsimp only
        rw [Ip (nM _),aa]
      · (try dsimp only); rw [g0,if_neg k2,hd,cond_false,hin,cond_true,CD hm hl gv,aa,if_neg (by intro q; exact q rfl)]
        show (ni l ((i+1+1:Nat):Int)).bind _=_
        rw [tC hm2,hnm,aa]
        rw [Bool.not_false,cond_true]
        rw [HW hm2,aa]
     | true=>
      have Fh:=hnm
      rw [Bool.and_eq_true,decide_eq_true_eq,Bool.not_eq_true'] at Fh
      have gW:=H.more (i+1+1) hm2 (by omega)
      have nT: ∀ self,iD self (st l i o)=(jP (st l (i+1+1+1) o) bD).bind fun r8=>some (ai.mk 4 0 (aj l (i+1+1)).Text [] (aj l i).At,r8):=fun self=>by
       rw [f0,if_neg k2,hd,cond_false,hn,cond_false,hin,cond_true,tL hm hl gv,aa,A6 hm2 hl Fh.1 Fh.2,aa]
      have nU: ∀ self,kG self (rs l i o)=(jq (rs l (i+1+1+1) o) bD).bind fun r6=>some (ai.mk 4 0 (aj l (i+1+1)).Text [] (aj l i).At,r6):=fun self=>by
       rw [g0,if_neg k2,hd,cond_false,hin,cond_true,CD hm hl gv,aa,if_neg (by intro q; exact q rfl)]
       show (ni l ((i+1+1:Nat):Int)).bind _=_
       rw [tC hm2,hnm,aa]
       rw [Bool.not_true,cond_false]
       rw [if_pos (by show (0:Int)≤((i+1+1:Nat):Int); omega),if_pos (by show ((i+1+1:Nat):Int)<(l.length:Int); omega)]
       show (jq (aU.mk l (ag (((i+1+1:Nat):Int)+1)) (o:Int) ⟨0,0⟩) bD).bind _=_
       rw [dS hm2 hl]
       rfl
      cases iI:aS (aj l (i+1+1+1)) bD with
      | false=>
       refine jE 0 (e:=ai.mk 4 0 (aj l (i+1+1)).Text [] (aj l i).At) (s:=aK.mk (bg.mk l ((i+1+1+1:Nat):Int) (fR (aj l (i+1+1+1)))) (o:Int)) (e':=ai.mk 4 0 (aj l (i+1+1)).Text [] (aj l i).At) (s':=aU.mk l ((i+1+1+1:Nat):Int) (o:Int) (fR (aj l (i+1+1+1)))) (nM _) rfl (fun k _ _ _=> ?_) (fun k _ _ _=> ?_)
       · (try dsimp only); rw [nT,Iq gW hl iI,aa]
       · (try dsimp only); rw [nU,HV gW iI,aa]
      | true=>
       have TF:=(of_decide_eq_true iI).1
       refine .inl ⟨ai.mk 4 0 (aj l (i+1+1)).Text [] (aj l i).At,i+1+1+1+1,0,by omega,H.more _ gW (by omega),Fd.leaf rfl,fun k _ _ _=> ?_,fun k _ _ _=> ?_⟩
       · (try dsimp only); rw [nT,tL gW hl iI,aa]
       · (try dsimp only); rw [nU,CD gW hl iI,aa]
   | false=>
    cases gv:aS (aj l i) bM with
    | false=>
     refine jE 0 (e:=ai.mk 0 0 [] [] 0) (s:=aK.mk (bg.mk l (i:Int) (fR (aj l i))) (o:Int)) (e':=ai.mk 0 0 [] [] 0) (s':=aU.mk l (i:Int) (o:Int) (fR (aj l i))) (nM _) rfl (fun k _ _ _=> ?_) (fun k _ _ _=> ?_)
     · (try dsimp only); rw [f0,if_neg k2,hd,cond_false,hn,cond_false,hin,cond_false,gv,Bool.not_false,cond_true,Iv hi,aa]
     · (try dsimp only); rw [g0,if_neg k2,hd,cond_false,hin,cond_false,gv,cond_false,hn,cond_false]
    | true=>
     have hk:=(of_decide_eq_true gv).1
     have hm:=more (by omega)
     have nT: ∀ self,iD self (st l i o)=_:=fun self=>by
      rw [f0,if_neg k2,hd,cond_false,hn,cond_false,hin,cond_false,gv,Bool.not_true,cond_false]
     have nU: ∀ self,kG self (rs l i o)=_:=fun self=>by
      rw [g0,if_neg k2,hd,cond_false,hin,cond_false,gv,cond_true]
     by_cases h12:o=12
     · subst h12
       refine jE 0 (e:=ai.mk 0 0 [] [] 0) (s:=aK.mk (bg.mk l (i:Int) ⟨14,(aj l i).At⟩) 12) (e':=ai.mk 0 0 [] [] 0) (s':=aU.mk l (i:Int) 12 ⟨14,(aj l i).At⟩) (by show (14:Int)≠0; decide) rfl (fun k _ _ _=> ?_) (fun k _ _ _=> ?_)
       · (try dsimp only); rw [nT,JH,aa]; rfl
       · (try dsimp only); rw [nU,Nz hi,aa]; rfl
     · have hw:ag (((o+1:Nat):Int) - 1)=(o:Int):=by rw [bl (by omega) (by omega)]; omega
       rcases IH (i+1) (o+1) (by omega) hm (by omega) with ⟨e,i',Z,h1,h2,h3,hf,hg⟩ | ⟨e,s,e',s',Z,h1,h2,hf,hg⟩
       · cases iI:aS (aj l i') bD with
         | false=>
          refine jE Z (e:=e) (s:=aK.mk (bg.mk l ((i':Nat):Int) (fR (aj l i'))) (ag (((o+1:Nat):Int) - 1))) (e':=e) (s':=aU.mk l ((i':Nat):Int) (ag (((o+1:Nat):Int) - 1)) (fR (aj l i'))) (nM _) rfl (fun k hk _ hk2=> ?_) (fun k hk _ hk2=> ?_)
          · have hf':=hf k hk _ hk2
            dsimp only at hf' ⊢; rw [nT,qj hi hl (by omega),aa]
            dsimp only [Bool.not_true,cond_false]
            rw [hf',aa,Iq h2 hl iI,aa,eta]
            rfl
          · have hg':=hg k hk _ hk2
            dsimp only at hg' ⊢; rw [nU,yW hi hl (by omega),aa]
            dsimp only [Bool.not_true,cond_false]
            rw [hg',aa,HV h2 iI,aa,eta]
            rfl
         | true=>
          have TF:=(of_decide_eq_true iI).1
          refine .inl ⟨e,i'+1,Z,by omega,H.more _ h2 (by omega),h3,fun k hk _ hk2=> ?_,fun k hk _ hk2=> ?_⟩
          · have hf':=hf k hk _ hk2
            dsimp only at hf' ⊢; rw [nT,qj hi hl (by omega),aa]
            dsimp only [Bool.not_true,cond_false]
            rw [hf',aa,tL h2 hl iI,aa,eta]
            show some (e,(⟨⟨l,((i'+1:Nat):Int),⟨0,0⟩⟩,ag (((o+1:Nat):Int) - 1)⟩:aK))=_
            rw [hw]; rfl
          · have hg':=hg k hk _ hk2
            dsimp only at hg' ⊢; rw [nU,yW hi hl (by omega),aa]
            dsimp only [Bool.not_true,cond_false]
            rw [hg',aa,CD h2 hl iI,aa,eta]
            show some (e,(⟨l,((i'+1:Nat):Int),ag (((o+1:Nat):Int) - 1),⟨0,0⟩⟩:aU))=_
            rw [hw]; rfl
       · refine jE Z (e:=e) (s:=aK.mk s.Row (ag (s.aR - 1))) (e':=e') (s':=aU.mk s'.l s'.an (ag (s'.aR - 1)) s'.bad) h1 h2 (fun k hk _ hk2=> ?_) (fun k hk _ hk2=> ?_)
         · have hf':=hf k hk _ hk2
           dsimp only at hf' ⊢; rw [nT,qj hi hl (by omega),aa]
           dsimp only [Bool.not_true,cond_false]
           rw [hf',aa,Ip h1,aa,eta]
           rfl
         · have hg':=hg k hk _ hk2
           dsimp only at hg' ⊢; rw [nU,yW hi hl (by omega),aa]
           dsimp only [Bool.not_true,cond_false]
           rw [hg',aa,Y_ (by rw [h2]; exact h1),aa,eta]
           rfl
theorem Pt {i o:Nat} (hi:i<l.length) (ho:o≤12) (IH: ∀ j o',i<j→j<l.length→o'≤12→R l 1 j o') (IS: ∀ j o',i<j→j<l.length→o'≤12→SG l j o'):SG l i o:=by
 have hl:=H.len
 have a1:((i:Nat):Int)<(l.length:Int):=by omega
 have a2:0≤((i:Nat):Int):=by omega
 have et:l.getD ((i:Nat):Int).toNat ak.z=aj l i:=by rw [Int.toNat_natCast]; rfl
 have q1:(rs l i o).an=(i:Int):=rfl
 have q2:(rs l i o).l=l:=rfl
 have fb: ∀ self k2,ja self (k2+1) (st l i o)=(bif aS (aj l i) dV then
  (ki (st l i o) (aj l i).At).bind fun r3=>
  bif !r3.1 then
  some (ai.mk 0 0 [] [] 0,r3.2) else
  (ja self k2 r3.2).bind fun r4=>
  some (ai.mk 5 0 [] [ai.mk r4.1.Kind r4.1.N r4.1.Name r4.1.Kids r4.1.At] (aj l i).At,aK.mk r4.2.Row (ag (r4.2.aR - 1))) else
  bif aS (aj l i) jr then
  (ki (st l i o) (aj l i).At).bind fun r3=>
  bif !r3.1 then
  some (ai.mk 0 0 [] [] 0,r3.2) else
  (ja self k2 r3.2).bind fun r4=>
  some (ai.mk 6 0 [] [ai.mk r4.1.Kind r4.1.N r4.1.Name r4.1.Kids r4.1.At] (aj l i).At,aK.mk r4.2.Row (ag (r4.2.aR - 1))) else
  iD self (st l i o)):=fun self k2=>by
  show ql (ja self k2) self k2 (st l i o)=_
  unfold ql
  rw [jj hi,aa]
  dsimp only
  rw [xR hi,aa]
  dsimp only
  cases aS (aj l i) dV with
  | true=>rfl
  | false=>
   rw [cond_false,cond_false,xR hi,aa]
   dsimp only
   cases aS (aj l i) jr with
   | true=>rfl
   | false=>
    rw [cond_false,cond_false]
    cases iD self (st l i o) with
    | none=>rfl
    | some r=>rw [aa,eta]
 have gb: ∀ self k2,lX self (k2+1) (rs l i o)=(bif aS (aj l i) dV then
  (jo (rs l i o)).bind fun r3=>
  bif !r3.1 then
  some (ai.mk 0 0 [] [] 0,r3.2) else
  (lX self k2 r3.2).bind fun r4=>
  some (ai.mk 5 0 [] [ai.mk r4.1.Kind r4.1.N r4.1.Name r4.1.Kids r4.1.At] (aj l i).At,aU.mk r4.2.l r4.2.an (ag (r4.2.aR - 1)) r4.2.bad) else
  bif aS (aj l i) jr then
  (jo (rs l i o)).bind fun r3=>
  bif !r3.1 then
  some (ai.mk 0 0 [] [] 0,r3.2) else
  (lX self k2 r3.2).bind fun r4=>
  some (ai.mk 6 0 [] [ai.mk r4.1.Kind r4.1.N r4.1.Name r4.1.Kids r4.1.At] (aj l i).At,aU.mk r4.2.l r4.2.an (ag (r4.2.aR - 1)) r4.2.bad) else
  kG self (rs l i o)):=fun self k2=>by
  show Cr (lX self k2) self k2 (rs l i o)=_
  unfold Cr
  rw [pO hi,aa]
  dsimp only
  cases hm:aS (aj l i) dV with
  | true=>
   have hb:aS (aj l i) jr=false:=by
    have :=(of_decide_eq_true hm).2
    unfold aS; rw [decide_eq_false_iff_not]; rintro ⟨_,q⟩; rw [this] at q; cases q
   rw [cond_true,cond_true,pO hi,aa]
   dsimp only
   rw [hb,cond_false,if_neg (by decide),q1,q2,et,if_pos a2,if_pos a1]
  | false=>
   rw [cond_false,cond_false,pO hi,aa]
   dsimp only
   cases aS (aj l i) jr with
   | true=>
    rw [cond_true,cond_true,if_neg (by decide),q1,q2,et,if_pos a2,if_pos a1]
   | false=>
    rw [cond_false,cond_false,if_pos rfl]
    cases kG self (rs l i o) with
    | none=>rfl
    | some r=>rw [aa,eta]
 have Oc: ∀ K:Int,((aj l i).Kind=3∨(aj l i).Kind=1)→
  (∀ self k2,ja self (k2+1) (st l i o)=(ki (st l i o) (aj l i).At).bind fun r3=>
   bif !r3.1 then
   some (ai.mk 0 0 [] [] 0,r3.2) else
   (ja self k2 r3.2).bind fun r4=>
   some (ai.mk K 0 [] [ai.mk r4.1.Kind r4.1.N r4.1.Name r4.1.Kids r4.1.At] (aj l i).At,aK.mk r4.2.Row (ag (r4.2.aR - 1))))→
  (∀ self k2,lX self (k2+1) (rs l i o)=(jo (rs l i o)).bind fun r3=>
   bif !r3.1 then
   some (ai.mk 0 0 [] [] 0,r3.2) else
   (lX self k2 r3.2).bind fun r4=>
   some (ai.mk K 0 [] [ai.mk r4.1.Kind r4.1.N r4.1.Name r4.1.Kids r4.1.At] (aj l i).At,aU.mk r4.2.l r4.2.an (ag (r4.2.aR - 1)) r4.2.bad))→SG l i o:=fun K hk fb gb=>by
  have hm:=H.more i hi (by omega)
  by_cases h12:o=12
  · subst h12
    refine jE 1 (e:=ai.mk 0 0 [] [] 0) (s:=aK.mk (bg.mk l (i:Int) ⟨14,(aj l i).At⟩) 12) (e':=ai.mk 0 0 [] [] 0) (s':=aU.mk l (i:Int) 12 ⟨14,(aj l i).At⟩) (by show (14:Int)≠0; decide) rfl (fun k hk k2 hk2=> ?_) (fun k hk k2 hk2=> ?_)
    · obtain ⟨k2,rfl⟩: ∃ j,k2=j+1:=⟨k2 - 1,by omega⟩
      rw [fb,JH,aa]; rfl
    · obtain ⟨k2,rfl⟩: ∃ j,k2=j+1:=⟨k2 - 1,by omega⟩
      rw [gb,Nz hi,aa]; rfl
  · have hw:ag (((o+1:Nat):Int) - 1)=(o:Int):=by rw [bl (by omega) (by omega)]; omega
    rcases IS (i+1) (o+1) (by omega) hm (by omega) with ⟨e,i',Z,h1,h2,h3,hf,hg⟩ | ⟨e,s,e',s',Z,h1,h2,hf,hg⟩
    · refine .inl ⟨ai.mk K 0 [] [e] (aj l i).At,i',Z+1,by omega,h2,Fd.one rfl h3,fun k hk k2 hk2=> ?_,fun k hk k2 hk2=> ?_⟩
      · obtain ⟨k2,rfl⟩: ∃ j,k2=j+1:=⟨k2 - 1,by omega⟩
        have hf':=hf k (by omega) k2 (by omega)
        dsimp only at hf' ⊢
        rw [fb,qj hi hl (by omega),aa]
        dsimp only [Bool.not_true,cond_false]
        rw [hf',aa,eta]
        show some (_,(⟨⟨l,((i':Nat):Int),⟨0,0⟩⟩,ag (((o+1:Nat):Int) - 1)⟩:aK))=_
        rw [hw]; rfl
      · obtain ⟨k2,rfl⟩: ∃ j,k2=j+1:=⟨k2 - 1,by omega⟩
        have hg':=hg k (by omega) k2 (by omega)
        dsimp only at hg' ⊢
        rw [gb,yW hi hl (by omega),aa]
        dsimp only [Bool.not_true,cond_false]
        rw [hg',aa,eta]
        show some (_,(⟨l,((i':Nat):Int),ag (((o+1:Nat):Int) - 1),⟨0,0⟩⟩:aU))=_
        rw [hw]; rfl
    · refine jE (Z+1) (e:=ai.mk K 0 [] [e] (aj l i).At) (s:=aK.mk s.Row (ag (s.aR - 1))) (e':=ai.mk K 0 [] [e'] (aj l i).At) (s':=aU.mk s'.l s'.an (ag (s'.aR - 1)) s'.bad) h1 h2 (fun k hk k2 hk2=> ?_) (fun k hk k2 hk2=> ?_)
      · obtain ⟨k2,rfl⟩: ∃ j,k2=j+1:=⟨k2 - 1,by omega⟩
        have hf':=hf k (by omega) k2 (by omega)
        dsimp only at hf' ⊢
        rw [fb,qj hi hl (by omega),aa]
        dsimp only [Bool.not_true,cond_false]
        rw [hf',aa,eta]
        rfl
      · obtain ⟨k2,rfl⟩: ∃ j,k2=j+1:=⟨k2 - 1,by omega⟩
        have hg':=hg k (by omega) k2 (by omega)
        dsimp only at hg' ⊢
        rw [gb,yW hi hl (by omega),aa]
        dsimp only [Bool.not_true,cond_false]
        rw [hg',aa,eta]
        rfl
 cases hm:aS (aj l i) dV with
 | true=>exact Oc 5 (of_decide_eq_true hm).1 (fun self k2=>by rw [fb,hm,cond_true]) (fun self k2=>by rw [gb,hm,cond_true])
 | false=>
  cases hb:aS (aj l i) jr with
  | true=>exact Oc 6 (of_decide_eq_true hb).1 (fun self k2=>by rw [fb,hm,cond_false,hb,cond_true]) (fun self k2=>by rw [gb,hm,cond_false,hb,cond_true])
  | false=>
   have fc: ∀ self k2,ja self (k2+1) (st l i o)=iD self (st l i o):=fun self k2=>by rw [fb,hm,cond_false,hb,cond_false]
   have gc: ∀ self k2,lX self (k2+1) (rs l i o)=kG self (rs l i o):=fun self k2=>by rw [gb,hm,cond_false,hb,cond_false]
   rcases PR H hi ho IH with ⟨e,i',Z,h1,h2,h3,hf,hg⟩ | ⟨e,s,e',s',Z,h1,h2,hf,hg⟩
   · refine .inl ⟨e,i',Z+1,h1,h2,h3,fun k hk k2 hk2=> ?_,fun k hk k2 hk2=> ?_⟩
     · obtain ⟨k2,rfl⟩: ∃ j,k2=j+1:=⟨k2 - 1,by omega⟩
       dsimp only; rw [fc]; exact hf k (by omega) k (by omega)
     · obtain ⟨k2,rfl⟩: ∃ j,k2=j+1:=⟨k2 - 1,by omega⟩
       dsimp only; rw [gc]; exact hg k (by omega) k (by omega)
   · refine jE (e:=e) (s:=s) (e':=e') (s':=s') (Z+1) h1 h2 (fun k hk k2 hk2=> ?_) (fun k hk k2 hk2=> ?_)
     · obtain ⟨k2,rfl⟩: ∃ j,k2=j+1:=⟨k2 - 1,by omega⟩
       rw [fc]; exact hf k (by omega) k (by omega)
     · obtain ⟨k2,rfl⟩: ∃ j,k2=j+1:=⟨k2 - 1,by omega⟩
       rw [gc]; exact hg k (by omega) k (by omega)
omit H in
theorem R6 {i o:Nat} (h:SG l i o):R l 6 i o:=by
 have p6: ∀ k,f_ (k+1) (rs l i o) 6=(vF (f_ k) (rs l i o)).bind fun r1=>some (ai.mk r1.1.Kind r1.1.N r1.1.Name r1.1.Kids r1.1.At,r1.2):=fun k=>by
  show qO (f_ k) k _ 6=_
  unfold qO
  rw [if_pos rfl]
 rcases h with ⟨e,i',Z,h1,h2,h3,hf,hg⟩ | ⟨e,s,e',s',Z,h1,h2,hf,hg⟩
 · refine .inl ⟨e,i',Z+1,h1,h2,h3,fun k hk k2 hk2=> ?_,fun k hk k2 hk2=> ?_⟩
   · obtain ⟨k,rfl⟩: ∃ j,k=j+1:=⟨k - 1,by omega⟩
     dsimp only
     rw [Gn,show rR (d_ k) (st l i o)=some (e,st l i' o) from b6 Z fun j hj=>hf k (by omega) j hj,aa,eta]
   · obtain ⟨k,rfl⟩: ∃ j,k=j+1:=⟨k - 1,by omega⟩
     dsimp only
     rw [p6,show vF (f_ k) (rs l i o)=some (e,rs l i' o) from b6 Z fun j hj=>hg k (by omega) j hj,aa,eta]
 · refine jE (e:=e) (s:=s) (e':=e') (s':=s') (Z+1) h1 h2 (fun k hk k2 hk2=> ?_) (fun k hk k2 hk2=> ?_)
   · obtain ⟨k,rfl⟩: ∃ j,k=j+1:=⟨k - 1,by omega⟩
     rw [Gn,show rR (d_ k) (st l i o)=some (e,s) from b6 Z fun j hj=>hf k (by omega) j hj,aa,eta]
   · obtain ⟨k,rfl⟩: ∃ j,k=j+1:=⟨k - 1,by omega⟩
     rw [p6,show vF (f_ k) (rs l i o)=some (e',s') from b6 Z fun j hj=>hg k (by omega) j hj,aa,eta]
end
theorem LD {m:Int} (hm:1≤m) (fe:m≤5) (s:List UInt8):yN m s=some (if (cA s).2=m then (cA s).1 else 0):=by
 have cN: ∀ own kd:Int,(iQ m own kd).bind (fun r=>some r)=some (if own=m then kd else 0):=fun own kd=>by
  unfold iQ
  by_cases h:m=own
  · rw [if_pos h,aa,if_pos h.symm]
  · rw [if_neg h,aa,if_neg (fun q=>h q.symm)]
 unfold yN
 simp only [cN]
 by_cases rZ:s=fB
 · subst rZ
   rw [show cA fB=(19,1) from by decide]
   simp
 rw [if_neg rZ]
 by_cases rX:s=fy
 · subst rX
   rw [show cA fy=(18,2) from by decide]
   simp
 rw [if_neg rX]
 by_cases sn:s=mb
 · subst sn
   rw [show cA mb=(12,3) from by decide]
   simp
 rw [if_neg sn]
 by_cases sr:s=fE
 · subst sr
   rw [show cA fE=(13,3) from by decide]
   simp
 rw [if_neg sr]
 by_cases si:s=l_
 · subst si
   rw [show cA l_=(14,3) from by decide]
   simp
 rw [if_neg si]
 by_cases sj:s=fD
 · subst sj
   rw [show cA fD=(15,3) from by decide]
   simp
 rw [if_neg sj]
 by_cases sg:s=fC
 · subst sg
   rw [show cA fC=(16,3) from by decide]
   simp
 rw [if_neg sg]
 by_cases rY:s=fA
 · subst rY
   rw [show cA fA=(17,3) from by decide]
   simp
 rw [if_neg rY]
 by_cases sx:s=me
 · subst sx
   rw [show cA me=(10,4) from by decide]
   simp
 rw [if_neg sx]
 by_cases su:s=dV
 · subst su
   rw [show cA dV=(11,4) from by decide]
   simp
 rw [if_neg su]
 by_cases sA:s=mh
 · subst sA
   rw [show cA mh=(7,5) from by decide]
   simp
 rw [if_neg sA]
 by_cases sy:s=mg
 · subst sy
   rw [show cA mg=(8,5) from by decide]
   simp
 rw [if_neg sy]
 by_cases sw:s=mc
 · subst sw
   rw [show cA mc=(9,5) from by decide]
   simp
 rw [if_neg sw]
 rw [show cA s=(0,0) from by
  unfold cA iq
  simp only [List.find?_cons,List.find?_nil,show (fB == s)=false from beq_false_of_ne (Ne.symm rZ),show (fy == s)=false from beq_false_of_ne (Ne.symm rX),show (mb == s)=false from beq_false_of_ne (Ne.symm sn),show (fE == s)=false from beq_false_of_ne (Ne.symm sr),show (l_ == s)=false from beq_false_of_ne (Ne.symm si),show (fD == s)=false from beq_false_of_ne (Ne.symm sj),show (fC == s)=false from beq_false_of_ne (Ne.symm sg),show (fA == s)=false from beq_false_of_ne (Ne.symm rY),show (me == s)=false from beq_false_of_ne (Ne.symm sx),show (dV == s)=false from beq_false_of_ne (Ne.symm su),show (mh == s)=false from beq_false_of_ne (Ne.symm sA),show (mg == s)=false from beq_false_of_ne (Ne.symm sy),show (mc == s)=false from beq_false_of_ne (Ne.symm sw)]]
 rw [if_neg (by show ¬ (0:Int)=m; omega)]
theorem Zl {s:List UInt8} (h:(cA s).2≠0):(cA s).1≠0:=by
 unfold cA at h ⊢
 cases hf:iq.find? (fun p=>p.1 == s) with
 | none=>rw [hf] at h; exact absurd rfl h
 | some p=>
  have hm:=List.mem_of_find?_eq_some hf
  simp only [iq,List.mem_cons,List.not_mem_nil,or_false] at hm
  dsimp only
  rcases hm with rfl | rfl | rfl | rfl | rfl | rfl | rfl | rfl | rfl | rfl | rfl | rfl | rfl <;> decide
noncomputable def qT (k k':Nat) (l:List ak) (i o:Nat) (m:Int) (e:ai):Option (ai×aU):=
 pI (f_ k) k' l ((i:Nat):Int) ((o:Nat):Int) 0 0 m 0 0 [] [] 0 e.Kind e.N e.Name e.Kids e.At
theorem NM (k:Nat) {l:List ak} {i o:Nat} {m:Int} (hm:1≤m) (fe:m≤5) {e:ai} {i':Nat} (h:f_ k (rs l i o) (m+1)=some (e,rs l i' o)):
 f_ (k+1) (rs l i o) m=qT k k l i' o m e:=by
 show qO (f_ k) k (rs l i o) m=_
 unfold qO
 rw [if_neg (by omega),bl (by omega) (by omega),h,aa]
 rfl
theorem YP (k:Nat) {l:List ak} {i o:Nat} {m:Int} (hm:1≤m) (fe:m≤5) {e:ai} {s:aU} (hs:s.bad.Code≠0) (hk:1≤k) (h:f_ k (rs l i o) (m+1)=some (e,s)):
 f_ (k+1) (rs l i o) m=some (e,s):=by
 show qO (f_ k) k (rs l i o) m=_
 unfold qO
 rw [if_neg (by omega),bl (by omega) (by omega),h,aa]
 obtain ⟨k',rfl⟩: ∃ j,k=j+1:=⟨k - 1,by omega⟩
 rw [pI.eq_2,if_neg hs,ND,eta]
theorem Wt {k:Nat} {l:List ak} {i o:Nat} {m:Int} (h1:1≤m) (h5:m≤5) {e:ai} {s:aK} (hs:s.Row.bk.Code≠0) (hk:1≤k) (h:d_ k (st l i o) (m+1)=some (e,s)):d_ (k+1) (st l i o) m=some (e,s):=by
 show qk (d_ k) k (st l i o) m=_
 unfold qk
 rw [if_neg (by omega),bl (by omega) (by omega),h,aa]
 obtain ⟨k',rfl⟩: ∃ j,k=j+1:=⟨k - 1,by omega⟩
 simp only [nQ]
 rw [JX,x6 hs,aa,sign_eq,aa]
 dsimp only
 rw [if_pos (by decide),eta]
theorem VB (k k':Nat) {l:List ak} (hl:l.length≤100000) (i o:Nat) {m:Int} (hm:1≤m) (fe:m≤5) (hi:i<l.length) (h3:(aj l i).Kind=3) (hg:(cA (aj l i).Text).2=m) (e:ai) {y:ai} {s:aK} (hs:s.Row.bk.Code≠0)
 (hy:d_ k (st l (i+1) o) (m+1)=some (y,s)):
 loop k (k'+2) l i o m e=some (ai.mk (cA (aj l i).Text).1 0 [] [e,y] (aj l i).At,s):=by
 unfold loop
 rw [nQ.eq_2]
 rw [show (aK.mk (bg.mk l ((i:Nat):Int) (aL.mk 0 0)) ((o:Nat):Int))=st l i o from rfl,jj hi,aa,sign_eq,aa,eta]
 dsimp only
 rw [if_neg (by simp [h3]),if_neg (by simp [hg])]
 rw [show (aK.mk (bg.mk (st l i o).Row.L (ag ((st l i o).Row.At+1)) (st l i o).Row.bk) (st l i o).aR)=st l (i+1) o from by
  show (⟨⟨l,ag (((i:Nat):Int)+1),⟨0,0⟩⟩,(o:Int)⟩:aK)=_
  rw [dS hi hl]; rfl]
 rw [bl (by omega) (by omega),hy,aa]
 simp only [eta]
 by_cases gW:m=3
 · rw [if_pos gW]
 · rw [if_neg gW,nQ.eq_2,JX,x6 hs,aa,sign_eq,aa]
   dsimp only
   rw [if_pos (by decide)]
theorem YK (k k':Nat) {l:List ak} (i o:Nat) {m:Int} (hm:1≤m) (fe:m≤5) (hi:i<l.length) (hs:jW (aj l i)≠m) (e:ai):qT k (k'+2) l i o m e=some (e,rs l i o):=by
 unfold qT
 have et:l.getD ((i:Nat):Int).toNat ak.z=aj l i:=by rw [Int.toNat_natCast]; rfl
 rw [pI.eq_2,if_pos rfl,if_pos (by omega),if_pos (by omega),if_pos (by omega),et,eta]
 unfold jW at hs
 by_cases h3:(aj l i).Kind=3
 · rw [if_pos h3] at hs
   rw [if_pos h3,Cp.eq_2,if_pos (by omega),if_pos (by omega),et,LD hm fe,aa,if_neg hs,if_pos rfl,eta]
   rfl
 · rw [if_neg h3]; rfl
theorem NF (k k':Nat) {l:List ak} (hl:l.length≤100000) (i o:Nat) {m:Int} (hm:1≤m) (fe:m≤5) (hi:i<l.length) (h3:(aj l i).Kind=3) (hg:(cA (aj l i).Text).2=m) (e:ai) {y:ai} {s:aU}
 (hy:f_ k (rs l (i+1) o) (m+1)=some (y,s)):
 qT k (k'+2) l i o m e=if m=3 then some (ai.mk (cA (aj l i).Text).1 0 [] [e,y] (aj l i).At,s) else
  pI (f_ k) k' s.l s.an s.aR s.bad.Code s.bad.At m 0 0 [] [] 0 (cA (aj l i).Text).1 0 [] [e,y] (aj l i).At:=by
 unfold qT
 have et:l.getD ((i:Nat):Int).toNat ak.z=aj l i:=by rw [Int.toNat_natCast]; rfl
 rw [pI.eq_2,if_pos rfl,if_pos (by omega),if_pos (by omega),if_pos (by omega),et,if_pos h3,Cp.eq_2,if_pos (by omega),if_pos (by omega),et,LD hm fe,aa,if_pos hg]
 rw [if_neg (Zl (by omega)),if_pos (by omega),if_pos (by omega),dS hi hl,bl (by omega) (by omega)]
 rw [show aU.mk l ((i+1:Nat):Int) ((o:Nat):Int) (aL.mk 0 0)=rs l (i+1) o from rfl,hy,aa]
 simp only [eta]
theorem LP {l:List ak} (H:Ok l) {i o:Nat} {m:Int} (hm:1≤m) (fe:m≤5) (ho:o≤12) (IH: ∀ j,i<j→j<l.length→R l (m+1) j o):
 ∀ (r i':Nat) (e:ai),l.length≤i'+r→i≤i'→i'<l.length→Fd e→Out l i' o (fun k k2=>loop k k2 l i' o m e) (fun k k2=>qT k k2 l i' o m e)
 | 0,i',e,hr,_,hi,_=>by omega
 | r+1,i',e,hr,h0,hi,o6=>by
  by_cases hs:jW (aj l i')=m
  case neg=>
   refine .inl ⟨e,i',2,Nat.le_refl _,hi,o6,fun k hk k2 hk2=> ?_,fun k hk k2 hk2=> ?_⟩
   · exact L5 k k2 l i' o hm hi hs e (by omega)
   · obtain ⟨k2,rfl⟩: ∃ j,k2=j+2:=⟨k2 - 2,by omega⟩
     exact YK k k2 i' o hm fe hi hs e
  have h3:(aj l i').Kind=3:=by
   unfold jW at hs
   by_cases h3:(aj l i').Kind=3
   · exact h3
   · rw [if_neg h3] at hs; omega
  have hg:(cA (aj l i').Text).2=m:=by unfold jW at hs; rwa [if_pos h3] at hs
  have AB:=H.more i' hi (by omega)
  rcases IH (i'+1) (by omega) AB with ⟨y,uJ,Z,h1,h2,K2,hf,hg'⟩ | ⟨y,s,y',s',Z,h1,h2,hf,hg'⟩
  · have hstep: ∀ k k2,Z≤k→loop k (k2+1) l i' o m e=if m=3 then some (ai.mk (cA (aj l i').Text).1 0 [] [e,y] (aj l i').At,st l uJ o) else loop k k2 l uJ o m (ai.mk (cA (aj l i').Text).1 0 [] [e,y] (aj l i').At):=fun k k2 hk=>by
     have hy:=hf k hk k hk
     dsimp only at hy
     have ht:strip (aj l i')=(3,(aj l i').Text,(aj l i').N):=by unfold strip; rw [h3]
     unfold loop
     rw [nQ.eq_2]
     rw [show (aK.mk (bg.mk l ((i':Nat):Int) (aL.mk 0 0)) ((o:Nat):Int))=st l i' o from rfl,jj hi,aa,sign_eq,aa,eta]
     dsimp only
     rw [if_neg (by simp [h3]),if_neg (by simp [hg])]
     rw [show (aK.mk (bg.mk (st l i' o).Row.L (ag ((st l i' o).Row.At+1)) (st l i' o).Row.bk) (st l i' o).aR)=st l (i'+1) o from by
      show (⟨⟨l,ag (((i':Nat):Int)+1),⟨0,0⟩⟩,(o:Int)⟩:aK)=_
      rw [dS hi H.len]; rfl]
     rw [bl (by omega) (by omega),hy,aa]
     simp only [eta]
     rfl
    have HP: ∀ k k2,Z≤k→qT k (k2+2) l i' o m e=if m=3 then some (ai.mk (cA (aj l i').Text).1 0 [] [e,y] (aj l i').At,rs l uJ o) else qT k k2 l uJ o m (ai.mk (cA (aj l i').Text).1 0 [] [e,y] (aj l i').At):=fun k k2 hk=>
     NF k k2 H.len i' o hm fe hi h3 hg e (hg' k hk k hk)
    by_cases gW:m=3
    · refine .inl ⟨ai.mk (cA (aj l i').Text).1 0 [] [e,y] (aj l i').At,uJ,Z+2,by omega,h2,Fd.two rfl o6 K2,fun k hk k2 hk2=> ?_,fun k hk k2 hk2=> ?_⟩
      · obtain ⟨k2,rfl⟩: ∃ j,k2=j+1:=⟨k2 - 1,by omega⟩
        dsimp only; rw [hstep k k2 (by omega),if_pos gW]
      · obtain ⟨k2,rfl⟩: ∃ j,k2=j+2:=⟨k2 - 2,by omega⟩
        dsimp only; rw [HP k k2 (by omega),if_pos gW]
    · rcases LP H hm fe ho IH r uJ (ai.mk (cA (aj l i').Text).1 0 [] [e,y] (aj l i').At) (by omega) (by omega) h2 (Fd.two rfl o6 K2) with ⟨e2,j,Z2,j1,j2,j3,jf,jg⟩ | ⟨e2,s,En,s',Z2,j1,j2,jf,jg⟩
      · refine .inl ⟨e2,j,Z+Z2+2,by omega,j2,j3,fun k hk k2 hk2=> ?_,fun k hk k2 hk2=> ?_⟩
        · obtain ⟨k2,rfl⟩: ∃ j,k2=j+1:=⟨k2 - 1,by omega⟩
          dsimp only; rw [hstep k k2 (by omega),if_neg gW]; exact jf k (by omega) k2 (by omega)
        · obtain ⟨k2,rfl⟩: ∃ j,k2=j+2:=⟨k2 - 2,by omega⟩
          dsimp only; rw [HP k k2 (by omega),if_neg gW]; exact jg k (by omega) k2 (by omega)
      · refine jE (e:=e2) (s:=s) (e':=En) (s':=s') (Z+Z2+2) j1 j2 (fun k hk k2 hk2=> ?_) (fun k hk k2 hk2=> ?_)
        · obtain ⟨k2,rfl⟩: ∃ j,k2=j+1:=⟨k2 - 1,by omega⟩
          rw [hstep k k2 (by omega),if_neg gW]; exact jf k (by omega) k2 (by omega)
        · obtain ⟨k2,rfl⟩: ∃ j,k2=j+2:=⟨k2 - 2,by omega⟩
          rw [HP k k2 (by omega),if_neg gW]; exact jg k (by omega) k2 (by omega)
  · refine jE (e:=ai.mk (cA (aj l i').Text).1 0 [] [e,y] (aj l i').At) (s:=s) (e':=ai.mk (cA (aj l i').Text).1 0 [] [e,y'] (aj l i').At) (s':=s') (Z+3) h1 h2 (fun k hk k2 hk2=> ?_) (fun k hk k2 hk2=> ?_)
    · obtain ⟨k2,rfl⟩: ∃ j,k2=j+2:=⟨k2 - 2,by omega⟩
      exact VB k k2 H.len i' o hm fe hi h3 hg e h1 (hf k (by omega) k (by omega))
    · obtain ⟨k2,rfl⟩: ∃ j,k2=j+3:=⟨k2 - 3,by omega⟩
      rw [NF k (k2+1) H.len i' o hm fe hi h3 hg e (hg' k (by omega) k (by omega))]
      by_cases gW:m=3
      · rw [if_pos gW]
      · rw [if_neg gW,pI.eq_2,if_neg (by rw [h2]; exact h1),ND]
theorem Pn {l:List ak} (H:Ok l) {i o:Nat} {m:Int} (hm:1≤m) (fe:m≤5) (hi:i<l.length) (ho:o≤12) (IH: ∀ j,i<j→j<l.length→R l (m+1) j o) (h:R l (m+1) i o):R l m i o:=by
 rcases h with ⟨e,i',Z,h1,h2,o6,hf,hg⟩ | ⟨e,s,e',s',Z,h1,h2,hf,hg⟩
 · rcases LP H hm fe ho IH l.length i' e (by omega) (by omega) h2 o6 with ⟨e2,j,Z2,j1,j2,j3,jf,jg⟩ | ⟨e2,s,En,s',Z2,j1,j2,jf,jg⟩
   · refine .inl ⟨e2,j,Z+Z2+1,by omega,j2,j3,fun k hk k2 hk2=> ?_,fun k hk k2 hk2=> ?_⟩
     · obtain ⟨k,rfl⟩: ∃ j,k=j+1:=⟨k - 1,by omega⟩
       dsimp only; rw [A_ k l i o hm fe (hf k (by omega) k (by omega))]; exact jf k (by omega) k (by omega)
     · obtain ⟨k,rfl⟩: ∃ j,k=j+1:=⟨k - 1,by omega⟩
       dsimp only; rw [NM k hm fe (hg k (by omega) k (by omega))]; exact jg k (by omega) k (by omega)
   · refine jE (e:=e2) (s:=s) (e':=En) (s':=s') (Z+Z2+1) j1 j2 (fun k hk k2 hk2=> ?_) (fun k hk k2 hk2=> ?_)
     · obtain ⟨k,rfl⟩: ∃ j,k=j+1:=⟨k - 1,by omega⟩
       rw [A_ k l i o hm fe (hf k (by omega) k (by omega))]; exact jf k (by omega) k (by omega)
     · obtain ⟨k,rfl⟩: ∃ j,k=j+1:=⟨k - 1,by omega⟩
       rw [NM k hm fe (hg k (by omega) k (by omega))]; exact jg k (by omega) k (by omega)
 · refine jE (e:=e) (s:=s) (e':=e') (s':=s') (Z+2) h1 h2 (fun k hk k2 hk2=> ?_) (fun k hk k2 hk2=> ?_)
   · obtain ⟨k,rfl⟩: ∃ j,k=j+1:=⟨k - 1,by omega⟩
     exact Wt hm fe h1 (by omega) (hf k (by omega) k (by omega))
   · obtain ⟨k,rfl⟩: ∃ j,k=j+1:=⟨k - 1,by omega⟩
     exact YP k hm fe (by rw [h2]; exact h1) (by omega) (hg k (by omega) k (by omega))
theorem both {l:List ak} (H:Ok l): ∀ (n i o:Nat),l.length≤i+n→i<l.length→o≤12→SG l i o∧ ∀ (j:Nat) (m:Int),m=6 - (j:Int)→1≤m→R l m i o
 | 0,i,o,hn,hi,_=>by omega
 | n+1,i,o,hn,hi,ho=>by
  have IH: ∀ j o',i<j→j<l.length→o'≤12→SG l j o'∧ ∀ (q:Nat) (m:Int),m=6 - (q:Int)→1≤m→R l m j o':=fun j o' h1 h2 h3=>both H n j o' (by omega) h2 h3
  have hS:=Pt H hi ho (fun j o' h1 h2 h3=>(IH j o' h1 h2 h3).2 5 1 rfl (by decide)) (fun j o' h1 h2 h3=>(IH j o' h1 h2 h3).1)
  refine ⟨hS,fun j=> ?_⟩
  induction j with
  | zero=>
   intro m hm h1
   have :m=6:=by omega
   subst this
   exact R6 hS
  | succ j ih=>
   intro m hm h1
   exact Pn H h1 (by omega) hi ho (fun q h2 h3=>(IH q o h2 h3 ho).2 j (m+1) (by omega) (by omega)) (ih (m+1) (by omega) (by omega))
end Go.Sy.Ex
namespace Go.Sy.Ex
open Go.Sy
def Wd (x:ak):Prop:=x.Kind=1→x.Text≠bM
theorem ZW (t:List UInt8) (n:Nat):Wd (ez t n).1:=by
 unfold ez
 split
 · dsimp only
   split <;> (intro h; revert h; dsimp only; intro h; cases h)
 · split
   · split
     · intro h; cases h
     · intro _ h
       have hm:(40:UInt8) ∈ (t.drop n).takeWhile nm:=by
        have h':(t.drop n).takeWhile nm= [40]:=h
        rw [h']; simp
       have :=Dl nm (t.drop n) 40 hm
       revert this; decide
   · split <;> (intro h; cases h)
theorem I5 (t:List UInt8): ∀ (k:Nat) (l:List ak) (n:Nat),n≤t.length→t.length<n+k→(gF k t l n).2.Code=0→(∀ x ∈ l,Wd x)→ ∃ L z,(gF k t l n).1=L++ [z]∧z.Kind=4∧ ∀ x ∈ L,Wd x
 | 0,l,n,h1,h2,_,_=>by omega
 | k+1,l,n,h1,h2,h3,h4=>by
  simp only [gF] at h3 ⊢
  by_cases hn:n<t.length
  · rw [if_pos hn] at h3 ⊢
    by_cases hz:(ez t n).2≠0
    · rw [if_pos hz] at h3; exact absurd h3 hz
    · rw [if_neg hz] at h3 ⊢
      obtain ⟨e,he,h5,h6,_⟩:=Dk t n hn (Classical.not_not.1 hz)
      rw [he,Int.toNat_natCast] at h3 ⊢
      have hg:=qW (t.drop e) false e
      rw [List.length_drop] at hg
      refine I5 t k _ _ (by omega) (by omega) h3 fun x hx=> ?_
      rw [List.mem_append,List.mem_singleton] at hx
      rcases hx with hx | rfl
      · exact h4 x hx
      · exact ZW t n
  · rw [if_neg hn]
    exact ⟨l,_,rfl,rfl,h4⟩
theorem Qn {t:List UInt8} (h:(iY t).2.Code=0):Ok (iY t).1∧0<(iY t).1.length:=by
 have hlen:=DT t
 obtain ⟨L,z,h1,h2,h3⟩: ∃ L z,(iY t).1=L++ [z]∧z.Kind=4∧ ∀ x ∈ L,Wd x:=by
  unfold iY at h ⊢
  by_cases hl:16384<t.length
  · rw [if_pos hl] at h; exact absurd h (by decide)
  · rw [if_neg hl] at h ⊢
    have hg:=qW t false 0
    exact I5 t _ [] _ (by omega) (by omega) h (fun x hx=>by cases hx)
 rw [h1] at hlen ⊢
 rw [List.length_append,List.length_singleton] at hlen
 refine ⟨⟨by rw [List.length_append,List.length_singleton]; omega,fun i hk=> ?_,fun i hi hk=> ?_⟩,by simp⟩
 · unfold aj at hk ⊢
   by_cases hi:i<(L++ [z]).length
   · rw [cF _ hi] at hk ⊢
     by_cases hi2:i<L.length
     · rw [List.getElem_append_left hi2] at hk ⊢
       exact h3 _ (List.getElem_mem hi2) hk
     · rw [List.getElem_append_right (by omega)] at hk
       simp only [List.getElem_singleton] at hk
       rw [h2] at hk; cases hk
   · rw [List.getD_eq_getElem?_getD,List.getElem?_eq_none (by omega)] at hk
     cases hk
 · rw [List.length_append,List.length_singleton] at hi ⊢
   by_cases hi2:i<L.length
   · omega
   · exfalso; apply hk
     unfold aj
     rw [cF _ (by rw [List.length_append,List.length_singleton]; omega),List.getElem_append_right (by omega)]
     simp only [List.getElem_singleton]
     exact h2
theorem Wx {v n:Int} (hn:0<n) (hn2:n≤1152921504606846976): ∃ r,kY v n=some r∧0≤r∧r<n:=by
 unfold kY
 rw [if_pos (by omega)]
 have h1:v.tmod n<n:=Int.tmod_lt_of_pos v hn
 have h2: -n<v.tmod n:=by
  have h:=Int.tmod_lt_of_pos (-v) hn
  rw [Int.neg_tmod] at h; omega
 by_cases h:v.tmod n<0
 · rw [if_pos h,bl (by omega) (by omega)]; exact ⟨_,rfl,by omega,by omega⟩
 · rw [if_neg h]; exact ⟨_,rfl,by omega,by omega⟩
end Go.Sy.Ex
namespace Go.Sy.Ex
open Go.Sy
def at' (l:List ak) (i o:Nat):aG:=⟨⟨l,(i:Int),⟨0,0⟩⟩,(o:Int)⟩
section
variable {l:List ak} {i o:Nat}
theorem gT:kB (at' l i o)=some (true,at' l i o):=rfl
theorem gS (hi:i<l.length):iN (at' l i o)=some (aj l i,at' l i o):=by
 unfold iN
 rw [gT,aa]
 have h1: ¬ ((i:Nat):Int)<0:=by omega
 have h2: ¬ (l.length:Int)≤((i:Nat):Int):=by omega
 have h3:0≤((i:Nat):Int):=by omega
 have h4:((i:Nat):Int)<(l.length:Int):=by omega
 simp only [Bool.not_true,cond_false,at',Int.toNat_natCast,h1,h2,h3,h4,if_true,if_false]; rfl
theorem nL (hi:i<l.length) (s:List UInt8):jO (at' l i o) s=some (aS (aj l i) s,at' l i o):=by
 unfold jO aS
 rw [gS hi,aa]
 dsimp only
 by_cases h3:(aj l i).Kind=3
 · rw [if_pos h3]; congr 2; rw [decide_eq_decide]; simp [h3]
 · rw [if_neg h3]
   by_cases h1:(aj l i).Kind=1
   · rw [if_pos h1]; congr 2; rw [decide_eq_decide]; simp [h1]
   · rw [if_neg h1]
     congr 2
     symm
     rw [decide_eq_false_iff_not]
     rintro ⟨h | h,_⟩ <;> contradiction
theorem fQ (hi:i<l.length) (hl:l.length≤100000) (s:List UInt8):gA (at' l i o) s=some (aS (aj l i) s,if aS (aj l i) s=true then at' l (i+1) o else at' l i o):=by
 unfold gA
 rw [nL hi,aa]
 dsimp only
 cases h:aS (aj l i) s with
 | true=>
  rw [cond_true,if_pos rfl]
  show some (true,(⟨⟨l,ag (((i:Nat):Int)+1),⟨0,0⟩⟩,(o:Int)⟩:aG))=_
  rw [dS hi hl]; rfl
 | false=>rw [cond_false,if_neg (by simp)]
theorem gU (hi:i<l.length) (hl:l.length≤100000) {s:List UInt8} (h:aS (aj l i) s=true):cZ (at' l i o) s=some (at' l (i+1) o):=by
 unfold cZ
 rw [fQ hi hl,aa,h]; rfl
theorem wM (hi:i<l.length):oy (at' l i o)=some (decide ((aj l i).Kind=1)&& !ep (aj l i).Text,at' l i o):=by
 unfold oy
 rw [gS hi,aa]
 dsimp only
 by_cases h1:(aj l i).Kind=1
 · rw [if_pos h1,F5,aa,decide_eq_true h1]; rfl
 · rw [if_neg h1,decide_eq_false h1]; rfl
theorem DV (hi:i<l.length) (hl:l.length≤100000) (h1:(aj l i).Kind=1) (h2:ep (aj l i).Text=false):fZ (at' l i o)=some ((aj l i).Text,at' l (i+1) o):=by
 unfold fZ
 rw [wM hi,aa]
 dsimp only
 rw [decide_eq_true h1,h2]
 show (if 0≤ag (ag (((i:Nat):Int)+1) - 1) then if ag (ag (((i:Nat):Int)+1) - 1)<(l.length:Int) then some ((l.getD (ag (ag (((i:Nat):Int)+1) - 1)).toNat ak.z).Text,(⟨⟨l,ag (((i:Nat):Int)+1),⟨0,0⟩⟩,(o:Int)⟩:aG)) else none else none)=_
 rw [dS hi hl,show ag (((i+1:Nat):Int) - 1)=((i:Nat):Int) from by rw [bl (by omega) (by omega)]; omega,if_pos (by omega),if_pos (by omega),Int.toNat_natCast]
 rfl
end
theorem fF {l:List ak} {i o:Nat} (hi:i<l.length) (hl:l.length≤100000) {k:Int} {s:List UInt8} {n:Int} (h:strip (aj l i)=(k,s,n)) (s':List UInt8) (b:Bool) (hb:b=decide ((k=3∨k=1)∧s=s')):gA (at' l i o) s'=some (b,if b=true then at' l (i+1) o else at' l i o):=by
 rw [fQ hi hl]
 unfold strip at h
 simp only [Prod.mk.injEq] at h
 unfold aS
 rw [h.1,h.2.1,hb]
theorem rJ {l:List ak} {i o:Nat} (hi:i<l.length) {k:Int} {s:List UInt8} {n:Int} (h:strip (aj l i)=(k,s,n)) (s':List UInt8) (b:Bool) (hb:b=decide ((k=3∨k=1)∧s=s')):jO (at' l i o) s'=some (b,at' l i o):=by
 rw [nL hi]
 unfold strip at h
 simp only [Prod.mk.injEq] at h
 unfold aS
 rw [h.1,h.2.1,hb]
theorem Wp {t:T} {K:List Tk} {n:Nat} (h:P t K n 1) (hn:n≤12) {l:List ak} {i:Nat} (hl:l.length≤100000) (hs:Seq l i K) (hlen:i+K.length<l.length) (hend:jW (aj l (i+K.length))<1):
 ∃ e,Is t e∧mL l (i:Int)=some (e,((i+K.length:Nat):Int),⟨0,0⟩):=by
 obtain ⟨e,Z,he,hr⟩:=h l i 0 hl hs hlen (by omega) hend
 refine ⟨e,he, ?_⟩
 unfold mL
 rw [show um (aK.mk (bg.mk l (i:Int) (aL.mk 0 0)) 0) 1=some (e,st l (i+K.length) 0) from b6 Z hr,aa,uT,aa]
 rw [Bool.not_true,cond_false,eta]
 rfl
theorem DQ {t:T} (hok:t.ok) (hn:bC t 1≤12) {l:List ak} {i o:Nat} (hl:l.length≤100000) (hs:Seq l i (toks t 1)) (hlen:i+(toks t 1).length<l.length) (hend:jW (aj l (i+(toks t 1).length))<1):
 ∃ e,Is t e∧iW (at' l i o)=some ([e],at' l (i+(toks t 1).length) o):=by
 obtain ⟨e,he,hp⟩:=Wp (Qo hok) hn hl hs hlen hend
 refine ⟨e,he, ?_⟩
 unfold iW
 rw [gT,aa,Bool.not_true,cond_false]
 show (mL l (i:Int)).bind _=_
 rw [hp,aa]
 dsimp only
 unfold gz
 rw [gT,aa,cond_true,aa,eta]
 rfl
theorem DR {t:T} (hok:t.ok) (hn:bC t 1≤12) {l:List ak} {i o:Nat} (hl:l.length≤100000) (hs:Seq l i ((3,bM,0)::toks t 1++ [(3,bD,0)])):
 ∃ e,Is t e∧iC (at' l i o)=some ([e],at' l (i+(toks t 1).length+2) o):=by
 obtain ⟨⟨h1,h2,h3⟩,hr⟩:=Seq.append.1 hs
 simp only [List.length_cons] at hr
 obtain ⟨h4,h5, -⟩:=hr
 have hlen:i+1+(toks t 1).length=i+((toks t 1).length+1):=by omega
 obtain ⟨e,he,hp⟩:=DQ (o:=o) hok hn hl h3 (by omega) (by rw [hlen,vS h5]; decide)
 refine ⟨e,he, ?_⟩
 unfold iC
 rw [gU h1 hl (jK h2 (Or.inl rfl)),aa,hp,aa]
 dsimp only
 rw [hlen,gU h4 hl (jK h5 (Or.inl rfl)),aa]
 rfl
structure H where
 kind:Int
 name:List UInt8
 ev:List UInt8
 x:Option T
 n:Int
inductive B where
 | nil | cons (h:H) (th el rest:B)
def tQ:Option T→List ai→Prop
 | none,l=>l= []
 | some t,l=> ∃ e,l= [e]∧Is t e
def eZ:B→List ah→Prop
 | .nil,l=>l= []
 | .cons h th el rest,l=> ∃ a l',l=a::l'∧a.Kind=h.kind∧a.Name=h.name∧a.Event=h.ev∧tQ h.x a.X∧a.N=h.n∧eZ th a.bE∧eZ el a.bw∧eZ rest l'
def zm (x:Option T):Prop:=match x with
 | none=>True
 | some t=>t.ok∧bC t 1≤12
def H.ok (h:H) (th el:B):Prop:=zm h.x∧
 ((h.kind=1∧cY h.name=true∧h.ev= []∧h.x≠none∧h.n=0∧th= .nil∧el= .nil)∨
  (h.kind=2∧h.name= []∧cY h.ev=true∧h.n=0∧th= .nil∧el= .nil)∨
  (h.kind=3∧cY h.name=true∧cY h.ev=true∧h.n=0∧th= .nil∧el= .nil)∨
  (h.kind=4∧cY h.name=true∧h.ev= []∧h.x≠none∧h.n=0∧th= .nil∧el= .nil)∨
  (h.kind=5∧cY h.name=true∧h.ev= []∧h.x=none∧h.n=0∧th= .nil∧el= .nil)∨
  (h.kind=6∧h.name= []∧h.ev= []∧h.x≠none∧h.n=0)∨
  (h.kind=7∧h.name= []∧h.ev= []∧h.x=none∧0≤h.n∧h.n≤9223372036854775807∧el= .nil))
def B.ok:B→Prop
 | .nil=>True
 | .cons h th el rest=>h.ok th el∧th.ok∧el.ok∧rest.ok
def B.isNil:B→Bool
 | .nil=>true
 | _=>false
def B.dp:B→Nat
 | .nil=>1
 | .cons h th el rest=>max rest.dp (max (if h.kind=6∨h.kind=7 then th.dp+1 else 1) (bif el.isNil then 1 else el.dp+1))
def gL:Option T→List Tk
 | none=> []
 | some t=>(3,bM,0)::toks t 1++ [(3,bD,0)]
def Dj:Option T→List Tk
 | none=> []
 | some t=>toks t 1
def cS (h:H) (th el:List Tk) (Gc:Bool):List Tk:=
 (if h.kind=1 then (1,h.name,0)::(3,pS,0)::Dj h.x++ [(3,bq,0)]
  else if h.kind=2 then (1,gh,0)::(1,h.ev,0)::gL h.x++ [(3,bq,0)]
  else if h.kind=3 then (1,gH,0)::(1,h.name,0)::(1,h.ev,0)::gL h.x++ [(3,bq,0)]
  else if h.kind=4 then (1,hY,0)::(1,h.name,0)::gL h.x++ [(3,bq,0)]
  else if h.kind=5 then [(1,js,0),(1,h.name,0),(3,bq,0)]
  else if h.kind=6 then (1,h_,0)::gL h.x++((3,ju,0)::th++ [(3,dx,0)])++(bif Gc then [] else (1,jT,0)::((3,ju,0)::el++ [(3,dx,0)]))
  else (1,gf,0)::(2,Lib.itoa h.n,h.n)::((3,ju,0)::th++ [(3,dx,0)]))
def cj:B→List Tk
 | .nil=> []
 | .cons h th el rest=>cS h (cj th) (cj el) el.isNil++cj rest
def eG (b:B):List Tk:=(3,ju,0)::cj b++ [(3,dx,0)]
end Go.Sy.Ex
namespace Go.Sy.Ex
open Go.Sy
theorem B.Em: ∀ b:B,1≤b.dp
 | .nil=>Nat.le_refl _
 | .cons h th el rest=>by have :=B.Em rest; simp only [B.dp]; omega
def PB (b:B):Prop:= ∀ (l:List ak) (i o:Nat),l.length≤100000→Seq l i (eG b)→i+(eG b).length<l.length→o+b.dp≤4→
 ∃ cs Z,eZ b cs∧ ∀ k,Z≤k→cK k (at' l i o)=some (cs,at' l (i+(eG b).length) o)
def PI (b:B):Prop:= ∀ (l:List ak) (i o:Nat) (acc:List ah),l.length≤100000→Seq l i (cj b++ [(3,dx,0)])→i+(cj b).length+1<l.length→o+1+b.dp≤5→acc.length≤i→
 ∃ cs Z,eZ b cs∧ ∀ k,Z≤k→ ∀ k',Z≤k'→gm (cK k) k' l (i:Int) 0 0 ((o+1:Nat):Int) acc=some (acc++cs,at' l (i+(cj b).length+1) o)
theorem Dv {b:B} (h:PI b):PB b:=fun l i o hl hs hi ho=>by
 have hd:=b.Em
 unfold eG at hs hi ⊢
 simp only [List.length_append,List.length_cons,List.length_nil] at hi ⊢
 have hs':Seq l i ((3,ju,0)::(cj b++ [(3,dx,0)])):=by simpa using hs
 obtain ⟨h1,h2,h3⟩:=hs'
 obtain ⟨cs,Z,ha,hr⟩:=h l (i+1) o [] hl h3 (by omega) (by omega) (Nat.zero_le _)
 refine ⟨cs,Z+2,ha,fun k hk=> ?_⟩
 obtain ⟨k,rfl⟩: ∃ j,k=j+2:=⟨k - 2,by omega⟩
 show j_ (cK (k+1)) (k+1) (at' l i o)=_
 unfold j_
 rw [rJ h1 h2 ju true (by decide),aa]
 dsimp only [cond_true]
 rw [if_neg (by show ¬ ((o:Nat):Int)=4; omega),nK.eq_2]
 rw [show aG.mk (bg.mk (at' l i o).Row.L (at' l i o).Row.At (aL.mk (at' l i o).Row.bk.Code (at' l i o).Row.bk.At)) (at' l i o).aR=at' l i o from rfl,gU h1 hl (jK h2 (Or.inl rfl)),aa]
 show gm (cK (k+1)) k l ((i+1:Nat):Int) 0 0 (ag (((o:Nat):Int)+1)) []=_
 rw [show ag (((o:Nat):Int)+1)=((o+1:Nat):Int) from by rw [bl (by omega) (by omega)]; omega,hr (k+1) (by omega) k (by omega),List.nil_append]
 congr 3
 omega
theorem Sn {b:B} (hok:b.ok) {l:List ak} {i:Nat} (hs:Seq l i (cj b++ [(3,dx,0)])):aS (aj l i) jT=false:=by
 cases b with
 | nil=>exact lN hs.2.1 (.inr (by decide))
 | cons h th el rest=>
  obtain ⟨⟨_,hk⟩,_⟩:=hok
  simp only [cj] at hs
  rcases hk with ⟨k,a,_⟩ | ⟨k,_⟩ | ⟨k,_⟩ | ⟨k,_⟩ | ⟨k,_⟩ | ⟨k,_⟩ | ⟨k,_⟩
  · unfold cS at hs; rw [k] at hs; simp only [if_true] at hs
    exact lN hs.2.1 (.inr fun q=>by rw [q] at a; revert a; decide)
  · unfold cS at hs; rw [k] at hs; exact lN hs.2.1 (.inr (by decide))
  · unfold cS at hs; rw [k] at hs; exact lN hs.2.1 (.inr (by decide))
  · unfold cS at hs; rw [k] at hs; exact lN hs.2.1 (.inr (by decide))
  · unfold cS at hs; rw [k] at hs; exact lN hs.2.1 (.inr (by decide))
  · unfold cS at hs; rw [k] at hs; exact lN hs.2.1 (.inr (by decide))
  · unfold cS at hs; rw [k] at hs; exact lN hs.2.1 (.inr (by decide))
def tP (h:H) (th el:B) (a:ah):Prop:=a.Kind=h.kind∧a.Name=h.name∧a.Event=h.ev∧tQ h.x a.X∧a.N=h.n∧eZ th a.bE∧eZ el a.bw
theorem I6 {x:Option T} (hx:zm x) {l:List ak} {i o:Nat} (hl:l.length≤100000) (hs:Seq l i (gL x++ [(3,bq,0)])):
 ∃ X,tQ x X∧kK (at' l i o)=some (X,at' l (i+(gL x).length) o):=by
 cases x with
 | none=>
  obtain ⟨h1,h2, -⟩:=hs
  refine ⟨[],rfl, ?_⟩
  unfold kK
  rw [rJ h1 h2 bM false (by decide),aa]
  rfl
 | some t=>
  obtain ⟨hs1,hs2⟩:=Seq.append.1 hs
  obtain ⟨e,he,hp⟩:=DR (o:=o) hx.1 hx.2 hl hs1
  obtain ⟨h1,h2, -⟩:=hs1
  refine ⟨[e],⟨e,rfl,he⟩, ?_⟩
  unfold kK
  rw [rJ h1 h2 bM true (by decide),aa]
  dsimp only [Bool.not_true,cond_false]
  rw [Bool.not_true,cond_false,hp,aa]
  show some ([e],at' l (i+(toks t 1).length+2) o)=some ([e],at' l (i+((3,bM,0)::toks t 1++ [(3,bD,0)]).length) o)
  congr 3
  simp
  omega
theorem rK {l:List ak} {i o:Nat} (hi:i<l.length) (hl:l.length≤100000) {s:List UInt8} (h:strip (aj l i)=(1,s,0)) (hn:cY s=true):fZ (at' l i o)=some (s,at' l (i+1) o):=by
 obtain ⟨k1,k2,_⟩:=gy h
 rw [DV hi hl k1 (by rw [k2]; exact (eX hn).2.2.1),k2]
theorem qd {l:List ak} {i o:Nat} (hi:i<l.length) {k:Int} {s:List UInt8} {n:Int} (h:strip (aj l i)=(k,s,n)) (b:Bool) (hb:b=(decide (k=1)&& !ep s)):oy (at' l i o)=some (b,at' l i o):=by
 obtain ⟨k1,k2,_⟩:=gy h
 rw [wM hi,k1,k2,hb]
theorem PY {h:H} {th el:B} (hok:h.ok th el) (cw:PB th) (hel:PB el) {l:List ak} {i o:Nat} (hl:l.length≤100000) (hs:Seq l i (cS h (cj th) (cj el) el.isNil)) (hi:i+(cS h (cj th) (cj el) el.isNil).length<l.length)
 (hno:aS (aj l (i+(cS h (cj th) (cj el) el.isNil).length)) jT=false) (hd1:h.kind=6∨h.kind=7→o+th.dp≤4) (xm:el.isNil=false→o+el.dp≤4):
 ∃ a Z,tP h th el a∧ ∀ k,Z≤k→eA (cK k) (at' l i o)=some (a,at' l (i+(cS h (cj th) (cj el) el.isNil).length) o):=by
 obtain ⟨hx,hk⟩:=hok
 have aa4:i<l.length:=by omega
 rcases hk with ⟨k,a,b,c,d,e,f⟩ | ⟨k,a,b,c,d,e⟩ | ⟨k,a,b,c,d,e⟩ | ⟨k,a,b,c,d,e,f⟩ | ⟨k,a,b,c,d,e,f⟩ | ⟨k,a,b,c,d⟩ | ⟨k,a,b,c,d,e,f⟩
 · -- x = e;
   have ht:cS h (cj th) (cj el) el.isNil=(1,h.name,0)::(3,pS,0)::(Dj h.x++ [(3,bq,0)]):=by unfold cS; rw [k]; rfl
   rw [ht] at hs hi ⊢
   simp only [List.length_cons,List.length_append,List.length_nil] at hi ⊢
   obtain ⟨h1,h2,h3,h4,hr⟩:=hs
   cases bF:h.x with
   | none=>exact absurd bF c
   | some t=>
    rw [bF] at hx hr hi
    obtain ⟨hs1,h5,h6, -⟩:=Seq.append.1 hr
    have hs1:Seq l (i+1+1) (toks t 1):=hs1
    have h5:i+1+1+(toks t 1).length<l.length:=h5
    have h6:strip (aj l (i+1+1+(toks t 1).length))=(3,bq,0):=h6
    obtain ⟨e',he,hp⟩:=DQ (o:=o) hx.1 hx.2 hl hs1 h5 (by rw [vS h6]; decide)
    refine ⟨ah.mk 1 h.name [] [e'] 0 [] [] (aj l i).At,0,⟨k.symm,rfl,b.symm,by rw [bF]; exact ⟨e',rfl,he⟩,d.symm,by subst e; exact rfl,by subst f; exact rfl⟩,fun q hq=> ?_⟩
    unfold eA
    rw [gS h1,aa]
    dsimp only
    rw [qd h1 h2 true (by rw [(eX a).2.2.1]; rfl),aa]
    dsimp only [cond_true]
    rw [rK h1 hl h2 a,aa]
    dsimp only
    rw [gU h3 hl (jK h4 (Or.inl rfl)),aa,hp,aa]
    dsimp only
    rw [gU h5 hl (jK h6 (Or.inl rfl)),aa]
    rw [show i+1+1+(toks t 1).length+1=i+((Dj (some t)).length+(0+1)+1+1) from by simp [Dj]; omega]
 · -- raise
   have ht:cS h (cj th) (cj el) el.isNil=(1,gh,0)::(1,h.ev,0)::(gL h.x++ [(3,bq,0)]):=by unfold cS; rw [k]; rfl
   rw [ht] at hs hi ⊢
   simp only [List.length_cons,List.length_append,List.length_nil] at hi ⊢
   obtain ⟨h1,h2,h3,h4,hr⟩:=hs
   obtain ⟨X,hX,hp⟩:=I6 (o:=o) hx hl hr
   obtain ⟨-,h5,h6, -⟩:=Seq.append.1 hr
   refine ⟨ah.mk 2 [] h.ev X 0 [] [] (aj l i).At,0,⟨k.symm,a.symm,rfl,hX,c.symm,by subst d; exact rfl,by subst e; exact rfl⟩,fun q hq=> ?_⟩
   unfold eA
   rw [gS h1,aa]
   dsimp only
   rw [qd h1 h2 false (by decide),aa]
   rw [cond_false]
   dsimp only
   rw [fF h1 hl h2 gh true (by decide),aa,if_pos rfl,cond_true]
   dsimp only
   rw [rK h3 hl h4 b,aa]
   dsimp only
   rw [hp,aa]
   dsimp only
   rw [gU h5 hl (jK h6 (Or.inl rfl)),aa]
   rw [show i+1+1+(gL h.x).length+1=i+((gL h.x).length+(0+1)+1+1) from by omega]
 · -- send
   have ht:cS h (cj th) (cj el) el.isNil=(1,gH,0)::(1,h.name,0)::(1,h.ev,0)::(gL h.x++ [(3,bq,0)]):=by unfold cS; rw [k]; rfl
   rw [ht] at hs hi ⊢
   simp only [List.length_cons,List.length_append,List.length_nil] at hi ⊢
   obtain ⟨h1,h2,h3,h4,nV,EL,hr⟩:=hs
   obtain ⟨X,hX,hp⟩:=I6 (o:=o) hx hl hr
   obtain ⟨-,h5,h6, -⟩:=Seq.append.1 hr
   refine ⟨ah.mk 3 h.name h.ev X 0 [] [] (aj l i).At,0,⟨k.symm,rfl,rfl,hX,c.symm,by subst d; exact rfl,by subst e; exact rfl⟩,fun q hq=> ?_⟩
   unfold eA
   rw [gS h1,aa]
   dsimp only
   rw [qd h1 h2 false (by decide),aa]
   rw [cond_false]
   dsimp only
   rw [fF h1 hl h2 gh false (by decide),aa,if_neg (by decide),cond_false]
   dsimp only
   rw [fF h1 hl h2 gH true (by decide),aa,if_pos rfl,cond_true]
   dsimp only
   rw [rK h3 hl h4 a,aa]
   dsimp only
   rw [rK nV hl EL b,aa]
   dsimp only
   rw [hp,aa]
   dsimp only
   rw [gU h5 hl (jK h6 (Or.inl rfl)),aa]
   rw [show i+1+1+1+(gL h.x).length+1=i+((gL h.x).length+(0+1)+1+1+1) from by omega]
 · -- arm
   have ht:cS h (cj th) (cj el) el.isNil=(1,hY,0)::(1,h.name,0)::(gL h.x++ [(3,bq,0)]):=by unfold cS; rw [k]; rfl
   rw [ht] at hs hi ⊢
   simp only [List.length_cons,List.length_append,List.length_nil] at hi ⊢
   obtain ⟨h1,h2,h3,h4,hr⟩:=hs
   cases bF:h.x with
   | none=>exact absurd bF c
   | some t=>
    rw [bF] at hx hr hi
    obtain ⟨hs1,h5,h6, -⟩:=Seq.append.1 hr
    obtain ⟨e',he,hp⟩:=DR (o:=o) hx.1 hx.2 hl hs1
    have Ay:(gL (some t)).length=(toks t 1).length+2:=by simp [gL]
    rw [Ay] at h5 h6 hi ⊢
    have e6:i+1+1+(toks t 1).length+2=i+1+1+((toks t 1).length+2):=by omega
    refine ⟨ah.mk 4 h.name [] [e'] 0 [] [] (aj l i).At,0,⟨k.symm,rfl,b.symm,by rw [bF]; exact ⟨e',rfl,he⟩,d.symm,by subst e; exact rfl,by subst f; exact rfl⟩,fun q hq=> ?_⟩
    unfold eA
    rw [gS h1,aa]
    dsimp only
    rw [qd h1 h2 false (by decide),aa]
    rw [cond_false]
    dsimp only
    rw [fF h1 hl h2 gh false (by decide),aa,if_neg (by decide),cond_false]
    dsimp only
    rw [fF h1 hl h2 gH false (by decide),aa,if_neg (by decide),cond_false]
    dsimp only
    rw [fF h1 hl h2 hY true (by decide),aa,if_pos rfl,cond_true]
    dsimp only
    rw [rK h3 hl h4 a,aa]
    dsimp only
    rw [hp,aa,e6]
    dsimp only
    rw [gU h5 hl (jK h6 (Or.inl rfl)),aa]
    rw [show i+1+1+((toks t 1).length+2)+1=i+((toks t 1).length+2+(0+1)+1+1) from by omega]
 · -- cancel
   have ht:cS h (cj th) (cj el) el.isNil= [(1,js,0),(1,h.name,0),(3,bq,0)]:=by unfold cS; rw [k]; rfl
   rw [ht] at hs hi ⊢
   simp only [List.length_cons,List.length_nil] at hi ⊢
   obtain ⟨h1,h2,h3,h4,h5,h6, -⟩:=hs
   refine ⟨ah.mk 5 h.name [] [] 0 [] [] (aj l i).At,0,⟨k.symm,rfl,b.symm,by rw [c]; exact rfl,d.symm,by subst e; exact rfl,by subst f; exact rfl⟩,fun q hq=> ?_⟩
   unfold eA
   rw [gS h1,aa]
   dsimp only
   rw [qd h1 h2 false (by decide),aa]
   rw [cond_false]
   dsimp only
   rw [fF h1 hl h2 gh false (by decide),aa,if_neg (by decide),cond_false]
   dsimp only
   rw [fF h1 hl h2 gH false (by decide),aa,if_neg (by decide),cond_false]
   dsimp only
   rw [fF h1 hl h2 hY false (by decide),aa,if_neg (by decide),cond_false]
   dsimp only
   rw [fF h1 hl h2 js true (by decide),aa,if_pos rfl,cond_true]
   dsimp only
   rw [rK h3 hl h4 a,aa]
   dsimp only
   rw [gU h5 hl (jK h6 (Or.inl rfl)),aa]
 · -- if
   cases bF:h.x with
   | none=>exact absurd bF c
   | some t=>
    rw [bF] at hx
    have Ay:(gL (some t)).length=(toks t 1).length+2:=by simp [gL]
    have ht:cS h (cj th) (cj el) el.isNil=(1,h_,0)::(gL (some t)++(eG th++(bif el.isNil then [] else (1,jT,0)::eG el))):=by unfold cS eG; rw [k,bF]; simp
    rw [ht] at hs hi hno ⊢
    simp only [List.length_cons,List.length_append] at hi hno ⊢
    rw [Ay] at hi hno ⊢
    obtain ⟨h1,h2,hr⟩:=hs
    obtain ⟨hs1,hr2⟩:=Seq.append.1 hr
    rw [Ay] at hr2
    obtain ⟨hs2,xE⟩:=Seq.append.1 hr2
    obtain ⟨e',he,hp⟩:=DR (o:=o) hx.1 hx.2 hl hs1
    have e6:i+1+(toks t 1).length+2=i+1+((toks t 1).length+2):=by omega
    rw [e6] at hp
    obtain ⟨cs,Z,hcs,qq⟩:=cw l (i+1+((toks t 1).length+2)) o hl hs2 (by omega) (hd1 (.inl k))
    have head: ∀ q,eA (cK q) (at' l i o)=(mE (cK q) (at' l i o) (ah.mk 0 [] [] [] 0 [] [] (aj l i).At)).bind fun eo=>
     some (ah.mk eo.1.Kind eo.1.Name eo.1.Event eo.1.X eo.1.N eo.1.bE eo.1.bw eo.1.At,eo.2):=fun q=>by
     unfold eA
     rw [gS h1,aa]
     dsimp only
     rw [qd h1 h2 false (by decide),aa]
     rw [cond_false]
     dsimp only
     rw [fF h1 hl h2 gh false (by decide),aa,if_neg (by decide),cond_false]
     dsimp only
     rw [fF h1 hl h2 gH false (by decide),aa,if_neg (by decide),cond_false]
     dsimp only
     rw [fF h1 hl h2 hY false (by decide),aa,if_neg (by decide),cond_false]
     dsimp only
     rw [fF h1 hl h2 js false (by decide),aa,if_neg (by decide),cond_false]
     dsimp only
     rw [rJ h1 h2 h_ true (by decide),aa,cond_true,cond_true]
    have whole: ∀ q,Z≤q→mE (cK q) (at' l i o) (ah.mk 0 [] [] [] 0 [] [] (aj l i).At)=(gA (at' l (i+1+((toks t 1).length+2)+(eG th).length) o) jT).bind fun r7=>
     bif r7.1 then
     (cK q r7.2).bind fun r8=>
     some (ah.mk 6 [] [] [e'] 0 cs r8.1 (aj l i).At,r8.2) else
     some (ah.mk 6 [] [] [e'] 0 cs [] (aj l i).At,r7.2):=fun q hq=>by
     unfold mE
     rw [fF h1 hl h2 gf false (by decide),aa,if_neg (by decide),cond_false]
     dsimp only
     rw [gU h1 hl (jK h2 (Or.inr rfl)),aa,hp,aa]
     dsimp only
     rw [qq q hq,aa]
    cases jG:el.isNil with
    | true=>
     have KY:el= .nil:=by cases el with
      | nil=>rfl
      | cons _ _ _ _=>cases jG
     rw [jG] at hno
     simp only [cond_true,List.length_nil,Nat.add_zero] at hno ⊢
     rw [jG] at hi
     simp only [cond_true,List.length_nil,Nat.add_zero] at hi
     have ee:i+1+((toks t 1).length+2)+(eG th).length=i+((toks t 1).length+2+(eG th).length+1):=by omega
     refine ⟨ah.mk 6 [] [] [e'] 0 cs [] (aj l i).At,Z,⟨k.symm,a.symm,b.symm,by rw [bF]; exact ⟨e',rfl,he⟩,d.symm,hcs,by rw [KY]; exact rfl⟩,fun q hq=> ?_⟩
     rw [head,whole q hq,ee,fQ (by omega) hl,hno,aa,if_neg (by decide),cond_false,aa]
    | false=>
     rw [jG] at xE hi
     simp only [cond_false,List.length_cons] at xE hi ⊢
     obtain ⟨h7,h8,T9⟩:=xE
     obtain ⟨ds,Z2,hds,mT⟩:=hel l _ o hl T9 (by omega) (xm jG)
     refine ⟨ah.mk 6 [] [] [e'] 0 cs ds (aj l i).At,Z+Z2,⟨k.symm,a.symm,b.symm,by rw [bF]; exact ⟨e',rfl,he⟩,d.symm,hcs,hds⟩,fun q hq=> ?_⟩
     rw [head,whole q (by omega),fF h7 hl h8 jT true (by decide),aa,if_pos rfl,cond_true]
     dsimp only
     rw [mT q (by omega),aa,aa]
     rw [show i+1+((toks t 1).length+2)+(eG th).length+1+(eG el).length=i+((toks t 1).length+2+((eG th).length+((eG el).length+1))+1) from by omega]
 · -- loop
   have ht:cS h (cj th) (cj el) el.isNil=(1,gf,0)::(2,Lib.itoa h.n,h.n)::eG th:=by unfold cS eG; rw [k]; rfl
   rw [ht] at hs hi ⊢
   simp only [List.length_cons] at hi ⊢
   obtain ⟨h1,h2,h3,h4,hr⟩:=hs
   obtain ⟨cs,Z,hcs,qq⟩:=cw l (i+1+1) o hl hr (by omega) (hd1 (.inr k))
   refine ⟨ah.mk 7 [] [] [] h.n cs [] (aj l i).At,Z,⟨k.symm,a.symm,b.symm,by rw [c]; exact rfl,rfl,hcs,by subst f; exact rfl⟩,fun q hq=> ?_⟩
   unfold eA
   rw [gS h1,aa]
   dsimp only
   rw [qd h1 h2 false (by decide),aa]
   rw [cond_false]
   dsimp only
   rw [fF h1 hl h2 gh false (by decide),aa,if_neg (by decide),cond_false]
   dsimp only
   rw [fF h1 hl h2 gH false (by decide),aa,if_neg (by decide),cond_false]
   dsimp only
   rw [fF h1 hl h2 hY false (by decide),aa,if_neg (by decide),cond_false]
   dsimp only
   rw [fF h1 hl h2 js false (by decide),aa,if_neg (by decide),cond_false]
   dsimp only
   rw [rJ h1 h2 h_ false (by decide),aa,cond_false]
   dsimp only
   rw [rJ h1 h2 gf true (by decide),aa,cond_true]
   dsimp only
   unfold mE
   rw [fF h1 hl h2 gf true (by decide),aa,if_pos rfl,cond_true]
   dsimp only
   have uE:oz (at' l (i+1) o)=some (h.n,at' l (i+1+1) o):=by
    unfold oz
    rw [gS h3,aa]
    dsimp only
    rw [if_neg (by rw [(gy h4).1]; decide),(gy h4).2.2]
    show some (h.n,(⟨⟨l,ag (((i+1:Nat):Int)+1),⟨0,0⟩⟩,(o:Int)⟩:aG))=_
    rw [dS h3 hl]; rfl
   rw [uE,aa]
   dsimp only
   rw [qq q hq,aa,aa]
   rw [show i+1+1+(eG th).length=i+((eG th).length+1+1) from by omega]
end Go.Sy.Ex
namespace Go.Sy.Ex
open Go.Sy
theorem So {h:H} {th el:B} {K:List Tk} (hok:h.ok th el) {l:List ak} {i:Nat} (hs:Seq l i (cS h (cj th) (cj el) el.isNil++K)):i<l.length∧aS (aj l i) dx=false:=by
 obtain ⟨_,hk⟩:=hok
 rcases hk with ⟨k,a,_⟩ | ⟨k,_⟩ | ⟨k,_⟩ | ⟨k,_⟩ | ⟨k,_⟩ | ⟨k,_⟩ | ⟨k,_⟩
 · unfold cS at hs; rw [k] at hs; simp only [if_true] at hs
   exact ⟨hs.1,lN hs.2.1 (.inr fun q=>by rw [q] at a; revert a; decide)⟩
 all_goals unfold cS at hs; rw [k] at hs; exact ⟨hs.1,lN hs.2.1 (.inr (by decide))⟩
theorem Pj: ∀ b:B,b.ok→PI b:=by
 intro b
 induction b with
 | nil=>
  intro _ l i o acc hl hs hi ho hacc
  obtain ⟨h1,h2, -⟩:=hs
  refine ⟨[],1,rfl,fun k hk k' hk'=> ?_⟩
  obtain ⟨k',rfl⟩: ∃ j,k'=j+1:=⟨k' - 1,by omega⟩
  rw [gm.eq_2]
  rw [show aG.mk (bg.mk l (i:Int) (aL.mk 0 0)) ((o+1:Nat):Int)=at' l i (o+1) from rfl,gT,aa,cond_true]
  dsimp only
  rw [fF h1 hl h2 dx true (by decide),aa,if_pos rfl,Bool.not_true,cond_false,List.append_nil]
  show some (acc,(⟨⟨l,((i+1:Nat):Int),⟨0,0⟩⟩,ag (((o+1:Nat):Int) - 1)⟩:aG))=_
  rw [show ag (((o+1:Nat):Int) - 1)=(o:Int) from by rw [bl (by omega) (by omega)]; omega]
  rfl
 | cons h th el rest ih1 ih2 ih3=>
  rintro ⟨hok,lP,pq,og⟩ l i o acc hl hs hi ho hacc
  have hd:o+1+(B.cons h th el rest).dp≤5:=ho
  simp only [B.dp] at hd
  have hd1:h.kind=6∨h.kind=7→o+1+th.dp≤4:=fun q=>by rw [if_pos q] at hd; omega
  have xm:el.isNil=false→o+1+el.dp≤4:=fun q=>by rw [q,cond_false] at hd; omega
  simp only [cj] at hs hi ⊢
  rw [List.append_assoc] at hs
  obtain ⟨uA,sE⟩:=So hok hs
  obtain ⟨hs1,hs2⟩:=Seq.append.1 hs
  simp only [List.length_append] at hi ⊢
  obtain ⟨a,Z,ha,dG⟩:=PY (o:=o+1) hok (Dv (ih1 lP)) (Dv (ih2 pq)) hl hs1 (by omega) (Sn og hs2) hd1 xm
  have aa0:1≤(cS h (cj th) (cj el) el.isNil).length:=by
   unfold cS; repeat' split
   all_goals simp
  obtain ⟨cs,Z2,hcs,hrc⟩:=ih3 og l (i+(cS h (cj th) (cj el) el.isNil).length) o (acc++ [a]) hl hs2 (by omega) (by omega) (by rw [List.length_append,List.length_singleton]; omega)
  refine ⟨a::cs,Z+Z2+1,⟨a,cs,rfl,ha.1,ha.2.1,ha.2.2.1,ha.2.2.2.1,ha.2.2.2.2.1,ha.2.2.2.2.2.1,ha.2.2.2.2.2.2,hcs⟩,fun k hk k' hk'=> ?_⟩
  obtain ⟨k',rfl⟩: ∃ j,k'=j+1:=⟨k' - 1,by omega⟩
  rw [gm.eq_2]
  rw [show aG.mk (bg.mk l (i:Int) (aL.mk 0 0)) ((o+1:Nat):Int)=at' l i (o+1) from rfl,gT,aa,cond_true]
  dsimp only
  rw [fQ uA hl,aa,sE,Bool.not_false,cond_true,if_neg (by decide),dG k (by omega),aa,if_pos (by simp only [List.length_singleton]; omega)]
  have :=hrc k (by omega) k' (by omega)
  rw [show acc++a::cs=(acc++ [a])++cs from by simp,show i+((cS h (cj th) (cj el) el.isNil).length+(cj rest).length)+1=i+(cS h (cj th) (cj el) el.isNil).length+(cj rest).length+1 from by omega]
  exact this
theorem Xg {b:B} (hok:b.ok) (hd:b.dp≤4) {s:List UInt8} (h:Lx s (eG b)) (hl:s.length≤16384): ∃ l cs,iY s=(l,aL.mk 0 0)∧l.length=(eG b).length+1∧eZ b cs∧mD l 0=some (cs,((eG b).length:Int),⟨0,0⟩):=by
 obtain ⟨l,h1,h2⟩:=h.all hl
 have hlen:l.length=(eG b).length+1:=by
  have :=congrArg List.length h2
  simpa using this
 have qt:l.length≤100000:=by have :=DT s; rw [h1] at this; dsimp only at this; omega
 have hs:Seq l 0 (eG b):=H8 (R:= [(4,[],0)]) (by rw [List.drop_zero]; exact h2)
 obtain ⟨cs,Z,hcs,hr⟩:=Dv (Pj b hok) l 0 0 qt hs (by omega) (by omega)
 refine ⟨l,cs,h1,hlen,hcs, ?_⟩
 unfold mD
 rw [show rG (aG.mk (bg.mk l 0 (aL.mk 0 0)) 0)=some (cs,at' l (0+(eG b).length) 0) from b6 Z hr,aa,gT,aa,Bool.not_true,cond_false,Nat.zero_add]
 rfl
theorem UY {b:B} (hok:b.ok) (hd:b.dp≤4) {s:List UInt8} (h:Lx s (eG b)) (hl:s.length≤16384): ∃ cs,eZ b cs∧qy s=some (cs,true):=by
 obtain ⟨l,cs,h1,h2,h3,h4⟩:=Xg hok hd h hl
 refine ⟨cs,h3, ?_⟩
 unfold qy
 rw [LH,aa,h1]
 dsimp only
 rw [if_neg (by simp),h4,aa]
 dsimp only
 have qt:l.length≤16385:=by have :=DT s; rw [h1] at this; exact this
 rw [if_pos rfl,bl (by omega) (by omega),decide_eq_true (by omega)]
def rep (n:Nat):List UInt8:=Lib.repeatL tI n
def gG:Option T→List UInt8
 | none=> []
 | some t=>pr t 1
def wX:Option T→List UInt8
 | none=> []
 | some t=>bM++pr t 1++bD
def bQ (h:H) (th el:List UInt8) (Gc:Bool):List UInt8:=
 if h.kind=1 then h.name++jU++gG h.x++bq
  else if h.kind=2 then jv++h.ev++wX h.x++bq
  else if h.kind=3 then fK++h.name++aT++h.ev++wX h.x++bq
  else if h.kind=4 then jS++h.name++wX h.x++bq
  else if h.kind=5 then l9++h.name++bq
  else if h.kind=6 then jt++wX h.x++aT++th++(bif Gc then [] else qU++el)
  else lp++Lib.itoa h.n++aT++th
def blk (b:B) (s:List UInt8) (d:Nat):List UInt8:=bif b.isNil then CX else tH++s++rep d++dx
def eE:B→Nat→List UInt8
 | .nil,_=> []
 | .cons h th el rest,d=>rep d++bQ h (blk th (eE th (d+1)) d) (blk el (eE el (d+1)) d) el.isNil++ [10]++eE rest d
def cI (b:B) (d:Nat):List UInt8:=blk b (eE b (d+1)) d
end Go.Sy.Ex
namespace Go.Sy.Ex
open Go.Sy
def Wr (self:List UInt8→List ah→Int→Option (List UInt8)) (l:List ah) (d:Nat) (s:List UInt8):Prop:= ∀ b:List UInt8,(b++s).length≤140737488355328→self b l (d:Int)=some (b++s)
theorem uK {el:B} {l:List ah} (h:eZ el l):(0<(l.length:Int))↔el.isNil=false:=by
 cases el with
 | nil=>rw [show l= [] from h]; simp [B.isNil]
 | cons _ _ _ _=>obtain ⟨a,l',rfl,_⟩:=h; simp [B.isNil]
theorem V7 {h:H} {th el:B} {act:ah} (hok:h.ok th el) (ha:tP h th el act) {self:List UInt8→List ah→Int→Option (List UInt8)} {d:Nat} {st se:List UInt8} (ht:Wr self act.bE d st) (he:Wr self act.bw d se) {b:List UInt8}
 (hl:(b++bQ h st se el.isNil).length≤140737488355328) (k:Nat):jB self (k+1) b (d:Int) act.Kind act.Name act.Event act.X act.N act.bE act.bw act.At (gG h.x) act.X (act.X.length:Int) (act.X.length:Int)=some (b++bQ h st se el.isNil):=by
 obtain ⟨hx,hk⟩:=hok
 obtain ⟨a1,a2,a3,a4,a5,a6,a7⟩:=ha
 rcases hk with ⟨kk,a,b',c,d',e,f⟩ | ⟨kk,a,b',c,d',e⟩ | ⟨kk,a,b',c,d',e⟩ | ⟨kk,a,b',c,d',e,f⟩ | ⟨kk,a,b',c,d',e,f⟩ | ⟨kk,a,b',c,d'⟩ | ⟨kk,a,b',c,d',e,f⟩
 · -- kind 1
   cases bF:h.x with
   | none=>exact absurd bF c
   | some t=>
    obtain ⟨e0,hX,jd⟩: ∃ e0,act.X= [e0]∧Is t e0:=by rw [bF] at a4; exact a4
    have hp:bQ h st se el.isNil=h.name++jU++pr t 1++bq:=by unfold bQ; rw [kk,bF]; rfl
    rw [hp] at hl ⊢
    rw [show gG (some t)=pr t 1 from rfl]
    simp only [List.length_append,List.length_cons,List.length_nil] at hl
    rw [a1,kk,jB.eq_2,if_neg (by omega),if_pos (by rw [hX]; simp),if_pos (by simp only [List.length_append,List.length_cons,List.length_nil]; omega),if_pos (by simp only [List.length_append,List.length_cons,List.length_nil]; omega),a2,a3,if_pos rfl,if_pos (by simp only [List.length_append,List.length_cons,List.length_nil]; omega),if_pos (by simp only [List.length_append,List.length_cons,List.length_nil]; omega),if_pos (by simp only [List.length_append,List.length_cons,List.length_nil]; omega),fN (by simp only [List.length_append,List.length_cons,List.length_nil]; omega),aa]
    all_goals first | rfl | simp
 · -- kind 2
   cases bF:h.x with
   | none=>
    have hX:act.X= []:=by rw [bF] at a4; exact a4
    have hp:bQ h st se el.isNil=jv++h.ev++ []++bq:=by unfold bQ; rw [kk,bF]; rfl
    rw [hp] at hl ⊢
    rw [show gG none= [] from rfl]
    simp only [List.length_append,List.length_cons,List.length_nil] at hl
    rw [a1,kk,jB.eq_2,if_neg (by omega),if_neg (by rw [hX]; simp),a2,a3,if_neg (by decide),if_pos rfl,if_pos (by simp only [List.length_append,List.length_cons,List.length_nil]; omega),if_pos (by simp only [List.length_append,List.length_cons,List.length_nil]; omega),if_pos (by simp only [List.length_append,List.length_cons,List.length_nil]; omega),fN (by simp only [List.length_append,List.length_cons,List.length_nil]; omega),aa]
    all_goals first | rfl | simp
   | some t=>
    obtain ⟨e0,hX,jd⟩: ∃ e0,act.X= [e0]∧Is t e0:=by rw [bF] at a4; exact a4
    have hp:bQ h st se el.isNil=jv++h.ev++(bM++pr t 1++bD)++bq:=by unfold bQ; rw [kk,bF]; rfl
    rw [hp] at hl ⊢
    rw [show gG (some t)=pr t 1 from rfl]
    simp only [List.length_append,List.length_cons,List.length_nil] at hl
    rw [a1,kk,jB.eq_2,if_neg (by omega),if_pos (by rw [hX]; simp),if_pos (by simp only [List.length_append,List.length_cons,List.length_nil]; omega),if_pos (by simp only [List.length_append,List.length_cons,List.length_nil]; omega),a2,a3,if_neg (by decide),if_pos rfl,if_pos (by simp only [List.length_append,List.length_cons,List.length_nil]; omega),if_pos (by simp only [List.length_append,List.length_cons,List.length_nil]; omega),if_pos (by simp only [List.length_append,List.length_cons,List.length_nil]; omega),fN (by simp only [List.length_append,List.length_cons,List.length_nil]; omega),aa]
    all_goals first | rfl | simp
 · -- kind 3
   cases bF:h.x with
   | none=>
    have hX:act.X= []:=by rw [bF] at a4; exact a4
    have hp:bQ h st se el.isNil=fK++h.name++aT++h.ev++ []++bq:=by unfold bQ; rw [kk,bF]; rfl
    rw [hp] at hl ⊢
    rw [show gG none= [] from rfl]
    simp only [List.length_append,List.length_cons,List.length_nil] at hl
    rw [a1,kk,jB.eq_2,if_neg (by omega),if_neg (by rw [hX]; simp),a2,a3,if_neg (by decide),if_neg (by decide),if_pos rfl,if_pos (by simp only [List.length_append,List.length_cons,List.length_nil]; omega),if_pos (by simp only [List.length_append,List.length_cons,List.length_nil]; omega),if_pos (by simp only [List.length_append,List.length_cons,List.length_nil]; omega),if_pos (by simp only [List.length_append,List.length_cons,List.length_nil]; omega),if_pos (by simp only [List.length_append,List.length_cons,List.length_nil]; omega),fN (by simp only [List.length_append,List.length_cons,List.length_nil]; omega),aa]
    all_goals first | rfl | simp
   | some t=>
    obtain ⟨e0,hX,jd⟩: ∃ e0,act.X= [e0]∧Is t e0:=by rw [bF] at a4; exact a4
    have hp:bQ h st se el.isNil=fK++h.name++aT++h.ev++(bM++pr t 1++bD)++bq:=by unfold bQ; rw [kk,bF]; rfl
    rw [hp] at hl ⊢
    rw [show gG (some t)=pr t 1 from rfl]
    simp only [List.length_append,List.length_cons,List.length_nil] at hl
    rw [a1,kk,jB.eq_2,if_neg (by omega),if_pos (by rw [hX]; simp),if_pos (by simp only [List.length_append,List.length_cons,List.length_nil]; omega),if_pos (by simp only [List.length_append,List.length_cons,List.length_nil]; omega),a2,a3,if_neg (by decide),if_neg (by decide),if_pos rfl,if_pos (by simp only [List.length_append,List.length_cons,List.length_nil]; omega),if_pos (by simp only [List.length_append,List.length_cons,List.length_nil]; omega),if_pos (by simp only [List.length_append,List.length_cons,List.length_nil]; omega),if_pos (by simp only [List.length_append,List.length_cons,List.length_nil]; omega),if_pos (by simp only [List.length_append,List.length_cons,List.length_nil]; omega),fN (by simp only [List.length_append,List.length_cons,List.length_nil]; omega),aa]
    all_goals first | rfl | simp
 · -- kind 4
   cases bF:h.x with
   | none=>exact absurd bF c
   | some t=>
    obtain ⟨e0,hX,jd⟩: ∃ e0,act.X= [e0]∧Is t e0:=by rw [bF] at a4; exact a4
    have hp:bQ h st se el.isNil=jS++h.name++(bM++pr t 1++bD)++bq:=by unfold bQ; rw [kk,bF]; rfl
    rw [hp] at hl ⊢
    rw [show gG (some t)=pr t 1 from rfl]
    simp only [List.length_append,List.length_cons,List.length_nil] at hl
    rw [a1,kk,jB.eq_2,if_neg (by omega),if_pos (by rw [hX]; simp),if_pos (by simp only [List.length_append,List.length_cons,List.length_nil]; omega),if_pos (by simp only [List.length_append,List.length_cons,List.length_nil]; omega),a2,a3,if_neg (by decide),if_neg (by decide),if_neg (by decide),if_pos rfl,if_pos (by simp only [List.length_append,List.length_cons,List.length_nil]; omega),if_pos (by simp only [List.length_append,List.length_cons,List.length_nil]; omega),if_pos (by simp only [List.length_append,List.length_cons,List.length_nil]; omega),fN (by simp only [List.length_append,List.length_cons,List.length_nil]; omega),aa]
    all_goals first | rfl | simp
 · -- kind 5
   cases bF:h.x with
   | none=>
    have hX:act.X= []:=by rw [bF] at a4; exact a4
    have hp:bQ h st se el.isNil=l9++h.name++bq:=by unfold bQ; rw [kk,bF]; rfl
    rw [hp] at hl ⊢
    rw [show gG none= [] from rfl]
    simp only [List.length_append,List.length_cons,List.length_nil] at hl
    rw [a1,kk,jB.eq_2,if_neg (by omega),if_neg (by rw [hX]; simp),a2,a3,if_neg (by decide),if_neg (by decide),if_neg (by decide),if_neg (by decide),if_pos rfl,if_pos (by simp only [List.length_append,List.length_cons,List.length_nil]; omega),if_pos (by simp only [List.length_append,List.length_cons,List.length_nil]; omega),fN (by simp only [List.length_append,List.length_cons,List.length_nil]; omega),aa]
    all_goals first | rfl | simp
   | some t=>rw [bF] at c; cases c
 · -- kind 6
   cases bF:h.x with
   | none=>exact absurd bF c
   | some t=>
    obtain ⟨e0,hX,jd⟩: ∃ e0,act.X= [e0]∧Is t e0:=by rw [bF] at a4; exact a4
    have hp:bQ h st se el.isNil=jt++(bM++pr t 1++bD)++aT++st++(bif el.isNil then [] else qU++se):=by unfold bQ; rw [kk,bF]; rfl
    rw [hp] at hl ⊢
    rw [show gG (some t)=pr t 1 from rfl]
    simp only [List.length_append,List.length_cons,List.length_nil] at hl
    rw [a1,kk,jB.eq_2,if_neg (by omega),if_pos (by rw [hX]; simp),if_pos (by simp only [List.length_append,List.length_cons,List.length_nil]; omega),if_pos (by simp only [List.length_append,List.length_cons,List.length_nil]; omega),a2,a3,if_neg (by decide),if_neg (by decide),if_neg (by decide),if_neg (by decide),if_neg (by decide),if_pos rfl,if_pos (by simp only [List.length_append,List.length_cons,List.length_nil]; omega),if_pos (by simp only [List.length_append,List.length_cons,List.length_nil]; omega),fN (by simp only [List.length_append,List.length_cons,List.length_nil]; omega),aa]
    dsimp only
    rw [ht _ (by simp only [List.length_append,List.length_cons,List.length_nil]; omega),aa]
    cases hn:el.isNil with
    | true=>rw [if_neg (by rw [uK a7,hn]; simp)]; simp
    | false=>
     rw [hn,cond_false] at hl
     simp only [List.length_append,List.length_cons,List.length_nil] at hl
     rw [if_pos ((uK a7).2 hn),fN (by simp only [List.length_append,List.length_cons,List.length_nil]; omega),aa]
     dsimp only
     rw [he _ (by simp only [List.length_append,List.length_cons,List.length_nil]; omega),aa]
     simp
 · -- kind 7
   cases bF:h.x with
   | none=>
    have hX:act.X= []:=by rw [bF] at a4; exact a4
    have hp:bQ h st se el.isNil=lp++Lib.itoa h.n++aT++st:=by unfold bQ; rw [kk,bF]; rfl
    rw [hp] at hl ⊢
    rw [show gG none= [] from rfl]
    simp only [List.length_append,List.length_cons,List.length_nil] at hl
    rw [a1,kk,jB.eq_2,if_neg (by omega),if_neg (by rw [hX]; simp),a2,a3,if_neg (by decide),if_neg (by decide),if_neg (by decide),if_neg (by decide),if_neg (by decide),if_neg (by decide),if_pos rfl,a5,show qE h.n=some (Lib.itoa h.n) from by unfold qE; rw [if_pos ⟨by omega,e⟩],aa,if_pos (by simp only [List.length_append,List.length_cons,List.length_nil]; omega),if_pos (by simp only [List.length_append,List.length_cons,List.length_nil]; omega),fN (by simp only [List.length_append,List.length_cons,List.length_nil]; omega),aa]
    dsimp only
    rw [ht _ (by simp only [List.length_append,List.length_cons,List.length_nil]; omega),aa]
    simp
   | some t=>rw [bF] at c; cases c
theorem V3 {h:H} {th el:B} {act:ah} (hok:h.ok th el) (ha:tP h th el act) {self:List UInt8→List ah→Int→Option (List UInt8)} {d:Nat} {st se:List UInt8} (ht:Wr self act.bE d st) (he:Wr self act.bw d se) {b:List UInt8}
 (hl:(b++bQ h st se el.isNil).length≤140737488355328) (AA:(gG h.x).length≤140737488355328):zv self b act (d:Int)=some (b++bQ h st se el.isNil):=b6 2 fun k hk=>by
 obtain ⟨k,rfl⟩: ∃ j,k=j+2:=⟨k - 2,by omega⟩
 show jB self (k+2) b (d:Int) act.Kind act.Name act.Event act.X act.N act.bE act.bw act.At [] act.X (act.X.length:Int) 0=_
 have key:=V7 hok ha ht he hl
 have hX:=ha.2.2.2.1
 cases bF:h.x with
 | none=>
  rw [bF] at hX
  have hX:act.X= []:=hX
  have :=key (k+1)
  rw [bF,hX] at this
  rw [hX]
  exact this
 | some t=>
  rw [bF] at hX AA
  obtain ⟨e,hX,hi⟩:=hX
  have hto:t.ok:=by have :=hok.1; rw [bF] at this; exact this.1
  have :=key k
  rw [bF,hX] at this
  rw [hX,jB.eq_2,if_pos (by simp),if_pos (by decide),if_pos (by simp),show [e].getD (0:Int).toNat ai.z=e from rfl,eta,WE hi hto AA,aa,show ag ((0:Int)+1)=1 from by rw [bl (by decide) (by decide)]; rfl]
  exact this
theorem WD (h:H) (st se:List UInt8) (n:Bool) (th el:B) (hok:h.ok th el):(gG h.x).length≤(bQ h st se n).length:=by
 obtain ⟨hx,hk⟩:=hok
 rcases hk with ⟨k,a,b,c,d,e,f⟩ | ⟨k,a,b,c,d,e⟩ | ⟨k,a,b,c,d,e⟩ | ⟨k,a,b,c,d,e,f⟩ | ⟨k,a,b,c,d,e,f⟩ | ⟨k,a,b,c,d⟩ | ⟨k,a,b,c,d,e,f⟩
 all_goals
  unfold bQ; rw [k]
  cases bF:h.x <;> first | (rw [bF] at c; cases c; done) | (simp [gG,wX] <;> omega)
theorem zz (a:ah):ah.mk a.Kind a.Name a.Event a.X a.N a.bE a.bw a.At=a:=by cases a; rfl
theorem NA (n:Nat) (h:n≤1000000):qG tI (n:Int)=some (rep n):=by
 unfold qG
 rw [if_pos ⟨by omega,by omega,by rw [Int.toNat_natCast]; show 2*n≤_; omega⟩,Int.toNat_natCast]; rfl
def B.sz:B→Nat
 | .nil=>1
 | .cons _ th el rest=>th.sz+el.sz+rest.sz+1
theorem zo: ∀ (b:B) (l:List ah),eZ b l→l.length+1≤b.sz
 | .nil,l,h=>by rw [show l= [] from h]; exact Nat.le_refl _
 | .cons _ _ _ rest,l,⟨a,l',h,_,_,_,_,_,_,_,hr⟩=>by
  have :=zo rest l' hr
  subst h
  simp only [B.sz,List.length_cons]; omega
theorem Q5: ∀ (b:B) (l:List ah) (d:Nat),eZ b l→b.ok→d+b.sz≤900000→
 (∀ k,b.sz+3≤k→Wr (oQ k) l d (cI b d))∧
 (∀ (pre:List ah) (s:List UInt8) (k k':Nat),b.sz+2≤k→b.sz+1≤k'→pre.length≤1000000000→(pre++l).length≤1000000000→(s++eE b (d+1)++rep d++dx).length≤140737488355328→
  rF (oQ k) k' s (d:Int) (pre++l) ((pre++l).length:Int) (pre.length:Int)=some (s++eE b (d+1)++rep d++dx)):=by
 intro b
 induction b with
 | nil=>
  intro l d hl _ hd
  have hl:l= []:=hl
  subst hl
  simp only [B.sz] at hd
  refine ⟨fun k hk b hb=> ?_,fun pre s k k' hk hk' sH kQ hlen=> ?_⟩
  · obtain ⟨k,rfl⟩: ∃ j,k=j+1:=⟨k - 1,by omega⟩
    show tT (oQ k) k b [] _=_
    unfold tT
    have hb:(b++CX).length≤140737488355328:=hb
    rw [if_pos (by rfl),fN (by rw [List.length_append] at hb; exact hb),aa]
    rfl
  · obtain ⟨k',rfl⟩: ∃ j,k'=j+1:=⟨k' - 1,by omega⟩
    simp only [eE,List.append_nil,List.length_append,List.length_cons,List.length_nil] at hlen ⊢
    rw [rF.eq_2,if_neg (by omega),NA d (by omega),aa,if_pos (by simp only [List.length_cons,List.length_nil]; omega),fN (by simp only [List.length_append,List.length_cons,List.length_nil]; omega),aa, ← List.append_assoc]
 | cons h th el rest ih1 ih2 ih3=>
  rintro l d ⟨a,l',rfl,a1,a2,a3,a4,a5,a6,a7,a8⟩ ⟨hok,lP,pq,og⟩ hd
  simp only [B.sz] at hd
  have mV: ∀ (pre:List ah) (s:List UInt8) (k k':Nat),(B.cons h th el rest).sz+2≤k→(B.cons h th el rest).sz+1≤k'→pre.length≤1000000000→(pre++a::l').length≤1000000000→(s++eE (B.cons h th el rest) (d+1)++rep d++dx).length≤140737488355328→
   rF (oQ k) k' s (d:Int) (pre++a::l') ((pre++a::l').length:Int) (pre.length:Int)=some (s++eE (B.cons h th el rest) (d+1)++rep d++dx):=by
   intro pre s k k' hk hk' sH kQ hlen
   simp only [B.sz] at hk hk'
   obtain ⟨k',rfl⟩: ∃ j,k'=j+1:=⟨k' - 1,by omega⟩
   simp only [eE] at hlen ⊢
   have hpos:pre.length<(pre++a::l').length:=by simp
   have fU:(pre++a::l').getD (pre.length:Int).toNat ah.z=a:=by rw [Int.toNat_natCast,List.getD_eq_getElem?_getD,List.getElem?_append_right (Nat.le_refl _),Nat.sub_self]; rfl
   have hw:ag ((d:Int)+1)=((d+1:Nat):Int):=by rw [bl (by omega) (by omega)]; omega
   have hwn:ag ((pre.length:Int)+1)=((pre++ [a]).length:Int):=by rw [bl (by omega) (by omega)]; simp
   rw [rF.eq_2,if_pos (by omega),if_pos (by omega),if_pos (by omega),fU,zz,hw,NA (d+1) (by omega),aa]
   have hA:=WD h (blk th (eE th (d+1+1)) (d+1)) (blk el (eE el (d+1+1)) (d+1)) el.isNil th el hok
   simp only [List.length_append,List.length_cons,List.length_nil] at hlen
   rw [fN (by omega),aa]
   dsimp only
   rw [V3 (d:=d+1) hok ⟨a1,a2,a3,a4,a5,a6,a7⟩ ((ih1 a.bE (d+1) a6 lP (by omega)).1 k (by omega)) ((ih2 a.bw (d+1) a7 pq (by omega)).1 k (by omega)) (by simp only [List.length_append,List.length_cons,List.length_nil,cI]; omega) (by omega),aa]
   rw [jF (by simp only [List.length_append,List.length_cons,List.length_nil,cI]; omega) (by decide) (by decide),aa]
   dsimp only
   have :=(ih3 l' d a8 og (by omega)).2 (pre++ [a]) (s++rep (d+1)++bQ h (cI th (d+1)) (cI el (d+1)) el.isNil++ [10]) k k' (by omega) (by omega) (by rw [List.length_append] at kQ ⊢; simp at kQ ⊢; omega) (by rw [List.append_assoc]; exact kQ) (by simp only [List.length_append,List.length_cons,List.length_nil,cI]; omega)
   rw [hwn,show (pre++a::l')=(pre++ [a])++l' from by simp]
   refine this.trans ?_
   simp [cI]
  refine ⟨fun k hk b hb=> ?_,mV⟩
  obtain ⟨k,rfl⟩: ∃ j,k=j+1:=⟨k - 1,by omega⟩
  show tT (oQ k) k b (a::l') _=_
  unfold tT
  have e1:cI (B.cons h th el rest) d=tH++eE (B.cons h th el rest) (d+1)++rep d++dx:=rfl
  rw [e1] at hb ⊢
  simp only [List.length_append,List.length_cons,List.length_nil] at hb
  rw [if_neg (by simp; omega),fN (by simp only [List.length_cons,List.length_nil]; omega),aa]
  dsimp only
  have hlen:=zo rest l' a8
  have :=mV [] (b++tH) k k (by simp only [B.sz] at hk ⊢; omega) (by simp only [B.sz] at hk ⊢; omega) (by simp) (by simp; omega) (by simp only [List.length_append,List.length_cons,List.length_nil]; omega)
  refine this.trans ?_
  simp
theorem QA {b:B} {l:List ah} (h:eZ b l) (hok:b.ok) (d:Nat) (hd:d+b.sz≤900000) (hl:(cI b d).length≤140737488355328) (v:Int) (hv:max v 0=(d:Int)):wH l v=some (cI b d):=by
 unfold wH
 rw [hv,show zu [] l (d:Int)=some (cI b d) from b6 (b.sz+3) fun k hk=>by
  have :=(Q5 b l d h hok hd).1 k hk [] (by rw [List.nil_append]; exact hl)
  rw [List.nil_append] at this
  exact this,aa]
 rfl
end Go.Sy.Ex
namespace Go.Sy.Ex
open Go.Sy
theorem Uw {X:List ai} {x:Option T} (hX:tQ x X) (hx:zm x):y4 X (fun y=>qc y)=some false:=by
 have h:Db X (fun y=>qc y)=some (-1):=b6 2 fun k hk=>by
  obtain ⟨k,rfl⟩: ∃ j,k=j+2:=⟨k - 2,by omega⟩
  show tJ (k+2) X (fun y=>qc y) (X.length:Int) 0=_
  cases x with
  | none=>rw [show X= [] from hX,tJ.eq_2,if_neg (by simp)]
  | some t=>
   obtain ⟨e,rfl,hi⟩:=hX
   rw [tJ.eq_2,if_pos (by simp),if_pos (by decide),if_pos (by simp),show [e].getD (0:Int).toNat ai.z=e from rfl]
   rw [show qc e=some false from by
    unfold qc
    rw [eta,Pp hi hx.1 hx.2,aa]; rfl,aa,cond_false,show ag ((0:Int)+1)=1 from by rw [bl (by decide) (by decide)]; rfl]
   rw [tJ.eq_2,if_neg (by simp)]
 unfold y4
 rw [h,aa]
 rfl
theorem Md {s:List UInt8} (h:cY s=true):s.length<200000000000000:=by have :=(eX h).2.1; omega
theorem Zn {h:H} {th el:B} {a:ah} (hok:h.ok th el) (ha:tP h th el a):wK a=some true:=b6 3 fun k hk=>by
 obtain ⟨k,rfl⟩: ∃ j,k=j+3:=⟨k - 3,by omega⟩
 show zy (k+3) a=_
 obtain ⟨hx,hk⟩:=hok
 obtain ⟨a1,a2,a3,a4,a5,a6,a7⟩:=ha
 have xs:h.x≠none→a.X.length=1:=fun q=>by
  cases bF:h.x with
  | none=>exact absurd bF q
  | some t=>rw [bF] at a4; obtain ⟨e,he,_⟩:=a4; rw [he]; rfl
 have xn:a.X.length≤1:=by
  cases bF:h.x with
  | none=>rw [bF] at a4; rw [show a.X= [] from a4]; decide
  | some t=>rw [bF] at a4; obtain ⟨e,he,_⟩:=a4; rw [he]; simp
 have x0:h.x=none→a.X.length=0:=fun q=>by rw [q] at a4; rw [show a.X= [] from a4]; rfl
 have t0:th= .nil→a.bE.length=0:=fun q=>by rw [q] at a6; rw [show a.bE= [] from a6]; rfl
 have e0:el= .nil→a.bw.length=0:=fun q=>by rw [q] at a7; rw [show a.bw= [] from a7]; rfl
 have c2: ∀ blocks:Int,(blocks≤0→a.bE.length=0)→(blocks≤1→a.bw.length=0)→wL (k+1) a.Kind a.Name a.Event a.X a.N a.bE a.bw a.At blocks=some true:=fun blocks q1 q2=>by
  rw [wL.eq_2]
  by_cases b0:0<blocks
  · rw [if_pos b0]
    by_cases b1:1<blocks
    · rw [if_pos b1]
    · rw [if_neg b1,decide_eq_true (by have :=q2 (by omega); omega)]
  · rw [if_neg b0,if_pos (by have :=q1 (by omega); omega),if_neg (by omega),decide_eq_true (by have :=q2 (by omega); omega)]
 have c1: ∀ least most blocks:Int,least≤(a.X.length:Int)→(a.X.length:Int)≤most→(a.N≠0→a.Kind=7∧0≤a.N)→(blocks≤0→a.bE.length=0)→(blocks≤1→a.bw.length=0)→oS (k+2) a.Kind a.Name a.Event a.X a.N a.bE a.bw a.At least most blocks=some true:=fun least most blocks p1 p2 p3 q1 q2=>by
  rw [oS.eq_2,if_neg (by omega),if_neg (by omega)]
  by_cases hN:a.N=0
  · rw [if_neg (by simp [hN])]; exact c2 blocks q1 q2
  · rw [if_pos hN,if_neg (by simp [(p3 hN).1]),if_neg (by have :=(p3 hN).2; omega)]; exact c2 blocks q1 q2
 have c0: ∀ (name event:Bool) (least most blocks:Int),(name=true→cY a.Name=true)→(name=false→a.Name= [])→(event=true→cY a.Event=true)→(event=false→a.Event= [])→least≤(a.X.length:Int)→(a.X.length:Int)≤most→(a.N≠0→a.Kind=7∧0≤a.N)→(blocks≤0→a.bE.length=0)→(blocks≤1→a.bw.length=0)→jC (k+3) a.Kind a.Name a.Event a.X a.N a.bE a.bw a.At least most name event blocks=some true:=fun name event least most blocks n1 n2 n3 n4 p1 p2 p3 q1 q2=>by
  have hc:=c1 least most blocks p1 p2 p3 q1 q2
  have ev:(if event≠(decide (a.Event≠ [])) then
   some false else
   bif event then
   (n7 a.Event).bind fun r2=>
   bif !r2 then
   some false else
   oS (k+2) a.Kind a.Name a.Event a.X a.N a.bE a.bw a.At least most blocks else
   oS (k+2) a.Kind a.Name a.Event a.X a.N a.bE a.bw a.At least most blocks)=some true:=by
   cases event with
   | true=>
    have :=n3 rfl
    rw [if_neg (by simp [(eX this).1]),cond_true,F3 _ (Md this),aa,this,Bool.not_true,cond_false]; exact hc
   | false=>rw [if_neg (by simp [n4 rfl]),cond_false]; exact hc
  rw [jC.eq_2]
  cases name with
  | true=>
   have :=n1 rfl
   rw [if_neg (by simp [(eX this).1]),cond_true,F3 _ (Md this),aa,this,Bool.not_true,cond_false]; exact ev
  | false=>rw [if_neg (by simp [n2 rfl]),cond_false]; exact ev
 unfold zy
 rcases hk with ⟨kk,a',b',c,d',e,f⟩ | ⟨kk,a',b',c,d',e⟩ | ⟨kk,a',b',c,d',e⟩ | ⟨kk,a',b',c,d',e,f⟩ | ⟨kk,a',b',c,d',e,f⟩ | ⟨kk,a',b',c,d'⟩ | ⟨kk,a',b',c,d',e,f⟩
 · have hK:a.Kind=1:=a1.trans kk
   have :=c0 true false 1 1 0 (fun _=>by rw [a2]; exact a') (fun q=>by cases q) (fun q=>by cases q) (fun _=>a3.trans b') (by have :=xs c; omega) (by omega) (fun q=>absurd (a5.trans d') q) (fun _=>t0 e) (fun _=>e0 f)
   rw [if_pos hK,if_pos hK]; exact this
 · have hK:a.Kind=2:=a1.trans kk
   have :=c0 false true 0 1 0 (fun q=>by cases q) (fun _=>a2.trans a') (fun _=>by rw [a3]; exact b') (fun q=>by cases q) (by omega) (by omega) (fun q=>absurd (a5.trans c) q) (fun _=>t0 d') (fun _=>e0 e)
   rw [if_neg (by omega),if_neg (by omega),if_pos hK]; exact this
 · have hK:a.Kind=3:=a1.trans kk
   have :=c0 true true 0 1 0 (fun _=>by rw [a2]; exact a') (fun q=>by cases q) (fun _=>by rw [a3]; exact b') (fun q=>by cases q) (by omega) (by omega) (fun q=>absurd (a5.trans c) q) (fun _=>t0 d') (fun _=>e0 e)
   rw [if_neg (by omega),if_neg (by omega),if_neg (by omega),if_pos hK]; exact this
 · have hK:a.Kind=4:=a1.trans kk
   have :=c0 true false 1 1 0 (fun _=>by rw [a2]; exact a') (fun q=>by cases q) (fun q=>by cases q) (fun _=>a3.trans b') (by have :=xs c; omega) (by omega) (fun q=>absurd (a5.trans d') q) (fun _=>t0 e) (fun _=>e0 f)
   rw [if_neg (by omega),if_pos hK]; exact this
 · have hK:a.Kind=5:=a1.trans kk
   have :=c0 true false 0 0 0 (fun _=>by rw [a2]; exact a') (fun q=>by cases q) (fun q=>by cases q) (fun _=>a3.trans b') (by omega) (by have :=x0 c; omega) (fun q=>absurd (a5.trans d') q) (fun _=>t0 e) (fun _=>e0 f)
   rw [if_neg (by omega),if_neg (by omega),if_neg (by omega),if_neg (by omega),if_pos hK]; exact this
 · have hK:a.Kind=6:=a1.trans kk
   have :=c0 false false 1 1 2 (fun q=>by cases q) (fun _=>a2.trans a') (fun q=>by cases q) (fun _=>a3.trans b') (by have :=xs c; omega) (by omega) (fun q=>absurd (a5.trans d') q) (fun q=>by omega) (fun q=>by omega)
   rw [if_neg (by omega),if_neg (by omega),if_neg (by omega),if_neg (by omega),if_neg (by omega),if_pos hK]; exact this
 · have hK:a.Kind=7:=a1.trans kk
   have :=c0 false false 0 0 1 (fun q=>by cases q) (fun _=>a2.trans a') (fun q=>by cases q) (fun _=>a3.trans b') (by omega) (by have :=x0 c; omega) (fun _=>⟨hK,by omega⟩) (fun q=>by omega) (fun _=>e0 f)
   rw [if_neg (by omega),if_neg (by omega),if_neg (by omega),if_neg (by omega),if_neg (by omega),if_neg (by omega),if_pos hK]; exact this
theorem QC: ∀ (b:B) (o:Nat),b.sz≤1000000→b.ok→1≤o→o+b.dp≤5→ ∀ (l:List ah),eZ b l→(∀ k,b.sz+2≤k→iX k l (o:Int)=some true)∧
 ∀ (pre:List ah) (k k':Nat),b.sz+1≤k→b.sz+1≤k'→(pre++l).length≤1000000000→gR (iX k) k' (o:Int) (pre++l) ((pre++l).length:Int) (pre.length:Int)=some true:=by
 intro b
 have wrap: ∀ (b:B) (o:Nat) (l:List ah),o+b.dp≤5→(abl: ∀ (k k':Nat),b.sz+1≤k→b.sz+1≤k'→gR (iX k) k' (o:Int) l (l.length:Int) 0=some true)→ ∀ k,b.sz+2≤k→iX k l (o:Int)=some true:=fun b o l hd h k hk=>by
  have :=b.Em
  obtain ⟨k,rfl⟩: ∃ j,k=j+1:=⟨k - 1,by omega⟩
  show tV (iX k) k l _=_
  unfold tV
  rw [if_neg (by omega)]
  exact h k k (by omega) (by omega)
 induction b with
 | nil=>
  intro o _ _ ho hd l hl
  have hl:l= []:=hl
  subst hl
  have mV: ∀ (pre:List ah) (k k':Nat),B.nil.sz+1≤k→B.nil.sz+1≤k'→(pre++ []).length≤1000000000→gR (iX k) k' (o:Int) (pre++ []) ((pre++ []).length:Int) (pre.length:Int)=some true:=fun pre k k' hk hk' _=>by
   obtain ⟨k',rfl⟩: ∃ j,k'=j+1:=⟨k' - 1,by omega⟩
   rw [gR.eq_2,if_neg (by simp)]
  exact ⟨wrap .nil o [] hd fun k k' h1 h2=>mV [] k k' h1 h2 (by simp),mV⟩
 | cons h th el rest ih1 ih2 ih3=>
  rintro o hsz ⟨hok,lP,pq,og⟩ ho hd l ⟨a,l',rfl,EW,S6,S7,KH,S8,EX,Ao,KI⟩
  have hd':=hd
  simp only [B.dp] at hd'
  have Ud:=hsz
  simp only [B.sz] at Ud
  have hd1:h.kind=6∨h.kind=7→o+1+th.dp≤5:=fun q=>by rw [if_pos q] at hd'; omega
  have xm:el.isNil=false→o+1+el.dp≤5:=fun q=>by rw [q,cond_false] at hd'; omega
  have mV: ∀ (pre:List ah) (k k':Nat),(B.cons h th el rest).sz+1≤k→(B.cons h th el rest).sz+1≤k'→(pre++a::l').length≤1000000000→gR (iX k) k' (o:Int) (pre++a::l') ((pre++a::l').length:Int) (pre.length:Int)=some true:=fun pre k k' hk hk' hlen=>by
   simp only [B.sz] at hk hk'
   obtain ⟨k',rfl⟩: ∃ j,k'=j+1:=⟨k' - 1,by omega⟩
   have hpos:pre.length<(pre++a::l').length:=by simp
   have fU:(pre++a::l').getD (pre.length:Int).toNat ah.z=a:=by rw [Int.toNat_natCast,List.getD_eq_getElem?_getD,List.getElem?_append_right (Nat.le_refl _),Nat.sub_self]; rfl
   have hw:ag ((o:Int)+1)=((o+1:Nat):Int):=by rw [bl (by omega) (by omega)]; omega
   have hwn:ag ((pre.length:Int)+1)=((pre++ [a]).length:Int):=by rw [bl (by omega) (by omega)]; simp
   have hnext:gR (iX k) k' (o:Int) (pre++a::l') ((pre++a::l').length:Int) ((pre++ [a]).length:Int)=some true:=by
    rw [show (pre++a::l')=(pre++ [a])++l' from by simp]
    exact (ih3 o (by omega) og ho (by omega) l' KI).2 (pre++ [a]) k k' (by omega) (by omega) (by rw [List.append_assoc]; exact hlen)
   have E5:(if 0<(a.bw.length:Int) then
    (iX k a.bw ((o+1:Nat):Int)).bind fun r4=>
    bif !r4 then
    some false else
    gR (iX k) k' (o:Int) (pre++a::l') ((pre++a::l').length:Int) ((pre++ [a]).length:Int) else
    gR (iX k) k' (o:Int) (pre++a::l') ((pre++a::l').length:Int) ((pre++ [a]).length:Int))=some true:=by
    cases hn:el.isNil with
    | true=>rw [if_neg (by rw [uK Ao,hn]; simp)]; exact hnext
    | false=>rw [if_pos ((uK Ao).2 hn),(ih2 (o+1) (by omega) pq (by omega) (xm hn) a.bw Ao).1 k (by omega),aa,Bool.not_true,cond_false]; exact hnext
   rw [gR.eq_2,if_pos (by omega),if_pos (by omega),if_pos (by omega),fU,zz,Zn hok ⟨EW,S6,S7,KH,S8,EX,Ao⟩,aa,Bool.not_true,cond_false,Uw KH hok.1,aa,cond_false,hw,hwn]
   by_cases c6:a.Kind=6
   · rw [if_pos c6,(ih1 (o+1) (by omega) lP (by omega) (hd1 (.inl (EW.symm.trans c6))) a.bE EX).1 k (by omega),aa,Bool.not_true,cond_false]; exact E5
   · rw [if_neg c6]
     by_cases c7:a.Kind=7
     · rw [if_pos c7,(ih1 (o+1) (by omega) lP (by omega) (hd1 (.inr (EW.symm.trans c7))) a.bE EX).1 k (by omega),aa,Bool.not_true,cond_false]; exact E5
     · rw [if_neg c7]; exact E5
  refine ⟨wrap (.cons h th el rest) o (a::l') hd fun k k' h1 h2=>mV [] k k' h1 h2 ?_,mV⟩
  have :=zo rest l' KI
  simp
  omega
theorem PN {b:B} {l:List ah} (h:eZ b l) (hok:b.ok) (hd:b.dp≤4) (hsz:b.sz≤1000000):qa l=some true:=by
 unfold qa
 rw [show wI l 1=some true from b6 (b.sz+2) fun k hk=>(QC b 1 hsz hok (Nat.le_refl _) (by omega) l h).1 k hk,aa]
end Go.Sy.Ex
namespace Go.Sy.Ex
open Go.Sy
abbrev b1:B:= .cons ⟨2,[],[101],some (.num 1),0⟩ .nil .nil (.cons ⟨7,[],[],none,2⟩ .nil .nil .nil)
theorem D4:b1.ok:=by
 refine ⟨⟨⟨⟨by decide,by decide⟩,by decide⟩, .inr (.inl ⟨rfl,rfl,by show cY [101]=true; decide+kernel,rfl,rfl,rfl⟩)⟩,trivial,trivial,⟨trivial, .inr (.inr (.inr (.inr (.inr (.inr ⟨rfl,rfl,rfl,rfl,by decide,by decide,rfl⟩)))))⟩,trivial,trivial,trivial⟩
theorem ZV:eG b1= [(3,ju,0),(1,gh,0),(1,[101],0),(3,bM,0),(2,[49],1),(3,bD,0),(3,bq,0),(1,gf,0),(2,[50],2),(3,ju,0),(3,dx,0),(3,dx,0)]:=by
 simp only [eG,cj,cS,gL,toks,B.isNil]
 rw [FN,LA]
 rfl
theorem Ms:cI b1 0=NY:=by
 simp only [cI,eE,bQ,blk,wX,pr,B.isNil]
 rw [FN,LA]
 rfl
def bd (t:ak):aL:=if t.Kind=4 then ⟨12,t.At⟩ else ⟨11,t.At⟩
theorem gV (t:ak):(bd t).Code≠0:=by unfold bd; split <;> (dsimp only; decide)
theorem tZ {l:List ak} {i o:Nat} (hi:i<l.length) (hl:l.length≤100000) {s:List UInt8} (h:aS (aj l i) s=false):cZ (at' l i o) s=some (aG.mk (bg.mk l (i:Int) (bd (aj l i))) (o:Int)):=by
 unfold cZ
 rw [fQ hi hl,aa,h,Bool.not_false,cond_true,if_neg (by decide)]
 have hw:iP (at' l i o)=some (aG.mk (bg.mk l (i:Int) (bd (aj l i))) (o:Int)):=by
  unfold iP
  rw [gS hi,aa]
  dsimp only
  unfold bd
  by_cases h4:(aj l i).Kind=4
  · rw [if_pos h4,if_pos h4]
    unfold gz
    rw [gT,aa]
    rfl
  · rw [if_neg h4,if_neg h4]
    unfold gz
    rw [gT,aa]
    rfl
 dsimp only
 rw [hw,aa]
section
variable {s:aG} (h:s.Row.bk.Code≠0)
include h
theorem tW:kB s=some (false,s):=by unfold kB; rw [decide_eq_false h]
theorem DU:iN s=some (ak.mk 4 0 0 [] 0,s):=by
 unfold iN; rw [tW h,aa]; rfl
theorem DS (x:List UInt8):jO s x=some (false,s):=by
 unfold jO; rw [DU h,aa]; rfl
theorem D2 (x:List UInt8):gA s x=some (false,s):=by
 unfold gA; rw [DS h,aa]; rfl
theorem Qk (c a:Int):gz s c a=some s:=by
 unfold gz; rw [tW h,aa]; rfl
theorem Jd:iP s=some s:=by
 unfold iP; rw [DU h,aa]
 dsimp only
 rw [if_pos rfl,Qk h,aa]
theorem rL (x:List UInt8):cZ s x=some s:=by
 unfold cZ; rw [D2 h,aa]
 rw [Bool.not_false,cond_true]
 dsimp only
 rw [Jd h,aa]
theorem wN (self:aG→Option (List ah×aG)) (k:Nat) (acc:List ah):gm self (k+1) s.Row.L s.Row.At s.Row.bk.Code s.Row.bk.At s.aR acc=some (acc,aG.mk s.Row (ag (s.aR - 1))):=by
 rw [gm.eq_2]
 rw [show aG.mk (bg.mk s.Row.L s.Row.At (aL.mk s.Row.bk.Code s.Row.bk.At)) s.aR=s from by cases s; rename_i r o; cases r; rename_i l a f; cases f; rfl,tW h,aa,cond_false]
end
theorem Xf: ∃ cs,qy HZ=some (cs,false):=by
 obtain ⟨l,h1,h2⟩:=(uR 10 (u:=HZ) (K:= [(3,ju,0),(1,[120],0),(3,pS,0),(2,[49],1),(3,dx,0)]) (by decide+kernel)).all (by decide)
 have hlen:l.length=6:=by
  have :=congrArg List.length h2
  simpa using this
 have hl:l.length≤100000:=by omega
 have hs:Seq l 0 [(3,ju,0),(1,[120],0),(3,pS,0),(2,[49],1),(3,dx,0)]:=H8 (R:= [(4,[],0)]) (by rw [List.drop_zero,h2])
 obtain ⟨h0,t0,i1,t1,i2,t2,i3,t3,i4,t4, -⟩:=hs
 have hx:cY [120]=true:=by decide+kernel
 have hto:(T.num 1).ok:=⟨by decide,by decide⟩
 have htk:toks (.num 1) 1= [(2,[49],1)]:=by simp only [toks]; rw [FN]; rfl
 obtain ⟨e,he,hp⟩:=DQ (t:= .num 1) (o:=1) hto (by decide) hl (i:=0+1+1+1) (by rw [htk]; exact ⟨i3,t3,trivial⟩) (by rw [htk]; exact i4) (by rw [htk]; show jW (aj l (0+1+1+1+1))<1; rw [vS t4]; decide)
 rw [htk] at hp
 have hp:iW (at' l (0+1+1+1) 1)=some ([e],at' l (0+1+1+1+1) 1):=hp
 have hact: ∀ self,eA self (at' l (0+1) 1)=some (ah.mk 1 [120] [] [e] 0 [] [] (aj l (0+1)).At,aG.mk (bg.mk l ((0+1+1+1+1:Nat):Int) (bd (aj l (0+1+1+1+1)))) ((1:Nat):Int)):=fun self=>by
  unfold eA
  rw [gS i1,aa]
  dsimp only
  rw [qd i1 t1 true (by decide),aa,cond_true]
  dsimp only
  rw [rK i1 hl t1 hx,aa]
  dsimp only
  rw [gU i2 hl (jK t2 (Or.inl rfl)),aa,hp,aa]
  dsimp only
  rw [tZ i4 hl (lN t4 (.inr (by decide))),aa]
 have mQ: ∀ k,4≤k→cK k (at' l 0 0)=some ([ah.mk 1 [120] [] [e] 0 [] [] (aj l (0+1)).At],aG.mk (bg.mk l ((0+1+1+1+1:Nat):Int) (bd (aj l (0+1+1+1+1)))) (ag (((1:Nat):Int) - 1))):=fun k hk=>by
  obtain ⟨k,rfl⟩: ∃ j,k=j+4:=⟨k - 4,by omega⟩
  show j_ (cK (k+3)) (k+3) (at' l 0 0)=_
  unfold j_
  rw [rJ h0 t0 ju true (by decide),aa,cond_true]
  dsimp only
  rw [if_neg (by show ¬ ((0:Nat):Int)=4; omega),nK.eq_2]
  rw [show aG.mk (bg.mk (at' l 0 0).Row.L (at' l 0 0).Row.At (aL.mk (at' l 0 0).Row.bk.Code (at' l 0 0).Row.bk.At)) (at' l 0 0).aR=at' l 0 0 from rfl,gU h0 hl (jK t0 (Or.inl rfl)),aa]
  show gm (cK (k+3)) (k+2) l ((0+1:Nat):Int) 0 0 (ag (((0:Nat):Int)+1)) []=_
  rw [show ag (((0:Nat):Int)+1)=((1:Nat):Int) from by rw [bl (by omega) (by omega)]; rfl,gm.eq_2]
  rw [show aG.mk (bg.mk l ((0+1:Nat):Int) (aL.mk 0 0)) ((1:Nat):Int)=at' l (0+1) 1 from rfl,gT,aa,cond_true]
  dsimp only
  rw [fQ i1 hl,aa,lN t1 (.inr (by decide)),Bool.not_false,cond_true,if_neg (by decide),hact,aa,if_pos (by simp)]
  exact wN (s:=aG.mk (bg.mk l ((0+1+1+1+1:Nat):Int) (bd (aj l (0+1+1+1+1)))) ((1:Nat):Int)) (gV _) _ k _
 refine ⟨[], ?_⟩
 unfold qy
 rw [LH,aa,h1]
 dsimp only
 rw [if_neg (by simp)]
 unfold mD
 rw [show rG (aG.mk (bg.mk l 0 (aL.mk 0 0)) 0)=_ from b6 4 fun k hk=>mQ k (by omega),aa,tW (gV _),aa,Bool.not_false,cond_true,aa]
 dsimp only
 rw [if_neg (gV _)]
theorem FP:sU=some true:=by
 obtain ⟨cs,hcs,hr⟩:=UY D4 (by decide) (s:=NZ) (by rw [ZV]; exact uR 20 (by decide+kernel)) (by decide)
 obtain ⟨ds,hd⟩:=Xf
 unfold sU
 rw [hr,aa,hd,aa]
 dsimp only
 rw [cond_true,Bool.not_false,cond_true,QA hcs D4 0 (by decide) (by rw [Ms]; decide) 0 (by rfl),aa,if_pos Ms,PN hcs D4 (by decide) (by decide),aa,cond_true]
 have hz:qa [ah.mk 0 [] [] [] 0 [] [] 0]=some false:=by
  unfold qa
  rw [show wI [ah.mk 0 [] [] [] 0 [] [] 0] 1=some false from b6 3 fun k hk=>by
   obtain ⟨k,rfl⟩: ∃ j,k=j+2:=⟨k - 2,by omega⟩
   show tV (iX (k+1)) (k+1) _ 1=_
   unfold tV
   rw [if_neg (by decide),gR.eq_2,if_pos (by decide),if_pos (by decide),if_pos (by decide)]
   rw [show wK (ah.mk _ _ _ _ _ _ _ _)=some false from b6 0 fun k _=>by rfl,aa]
   rfl,aa]
 rw [hz,aa]
 rfl
end Go.Sy.Ex
namespace Go.Sy.Ex
open Go.Sy
theorem YE (n:Nat):rep n++tI=rep (n+1):=by
 unfold rep
 rw [Lib.repeatL_add]
 rfl
theorem Jj (n:Nat) (hn:n≤1000000):yQ (n:Int)=some (rep n):=b6 (n+1) fun k hk=>by
 show tr k (n:Int) [] 0=_
 have loop: ∀ m i,i+m=n→ ∀ k,m+1≤k→tr k (n:Int) (rep i) (i:Int)=some (rep n):=by
  intro m
  induction m with
  | zero=>
   intro i h k hk
   obtain ⟨k,rfl⟩: ∃ j,k=j+1:=⟨k - 1,by omega⟩
   have :i=n:=by omega
   subst this
   rw [tr.eq_2,if_neg (by omega)]
  | succ m ih=>
   intro i h k hk
   obtain ⟨k,rfl⟩: ∃ j,k=j+1:=⟨k - 1,by omega⟩
   have hl:(rep i).length=2*i:=by unfold rep; rw [Lib.repeatL_length]; simp; omega
   rw [tr.eq_2,if_pos (by omega),if_pos (by rw [hl]; simp only [List.length_cons,List.length_nil]; omega),YE,show ag ((i:Int)+1)=((i+1:Nat):Int) from by rw [bl (by omega) (by omega)]; omega]
   exact ih (i+1) (by omega) k (by omega)
 exact loop n 0 (by omega) k hk
theorem zB {x:Option T} {X:List ai} (hX:tQ x X) (hx:zm x) (hl:(wX x).length≤140737488355328):qP X=some (wX x):=by
 unfold qP
 cases x with
 | none=>rw [show X= [] from hX,if_pos (by rfl)]; rfl
 | some t=>
  obtain ⟨e,rfl,hi⟩:=hX
  have hl':(bM++pr t 1++bD).length≤140737488355328:=hl
  simp only [List.length_append,List.length_cons,List.length_nil] at hl'
  rw [if_neg (by simp),if_pos (by decide),if_pos (by simp),show [e].getD (0:Int).toNat ai.z=e from rfl,MA hi hx.1 (by omega),aa,if_pos (by simp only [List.length_append,List.length_cons,List.length_nil]; omega),if_pos (by simp only [List.length_append,List.length_cons,List.length_nil]; omega)]
  rfl
theorem YL {h:H} {th el:B} {act:ah} (hok:h.ok th el) (ha:tP h th el act) {self:List ah→Int→Option (List UInt8)} {d:Int} {st se:List UInt8} (ht:self act.bE d=some st) (he:self act.bw d=some se) (hl:(bQ h st se el.isNil).length≤140737488355328):yU self act d=some (bQ h st se el.isNil):=by
 obtain ⟨hx,hk⟩:=hok
 obtain ⟨a1,a2,a3,a4,a5,a6,a7⟩:=ha
 unfold yU
 rcases hk with ⟨kk,a,b',c,d',e,f⟩ | ⟨kk,a,b',c,d',e⟩ | ⟨kk,a,b',c,d',e⟩ | ⟨kk,a,b',c,d',e,f⟩ | ⟨kk,a,b',c,d',e,f⟩ | ⟨kk,a,b',c,d'⟩ | ⟨kk,a,b',c,d',e,f⟩
 · cases bF:h.x with
   | none=>exact absurd bF c
   | some t=>
    obtain ⟨e0,hX,jd⟩: ∃ e0,act.X= [e0]∧Is t e0:=by rw [bF] at a4; exact a4
    rw [bF] at hx
    have hp:bQ h st se el.isNil=h.name++jU++pr t 1++bq:=by unfold bQ; rw [kk,bF]; rfl
    rw [hp] at hl ⊢
    simp only [List.length_append,List.length_cons,List.length_nil] at hl
    rw [a1,kk,if_pos rfl,a2,hX,if_pos (by simp only [List.length_append,List.length_cons,List.length_nil]; omega),if_pos (by decide),if_pos (by simp),show [e0].getD (0:Int).toNat ai.z=e0 from rfl,MA jd hx.1 (by omega),aa,if_pos (by simp only [List.length_append,List.length_cons,List.length_nil]; omega),if_pos (by simp only [List.length_append,List.length_cons,List.length_nil]; omega)]
 · have hp:bQ h st se el.isNil=jv++h.ev++wX h.x++bq:=by unfold bQ; rw [kk]; rfl
   rw [hp] at hl ⊢
   simp only [List.length_append,List.length_cons,List.length_nil] at hl
   rw [a1,kk,if_neg (by decide),if_pos rfl,a3,if_pos (by simp only [List.length_append,List.length_cons,List.length_nil]; omega),zB a4 hx (by omega),aa,if_pos (by simp only [List.length_append,List.length_cons,List.length_nil]; omega),if_pos (by simp only [List.length_append,List.length_cons,List.length_nil]; omega)]
 · have hp:bQ h st se el.isNil=fK++h.name++aT++h.ev++wX h.x++bq:=by unfold bQ; rw [kk]; rfl
   rw [hp] at hl ⊢
   simp only [List.length_append,List.length_cons,List.length_nil] at hl
   rw [a1,kk,if_neg (by decide),if_neg (by decide),if_pos rfl,a2,a3,if_pos (by simp only [List.length_append,List.length_cons,List.length_nil]; omega),if_pos (by simp only [List.length_append,List.length_cons,List.length_nil]; omega),if_pos (by simp only [List.length_append,List.length_cons,List.length_nil]; omega),zB a4 hx (by omega),aa,if_pos (by simp only [List.length_append,List.length_cons,List.length_nil]; omega),if_pos (by simp only [List.length_append,List.length_cons,List.length_nil]; omega)]
 · have hp:bQ h st se el.isNil=jS++h.name++wX h.x++bq:=by unfold bQ; rw [kk]; rfl
   rw [hp] at hl ⊢
   simp only [List.length_append,List.length_cons,List.length_nil] at hl
   rw [a1,kk,if_neg (by decide),if_neg (by decide),if_neg (by decide),if_pos rfl,a2,if_pos (by simp only [List.length_append,List.length_cons,List.length_nil]; omega),zB a4 hx (by omega),aa,if_pos (by simp only [List.length_append,List.length_cons,List.length_nil]; omega),if_pos (by simp only [List.length_append,List.length_cons,List.length_nil]; omega)]
 · have hp:bQ h st se el.isNil=l9++h.name++bq:=by unfold bQ; rw [kk]; rfl
   rw [hp] at hl ⊢
   simp only [List.length_append,List.length_cons,List.length_nil] at hl
   rw [a1,kk,if_neg (by decide),if_neg (by decide),if_neg (by decide),if_neg (by decide),if_pos rfl,a2,if_pos (by simp only [List.length_append,List.length_cons,List.length_nil]; omega),if_pos (by simp only [List.length_append,List.length_cons,List.length_nil]; omega)]
 · have hp:bQ h st se el.isNil=jt++wX h.x++aT++st++(bif el.isNil then [] else qU++se):=by unfold bQ; rw [kk]; rfl
   rw [hp] at hl ⊢
   simp only [List.length_append,List.length_cons,List.length_nil] at hl
   rw [a1,kk,if_neg (by decide),if_neg (by decide),if_neg (by decide),if_neg (by decide),if_neg (by decide),if_neg (by decide),zB a4 hx (by omega),aa,if_pos (by simp only [List.length_append,List.length_cons,List.length_nil]; omega),if_pos (by simp only [List.length_append,List.length_cons,List.length_nil]; omega),ht,aa,if_pos (by simp only [List.length_append,List.length_cons,List.length_nil]; omega)]
   cases hn:el.isNil with
   | true=>rw [if_neg (by rw [uK a7,hn]; simp)]; simp
   | false=>
    rw [hn,cond_false] at hl
    simp only [List.length_append,List.length_cons,List.length_nil] at hl
    rw [if_pos ((uK a7).2 hn),if_pos (by simp only [List.length_append,List.length_cons,List.length_nil]; omega),he,aa,if_pos (by simp only [List.length_append,List.length_cons,List.length_nil]; omega)]
    simp
 · have hp:bQ h st se el.isNil=lp++Lib.itoa h.n++aT++st:=by unfold bQ; rw [kk]; rfl
   rw [hp] at hl ⊢
   simp only [List.length_append,List.length_cons,List.length_nil] at hl
   rw [a1,kk,if_neg (by decide),if_neg (by decide),if_neg (by decide),if_neg (by decide),if_neg (by decide),if_pos rfl,a5,ID h.n (by omega) e,aa,if_pos (by simp only [List.length_append,List.length_cons,List.length_nil]; omega),if_pos (by simp only [List.length_append,List.length_cons,List.length_nil]; omega),ht,aa,if_pos (by simp only [List.length_append,List.length_cons,List.length_nil]; omega)]
theorem ZU {h:H} {th el:B} (hok:h.ok th el) (d:Nat) (se:List UInt8) (n:Bool):(cI th d).length≤max (bQ h (cI th d) se n).length 2:=by
 obtain ⟨_,hk⟩:=hok
 rcases hk with ⟨k,_,_,_,_,e,_⟩ | ⟨k,_,_,_,e,_⟩ | ⟨k,_,_,_,e,_⟩ | ⟨k,_,_,_,_,e,_⟩ | ⟨k,_,_,_,_,e,_⟩ | ⟨k,_⟩ | ⟨k,_⟩
 · subst e; exact Nat.le_max_right _ _
 · subst e; exact Nat.le_max_right _ _
 · subst e; exact Nat.le_max_right _ _
 · subst e; exact Nat.le_max_right _ _
 · subst e; exact Nat.le_max_right _ _
 · refine Nat.le_trans ?_ (Nat.le_max_left _ _)
   unfold bQ; rw [k,if_neg (by decide),if_neg (by decide),if_neg (by decide),if_neg (by decide),if_neg (by decide),if_pos rfl]
   simp only [List.length_append]; omega
 · refine Nat.le_trans ?_ (Nat.le_max_left _ _)
   unfold bQ; rw [k,if_neg (by decide),if_neg (by decide),if_neg (by decide),if_neg (by decide),if_neg (by decide),if_neg (by decide)]
   simp only [List.length_append]; omega
theorem RL {h:H} {th el:B} (hok:h.ok th el) (d:Nat) (st:List UInt8) (d':Nat):(cI el d).length≤max (bQ h st (cI el d) el.isNil).length 2:=by
 cases hn:el.isNil with
 | true=>
  have :el= .nil:=by cases el with
   | nil=>rfl
   | cons _ _ _ _=>cases hn
  subst this
  exact Nat.le_max_right _ _
 | false=>
  have h6:h.kind=6:=by
   obtain ⟨_,hk⟩:=hok
   rcases hk with ⟨k,_,_,_,_,_,e⟩ | ⟨k,_,_,_,_,e⟩ | ⟨k,_,_,_,_,e⟩ | ⟨k,_,_,_,_,_,e⟩ | ⟨k,_,_,_,_,_,e⟩ | ⟨k,_⟩ | ⟨k,_,_,_,_,_,e⟩
   · subst e; cases hn
   · subst e; cases hn
   · subst e; cases hn
   · subst e; cases hn
   · subst e; cases hn
   · exact k
   · subst e; cases hn
  refine Nat.le_trans ?_ (Nat.le_max_left _ _)
  unfold bQ; rw [h6,if_neg (by decide),if_neg (by decide),if_neg (by decide),if_neg (by decide),if_neg (by decide),if_pos rfl,cond_false]
  simp only [List.length_append]; omega
theorem WS: ∀ (b:B) (l:List ah) (d:Nat),eZ b l→b.ok→d+b.sz≤900000→
 (∀ k,b.sz+3≤k→(cI b d).length≤140737488355328→lY k l (d:Int)=some (cI b d))∧
 (∀ (pre:List ah) (s:List UInt8) (k k':Nat),b.sz+2≤k→b.sz+1≤k'→(pre++l).length≤1000000000→(s++eE b (d+1)++rep d++dx).length≤140737488355328→
  tu (lY k) k' (pre++l) (d:Int) s (pre.length:Int)=some (s++eE b (d+1)++rep d++dx)):=by
 intro b
 induction b with
 | nil=>
  intro l d hl _ hd
  have hl:l= []:=hl
  subst hl
  simp only [B.sz] at hd
  refine ⟨fun k hk _=> ?_,fun pre s k k' hk hk' kQ hlen=> ?_⟩
  · obtain ⟨k,rfl⟩: ∃ j,k=j+1:=⟨k - 1,by omega⟩
    show pK (lY k) k [] _=_
    unfold pK
    rw [if_pos (by rfl)]
    rfl
  · obtain ⟨k',rfl⟩: ∃ j,k'=j+1:=⟨k' - 1,by omega⟩
    simp only [eE,List.append_nil,List.length_append,List.length_cons,List.length_nil] at hlen ⊢
    rw [tu.eq_2,if_neg (by omega),Jj d (by omega),aa,if_pos (by omega),if_pos (by simp only [List.length_append,List.length_cons,List.length_nil]; omega)]
 | cons h th el rest ih1 ih2 ih3=>
  rintro l d ⟨a,l',rfl,a1,a2,a3,a4,a5,a6,a7,a8⟩ ⟨hok,lP,pq,og⟩ hd
  simp only [B.sz] at hd
  have mV: ∀ (pre:List ah) (s:List UInt8) (k k':Nat),(B.cons h th el rest).sz+2≤k→(B.cons h th el rest).sz+1≤k'→(pre++a::l').length≤1000000000→(s++eE (B.cons h th el rest) (d+1)++rep d++dx).length≤140737488355328→
   tu (lY k) k' (pre++a::l') (d:Int) s (pre.length:Int)=some (s++eE (B.cons h th el rest) (d+1)++rep d++dx):=by
   intro pre s k k' hk hk' kQ hlen
   simp only [B.sz] at hk hk'
   obtain ⟨k',rfl⟩: ∃ j,k'=j+1:=⟨k' - 1,by omega⟩
   simp only [eE] at hlen ⊢
   have hpos:pre.length<(pre++a::l').length:=by simp
   have fU:(pre++a::l').getD (pre.length:Int).toNat ah.z=a:=by rw [Int.toNat_natCast,List.getD_eq_getElem?_getD,List.getElem?_append_right (Nat.le_refl _),Nat.sub_self]; rfl
   have hw:ag ((d:Int)+1)=((d+1:Nat):Int):=by rw [bl (by omega) (by omega)]; omega
   have hwn:ag ((pre.length:Int)+1)=((pre++ [a]).length:Int):=by rw [bl (by omega) (by omega)]; simp
   simp only [List.length_append,List.length_cons,List.length_nil] at hlen
   have hA:(bQ h (cI th (d+1)) (cI el (d+1)) el.isNil).length≤140737488355328:=by simp only [cI]; omega
   have cw:=(ih1 a.bE (d+1) a6 lP (by omega)).1 k (by omega) (Nat.le_trans (ZU hok (d+1) (cI el (d+1)) el.isNil) (by omega))
   have hel:=(ih2 a.bw (d+1) a7 pq (by omega)).1 k (by omega) (Nat.le_trans (RL hok (d+1) (cI th (d+1)) 0) (by omega))
   rw [tu.eq_2,if_pos (by omega),hw,Jj (d+1) (by omega),aa,if_pos (by omega),if_pos (by omega),if_pos (by omega),fU]
   rw [YL hok ⟨a1,a2,a3,a4,a5,a6,a7⟩ cw hel hA,aa,if_pos (by simp only [List.length_append,cI]; omega),if_pos (by simp only [List.length_append,List.length_cons,List.length_nil,cI]; omega)]
   have :=(ih3 l' d a8 og (by omega)).2 (pre++ [a]) (s++rep (d+1)++bQ h (cI th (d+1)) (cI el (d+1)) el.isNil++ [10]) k k' (by omega) (by omega) (by rw [List.append_assoc]; exact kQ) (by simp only [List.length_append,List.length_cons,List.length_nil,cI]; omega)
   rw [hwn,show (pre++a::l')=(pre++ [a])++l' from by simp]
   refine this.trans ?_
   simp [cI]
  refine ⟨fun k hk hb=> ?_,mV⟩
  obtain ⟨k,rfl⟩: ∃ j,k=j+1:=⟨k - 1,by omega⟩
  show pK (lY k) k (a::l') _=_
  unfold pK
  have e1:cI (B.cons h th el rest) d=tH++eE (B.cons h th el rest) (d+1)++rep d++dx:=rfl
  rw [e1] at hb ⊢
  have hlen:=zo rest l' a8
  rw [if_neg (by simp; omega),show max (d:Int) 0=(d:Int) from by omega]
  exact mV [] tH k k (by simp only [B.sz] at hk ⊢; omega) (by simp only [B.sz] at hk ⊢; omega) (by simp; omega) hb
theorem YQ {b:B} {l:List ah} (h:eZ b l) (hok:b.ok) (d:Nat) (hd:d+b.sz≤900000) (hl:(cI b d).length≤140737488355328) (v:Int) (hv:max v 0=(d:Int)):Cs l v=some (cI b d):=b6 (b.sz+4) fun k hk=>by
 obtain ⟨k,rfl⟩: ∃ j,k=j+1:=⟨k - 1,by omega⟩
 have h1:=(WS b l d h hok hd).1 (k+1) (by omega) hl
 have h2:lY (k+1) l (d:Int)=pK (lY k) k l (d:Int):=rfl
 show pK (lY k) k l v=_
 rw [h2] at h1
 unfold pK at h1 ⊢
 rw [show max (d:Int) 0=(d:Int) from by omega] at h1
 rw [hv]; exact h1
end Go.Sy.Ex
namespace Go.Sy.Ex
open Go.Sy
end Go.Sy.Ex
namespace Go.Sy.Ex
open Go.Sy
def rA {α:Type} (Q:α→Prop) (l:List ak) (i o:Nat) (f:Option (α×aG)) (g:Option (α×Int×aL)):Prop:=
 (∃ v j,i≤j∧j<l.length∧Q v∧f=some (v,at' l j o)∧g=some (v,((j:Nat):Int),⟨0,0⟩))∨
 (∃ v s v' j',s.Row.bk.Code≠0∧f=some (v,s)∧g=some (v',j',s.Row.bk))
def jz (X:List ai):Prop:=X.length≤1∧ ∀ e ∈ X,Fd e
def ry (a:ah):Prop:=jz a.X∧a.bE= []∧a.bw= []
theorem jz.nil:jz []:=⟨Nat.zero_le _,fun e h=>by cases h⟩
theorem jz.one {e:ai} (h:Fd e):jz [e]:=⟨Nat.le_refl _,fun x hx=>by rw [List.mem_singleton] at hx; subst hx; exact h⟩
theorem iJ {l:List ak} {i:Nat} (hi:i<l.length) (s:List UInt8):eT l ((i:Nat):Int) s=some (aS (aj l i) s):=by
 have h:=pO (o:=0) hi s
 unfold k9 at h
 have e1:(rs l i 0).l=l:=rfl
 have e2:(rs l i 0).an=(i:Int):=rfl
 rw [e1,e2] at h
 cases hq:eT l (i:Int) s with
 | none=>rw [hq] at h; cases h
 | some b=>rw [hq,aa] at h; cases h; rfl
theorem kS {l:List ak} (H:Ok l) {i:Nat} (hi:i<l.length) {s:List UInt8} (h:aS (aj l i) s=true):i+1<l.length:=
 H.more i hi (by have :=(of_decide_eq_true h).1; omega)
theorem zd {l:List ak} (H:Ok l) {i:Nat} (hi:i<l.length) {s:List UInt8} (h:aS (aj l i) s=true):jR l (i:Int) s=some (((i+1:Nat):Int),⟨0,0⟩):=by
 unfold jR
 rw [iJ hi,aa,h,Bool.not_true,cond_false,dS hi H.len]
theorem Dp {l:List ak} {i:Nat} (hi:i<l.length) {s:List UInt8} (h:aS (aj l i) s=false):jR l (i:Int) s=some (0,bd (aj l i)):=by
 unfold jR
 rw [iJ hi,aa,h,Bool.not_false,cond_true,vf hi,aa]; rfl
theorem D3 {l:List ak} {i o:Nat} (hi:i<l.length):iP (at' l i o)=some (aG.mk (bg.mk l (i:Int) (bd (aj l i))) (o:Int)):=by
 unfold iP
 rw [gS hi,aa]
 dsimp only
 unfold bd
 by_cases h4:(aj l i).Kind=4
 · rw [if_pos h4,if_pos h4]
   unfold gz
   rw [gT,aa]
   rfl
 · rw [if_neg h4,if_neg h4]
   unfold gz
   rw [gT,aa]
   rfl
theorem Qu {s:aG} (h:s.Row.bk.Code≠0):fZ s=some ([],s):=by
 unfold fZ
 have hn:oy s=some (false,s):=by unfold oy; rw [DU h,aa]; rfl
 rw [hn,aa,Bool.not_false,cond_true]
 dsimp only
 rw [Jd h,aa]
theorem x_ {l:List ak} (H:Ok l) {i o:Nat} (hi:i<l.length):rA (fun _=>True) l (i+1) o (fZ (at' l i o)) (gC l (i:Int)):=by
 cases hn:(decide ((aj l i).Kind=1)&& !ep (aj l i).Text) with
 | true=>
  have hn':=hn
  rw [Bool.and_eq_true,decide_eq_true_eq,Bool.not_eq_true'] at hn'
  refine .inl ⟨(aj l i).Text,i+1,Nat.le_refl _,H.more i hi (by omega),trivial,DV hi H.len hn'.1 hn'.2, ?_⟩
  unfold gC
  rw [tC hi,aa,hn,Bool.not_true,cond_false,if_pos (by omega),if_pos (by omega),dS hi H.len,Int.toNat_natCast]
  rfl
 | false=>
  refine .inr ⟨[],aG.mk (bg.mk l (i:Int) (bd (aj l i))) (o:Int),[],0,gV _, ?_, ?_⟩
  · unfold fZ
    rw [wM hi,aa,hn,Bool.not_false,cond_true]
    dsimp only
    rw [D3 hi,aa]
  · unfold gC
    rw [tC hi,aa,hn,Bool.not_false,cond_true,vf hi,aa]
    rfl
theorem Ws {l:List ak} (H:Ok l) {i:Nat} (hi:i<l.length):
 (∃ e j,i+1≤j∧j<l.length∧Fd e∧mL l (i:Int)=some (e,((j:Nat):Int),⟨0,0⟩)∧k8 l (i:Int)=some (e,((j:Nat):Int),⟨0,0⟩))∨
 (∃ f,f.Code≠0∧mL l (i:Int)=some (ai.mk 0 0 [] [] 0,0,f)∧k8 l (i:Int)=some (ai.mk 0 0 [] [] 0,0,f)):=by
 rcases (both H l.length i 0 (by omega) hi (by decide)).2 5 1 rfl (by decide) with ⟨e,i',Z,h1,h2,o6,hf,hg⟩ | ⟨e,s,e',s',Z,h1,h2,hf,hg⟩
 · refine .inl ⟨e,i',h1,h2,o6, ?_, ?_⟩
   · unfold mL
     rw [show um (aK.mk (bg.mk l (i:Int) (aL.mk 0 0)) 0) 1=some (e,st l i' 0) from b6 Z fun k hk=>hf k hk k hk,aa,uT,aa,Bool.not_true,cond_false,eta]
     rfl
   · unfold k8
     rw [show yO (aU.mk l (i:Int) 0 (aL.mk 0 0)) 1=some (e,rs l i' 0) from b6 Z fun k hk=>hg k hk k hk,aa,if_neg (by intro q; exact q rfl),eta]
     rfl
 · refine .inr ⟨s.Row.bk,h1, ?_, ?_⟩
   · unfold mL
     rw [show um (aK.mk (bg.mk l (i:Int) (aL.mk 0 0)) 0) 1=some (e,s) from b6 Z fun k hk=>hf k hk k hk,aa,Gg h1,aa,Bool.not_false,cond_true]
   · unfold k8
     rw [show yO (aU.mk l (i:Int) 0 (aL.mk 0 0)) 1=some (e',s') from b6 Z fun k hk=>hg k hk k hk,aa,h2,if_pos h1]
theorem J_ {l:List ak} (H:Ok l) {i o:Nat} (hi:i<l.length):
 (∃ e j,i+1≤j∧j<l.length∧Fd e∧iW (at' l i o)=some ([e],at' l j o)∧k8 l (i:Int)=some (e,((j:Nat):Int),⟨0,0⟩))∨
 (∃ X s,s.Row.bk.Code≠0∧iW (at' l i o)=some (X,s)∧k8 l (i:Int)=some (ai.mk 0 0 [] [] 0,0,s.Row.bk)):=by
 have hu:iW (at' l i o)=(mL l (i:Int)).bind fun r2=>
  (gz (at' l i o) r2.2.2.Code r2.2.2.At).bind fun r3=>
  some ([ai.mk r2.1.Kind r2.1.N r2.1.Name r2.1.Kids r2.1.At],aG.mk (bg.mk r3.Row.L r2.2.1 r3.Row.bk) r3.aR):=by
  unfold iW
  rw [gT,aa,Bool.not_true,cond_false]
  rfl
 rcases Ws H hi with ⟨e,j,h1,h2,h3,h4,h5⟩ | ⟨f,h1,h2,h3⟩
 · refine .inl ⟨e,j,h1,h2,h3, ?_,h5⟩
   rw [hu,h4,aa]
   dsimp only
   unfold gz
   rw [gT,aa,cond_true,aa,eta]
   rfl
 · refine .inr ⟨[ai.mk 0 0 [] [] 0],aG.mk (bg.mk l 0 f) (o:Int),h1, ?_,h3⟩
   rw [hu,h2,aa]
   dsimp only
   unfold gz
   rw [gT,aa,cond_true,aa]
   rfl
theorem DP {s:aG} (h:s.Row.bk.Code≠0):iW s=some ([],s):=by
 unfold iW
 rw [tW h,aa,Bool.not_false,cond_true]
theorem D7 {l:List ak} (H:Ok l) {i o:Nat} (hi:i<l.length):rA jz l (i+1) o (iC (at' l i o)) (ld l (i:Int)):=by
 cases gv:aS (aj l i) bM with
 | false=>
  refine .inr ⟨[],aG.mk (bg.mk l (i:Int) (bd (aj l i))) (o:Int),[],0,gV _, ?_, ?_⟩
  · unfold iC
    rw [tZ hi H.len gv,aa,DP (gV _),aa]
    dsimp only
    rw [rL (gV _),aa]
  · unfold ld
    rw [Dp hi gv,aa,if_pos (gV _)]
 | true=>
  have hm:=kS H hi gv
  have f0:iC (at' l i o)=(iW (at' l (i+1) o)).bind fun r2=>(cZ r2.2 bD).bind fun r3=>some (r2.1,r3):=by
   unfold iC
   rw [gU hi H.len gv,aa]
  have g0:ld l (i:Int)=(k8 l ((i+1:Nat):Int)).bind fun r2=>
   if r2.2.2.Code≠0 then
   some ([],0,r2.2.2) else
   (jR l r2.2.1 bD).bind fun r3=>
   some ([ai.mk r2.1.Kind r2.1.N r2.1.Name r2.1.Kids r2.1.At],r3.1,r3.2):=by
   unfold ld
   rw [zd H hi gv,aa,if_neg (by simp)]
  rcases J_ (o:=o) H hm with ⟨e,j,h1,h2,h3,h4,h5⟩ | ⟨X,s,h1,h2,h3⟩
  · cases iI:aS (aj l j) bD with
    | true=>
     refine .inl ⟨[e],j+1,by omega,kS H h2 iI,jz.one h3, ?_, ?_⟩
     · rw [f0,h4,aa]
       dsimp only
       rw [gU h2 H.len iI,aa]
     · rw [g0,h5,aa]
       dsimp only
       rw [if_neg (by simp),zd H h2 iI,aa,eta]
    | false=>
     refine .inr ⟨[e],aG.mk (bg.mk l (j:Int) (bd (aj l j))) (o:Int),[e],0,gV _, ?_, ?_⟩
     · rw [f0,h4,aa]
       dsimp only
       rw [tZ h2 H.len iI,aa]
     · rw [g0,h5,aa]
       dsimp only
       rw [if_neg (by simp),Dp h2 iI,aa,eta]
  · refine .inr ⟨X,s,[],0,h1, ?_, ?_⟩
    · rw [f0,h2,aa]
      dsimp only
      rw [rL h1,aa]
    · rw [g0,h3,aa]
      dsimp only
      rw [if_pos h1]
theorem L9 {l:List ak} (H:Ok l) {i o:Nat} (hi:i<l.length):rA jz l i o (kK (at' l i o)) (pL l (i:Int)):=by
 unfold kK pL
 rw [nL hi,aa,iJ hi,aa]
 dsimp only
 cases gv:aS (aj l i) bM with
 | false=>exact .inl ⟨[],i,Nat.le_refl _,hi,jz.nil,rfl,rfl⟩
 | true=>
  rw [Bool.not_true,cond_false,cond_false]
  rcases D7 (o:=o) H hi with ⟨v,j,h1,h2,hq,h3,h4⟩ | ⟨v,s,v',j',h1,h2,h3⟩
  · exact .inl ⟨v,j,by omega,h2,hq,by rw [h3,aa],by rw [h4,aa]⟩
  · exact .inr ⟨v,s,v',j',h1,by rw [h2,aa],by rw [h3,aa]⟩
end Go.Sy.Ex
namespace Go.Sy.Ex
open Go.Sy
noncomputable def jV (l:List ak) (a:ah) (p:Int) (f:aL):Option (ah×Int×aL):=
 if f.Code≠0 then some (ah.mk 0 [] [] [] 0 [] [] 0,0,f) else (jR l p bq).bind fun r=>some (a,r.1,r.2)
theorem Rc (k:Nat) (l:List ak) (p:Int) (K:Int) (N E:List UInt8) (X:List ai) (n:Int) (T L:List ah) (A c fa:Int):lf (k+1) l p 0 [] [] [] 0 [] [] 0 0 0 K N E X n T L A c fa=jV l (ah.mk K N E X n T L A) p ⟨c,fa⟩:=by
 rw [lf.eq_2]; rfl
theorem yY {l:List ak} (H:Ok l) {i j o:Nat} (hij:i≤j) (hj:j<l.length) (a:ah) (hQ:ry a):rA ry l i o ((cZ (at' l j o) bq).bind fun r=>some (a,r)) (jV l a ((j:Nat):Int) ⟨0,0⟩):=by
 unfold jV
 rw [if_neg (by simp)]
 cases h:aS (aj l j) bq with
 | true=>exact .inl ⟨a,j+1,by omega,kS H hj h,hQ,by rw [gU hj H.len h,aa],by rw [zd H hj h,aa]⟩
 | false=>exact .inr ⟨a,aG.mk (bg.mk l (j:Int) (bd (aj l j))) (o:Int),a,0,gV _,by rw [tZ hj H.len h,aa],by rw [Dp hj h,aa]⟩
theorem nr {l:List ak} {i o:Nat} {s:aG} (h:s.Row.bk.Code≠0) (a a':ah) (p:Int):rA ry l i o ((cZ s bq).bind fun r=>some (a,r)) (jV l a' p s.Row.bk):=by
 unfold jV
 rw [if_pos h]
 exact .inr ⟨a,s,_,_,h,by rw [rL h,aa],rfl⟩
theorem DW {s:aG} (h:s.Row.bk.Code≠0):kK s=some ([],s):=by
 unfold kK
 rw [DS h,aa,Bool.not_false,cond_true]
theorem Qm {s:aG} (h:s.Row.bk.Code≠0):iC s=some ([],s):=by
 unfold iC
 rw [rL h,aa,DP h,aa]
 dsimp only
 rw [rL h,aa]
theorem lz {l : List ak} {i : Nat} (hi : i < l.length) (hl : l.length ≤ 100000) (r : Option (ah × Int × aL)) (h : (bif aS (aj l i) gh then
      (gC l ((i+1:Nat):Int)).bind fun r2=>
      if r2.2.2.Code=0 then (pL l r2.2.1).bind fun r3=>jV l (ah.mk 2 [] r2.1 r3.1 0 [] [] (aj l i).At) r3.2.1 ⟨r3.2.2.Code,r3.2.2.At⟩
      else jV l (ah.mk 2 [] r2.1 [] 0 [] [] (aj l i).At) r2.2.1 ⟨r2.2.2.Code,r2.2.2.At⟩
 else bif aS (aj l i) gH then
  (gC l ((i+1:Nat):Int)).bind fun r5=>
  if r5.2.2.Code=0 then
   (gC l r5.2.1).bind fun r6=>
   if r6.2.2.Code=0 then (pL l r6.2.1).bind fun r7=>jV l (ah.mk 3 r5.1 r6.1 r7.1 0 [] [] (aj l i).At) r7.2.1 ⟨r7.2.2.Code,r7.2.2.At⟩
   else jV l (ah.mk 3 r5.1 r6.1 [] 0 [] [] (aj l i).At) r6.2.1 ⟨r6.2.2.Code,r6.2.2.At⟩
  else jV l (ah.mk 3 r5.1 [] [] 0 [] [] (aj l i).At) r5.2.1 ⟨r5.2.2.Code,r5.2.2.At⟩
 else bif aS (aj l i) hY then
  (gC l ((i+1:Nat):Int)).bind fun bJ=>
  if bJ.2.2.Code=0 then (ld l bJ.2.1).bind fun bU=>jV l (ah.mk 4 bJ.1 [] bU.1 0 [] [] (aj l i).At) bU.2.1 ⟨bU.2.2.Code,bU.2.2.At⟩
  else jV l (ah.mk 4 bJ.1 [] [] 0 [] [] (aj l i).At) bJ.2.1 ⟨bJ.2.2.Code,bJ.2.2.At⟩
 else bif aS (aj l i) js then
  (gC l ((i+1:Nat):Int)).bind fun bY=>jV l (ah.mk 5 bY.1 [] [] 0 [] [] (aj l i).At) bY.2.1 ⟨bY.2.2.Code,bY.2.2.At⟩
 else (pM l (i:Int)).bind fun bB=>jV l (ah.mk bB.1.Kind bB.1.Name bB.1.Event bB.1.X bB.1.N bB.1.bE bB.1.bw bB.1.At) bB.2.1 ⟨bB.2.2.Code,bB.2.2.At⟩)=r) (hr:r≠none):pN l (i:Int)=r:=by
 cases hr':r with
 | none=>exact absurd hr' hr
 | some v=>
  rw [← hr']
  subst hr'
  refine b6 1 fun k hk=> ?_
  obtain ⟨k,rfl⟩: ∃ j,k=j+1:=⟨k - 1,by omega⟩
  show Cy (k+1) l (i:Int)=some v
  rw [← h]
  unfold Cy
  have et:l.getD ((i:Nat):Int).toNat ak.z=aj l i:=by rw [Int.toNat_natCast]; rfl
  rw [if_pos (by omega),if_pos (by omega),iJ hi,aa,dS hi hl,et]
  simp only [Rc]
  cases aS (aj l i) gh with
  | true=>rfl
  | false=>
   rw [cond_false,cond_false,iJ hi,aa]
   cases aS (aj l i) gH with
   | true=>
    rw [cond_true,cond_true]
    cases gC l ((i+1:Nat):Int) with
    | none=>rfl
    | some r5=>
     rw [aa,aa]
     by_cases c5:r5.2.2.Code=0
     · rw [if_pos c5,if_pos c5]
     · rw [if_neg c5,if_neg c5,if_neg c5]
   | false=>
    rw [cond_false,cond_false,iJ hi,aa]
    cases aS (aj l i) hY with
    | true=>rfl
    | false=>
     rw [cond_false,cond_false,iJ hi,aa]
theorem DM {l : List ak} {i o : Nat} (hi : i < l.length) (hl : l.length ≤ 100000) (hif : aS (aj l i) h_ = false) (hlo : aS (aj l i) gf = false) (self : aG → Option (List ah × aG)) : eA self (at' l i o) = (bif decide ((aj l i).Kind = 1) && !ep (aj l i).Text then
      (fZ (at' l i o)).bind fun r3=>
      (cZ r3.2 pS).bind fun r4=>
      (iW r4).bind fun r5=>
      (cZ r5.2 bq).bind fun r6=>
      some (ah.mk 1 r3.1 [] r5.1 0 [] [] (aj l i).At,r6) else
      bif aS (aj l i) gh then
      (fZ (at' l (i+1) o)).bind fun r8=>
      (kK r8.2).bind fun r9=>
      (cZ r9.2 bq).bind fun bJ=>
      some (ah.mk 2 [] r8.1 r9.1 0 [] [] (aj l i).At,bJ) else
      bif aS (aj l i) gH then
      (fZ (at' l (i+1) o)).bind fun bS=>
      (fZ bS.2).bind fun bY=>
      (kK bY.2).bind fun bB=>
      (cZ bB.2 bq).bind fun dw=>
      some (ah.mk 3 bS.1 bY.1 bB.1 0 [] [] (aj l i).At,dw) else
      bif aS (aj l i) hY then
      (fZ (at' l (i+1) o)).bind fun hJ=>
      (iC hJ.2).bind fun iM=>
      (cZ iM.2 bq).bind fun lR=>
      some (ah.mk 4 hJ.1 [] iM.1 0 [] [] (aj l i).At,lR) else
      bif aS (aj l i) js then
      (fZ (at' l (i+1) o)).bind fun kA=>
      (cZ kA.2 bq).bind fun lS=>
      some (ah.mk 5 kA.1 [] [] 0 [] [] (aj l i).At,lS) else
      (iP (at' l i o)).bind fun m_=>
      (cZ m_ bq).bind fun ow=>
      some (ah.mk 0 [] [] [] 0 [] [] (aj l i).At,ow)):=by
 unfold eA
 rw [gS hi,aa]
 dsimp only
 rw [wM hi,aa]
 dsimp only
 cases (decide ((aj l i).Kind=1)&& !ep (aj l i).Text) with
 | true=>rfl
 | false=>
  rw [cond_false,cond_false,fQ hi hl,aa]
  dsimp only
  cases aS (aj l i) gh with
  | true=>rfl
  | false=>
   rw [cond_false,cond_false,if_neg (by decide),fQ hi hl,aa]
   dsimp only
   cases aS (aj l i) gH with
   | true=>rfl
   | false=>
    rw [cond_false,cond_false,if_neg (by decide),fQ hi hl,aa]
    dsimp only
    cases aS (aj l i) hY with
    | true=>rfl
    | false=>
     rw [cond_false,cond_false,if_neg (by decide),fQ hi hl,aa]
     dsimp only
     cases aS (aj l i) js with
     | true=>rfl
     | false=>
      rw [cond_false,cond_false,if_neg (by decide),nL hi,aa,hif,cond_false]
      dsimp only
      rw [nL hi,aa,hlo,cond_false]
theorem Qi {l:List ak} (H:Ok l) {i o:Nat} (hi:i<l.length) (hif:aS (aj l i) h_=false) (hlo:aS (aj l i) gf=false) (self:aG→Option (List ah×aG)):rA ry l (i+1) o (eA self (at' l i o)) (pN l (i:Int)):=by
 have hl:=H.len
 have f0:=DM (o:=o) hi hl hif hlo self
 have nm: ∀ s,ep s=true→aS (aj l i) s=true→(decide ((aj l i).Kind=1)&& !ep (aj l i).Text)=false:=fun s hs h=>by
  have :=(of_decide_eq_true h).2
  rw [this,hs]; simp
 rw [f0]
 cases dG:aS (aj l i) gh with
 | true=>
  have hm:=kS H hi dG
  rw [nm gh (by decide) dG,cond_false,cond_true]
  rcases x_ (o:=o) H hm with ⟨v,j,h1,h2, -,h3,h4⟩ | ⟨v,s,v',j',h1,h2,h3⟩
  · rcases L9 (o:=o) H h2 with ⟨X,j2,g1,g2,gx,g3,g4⟩ | ⟨X,s,X',j',g1,g2,g3⟩
    · have key:=yY (o:=o) H (i:=i+1) (show i+1≤j2 by omega) g2 (ah.mk 2 [] v X 0 [] [] (aj l i).At) ⟨gx,rfl,rfl⟩
      rw [h3,aa,g3,aa]
      rw [lz hi hl _ (by rw [dG,cond_true,h4,aa,if_pos rfl,g4,aa]) (by rcases key with ⟨_,_,_,_,_,_,q⟩ | ⟨_,_,_,_,_,_,q⟩ <;> (intro e; exact absurd (q.symm.trans e) (by simp)))]
      exact key
    · have key:=nr (l:=l) (i:=i+1) (o:=o) g1 (ah.mk 2 [] v X 0 [] [] (aj l i).At) (ah.mk 2 [] v X' 0 [] [] (aj l i).At) j'
      rw [h3,aa,g2,aa]
      rw [lz hi hl _ (by rw [dG,cond_true,h4,aa,if_pos rfl,g3,aa]) (by rcases key with ⟨_,_,_,_,_,_,q⟩ | ⟨_,_,_,_,_,_,q⟩ <;> (intro e; exact absurd (q.symm.trans e) (by simp)))]
      exact key
  · have key:=nr (l:=l) (i:=i+1) (o:=o) h1 (ah.mk 2 [] v [] 0 [] [] (aj l i).At) (ah.mk 2 [] v' [] 0 [] [] (aj l i).At) j'
    rw [h2,aa]
    dsimp only
    rw [DW h1,aa]
    rw [lz hi hl _ (by rw [dG,cond_true,h3,aa,if_neg h1]) (by rcases key with ⟨_,_,_,_,_,_,q⟩ | ⟨_,_,_,_,_,_,q⟩ <;> (intro e; exact absurd (q.symm.trans e) (by simp)))]
    exact key
 | false=>
 rw [cond_false]
 cases cX:aS (aj l i) gH with
 | true=>
  have hm:=kS H hi cX
  rw [nm gH (by decide) cX,cond_false,cond_true]
  rcases x_ (o:=o) H hm with ⟨v,j,h1,h2, -,h3,h4⟩ | ⟨v,s,v',j',h1,h2,h3⟩
  · rcases x_ (o:=o) H h2 with ⟨u,j1,k1,k2, -,k3,k4⟩ | ⟨u,s,u',j',k1,k2,k3⟩
    · rcases L9 (o:=o) H k2 with ⟨X,j2,g1,g2,gx,g3,g4⟩ | ⟨X,s,X',j',g1,g2,g3⟩
      · have key:=yY (o:=o) H (i:=i+1) (show i+1≤j2 by omega) g2 (ah.mk 3 v u X 0 [] [] (aj l i).At) ⟨gx,rfl,rfl⟩
        rw [h3,aa]
        dsimp only
        rw [k3,aa,g3,aa]
        rw [lz hi hl _ (by rw [dG,cond_false,cX,cond_true,h4,aa,if_pos rfl,k4,aa,if_pos rfl,g4,aa]) (by rcases key with ⟨_,_,_,_,_,_,q⟩ | ⟨_,_,_,_,_,_,q⟩ <;> (intro e; exact absurd (q.symm.trans e) (by simp)))]
        exact key
      · have key:=nr (l:=l) (i:=i+1) (o:=o) g1 (ah.mk 3 v u X 0 [] [] (aj l i).At) (ah.mk 3 v u X' 0 [] [] (aj l i).At) j'
        rw [h3,aa]
        dsimp only
        rw [k3,aa,g2,aa]
        rw [lz hi hl _ (by rw [dG,cond_false,cX,cond_true,h4,aa,if_pos rfl,k4,aa,if_pos rfl,g3,aa]) (by rcases key with ⟨_,_,_,_,_,_,q⟩ | ⟨_,_,_,_,_,_,q⟩ <;> (intro e; exact absurd (q.symm.trans e) (by simp)))]
        exact key
    · have key:=nr (l:=l) (i:=i+1) (o:=o) k1 (ah.mk 3 v u [] 0 [] [] (aj l i).At) (ah.mk 3 v u' [] 0 [] [] (aj l i).At) j'
      rw [h3,aa]
      dsimp only
      rw [k2,aa]
      dsimp only
      rw [DW k1,aa]
      rw [lz hi hl _ (by rw [dG,cond_false,cX,cond_true,h4,aa,if_pos rfl,k3,aa,if_neg k1]) (by rcases key with ⟨_,_,_,_,_,_,q⟩ | ⟨_,_,_,_,_,_,q⟩ <;> (intro e; exact absurd (q.symm.trans e) (by simp)))]
      exact key
  · have key:=nr (l:=l) (i:=i+1) (o:=o) h1 (ah.mk 3 v [] [] 0 [] [] (aj l i).At) (ah.mk 3 v' [] [] 0 [] [] (aj l i).At) j'
    rw [h2,aa]
    dsimp only
    rw [Qu h1,aa]
    dsimp only
    rw [DW h1,aa]
    rw [lz hi hl _ (by rw [dG,cond_false,cX,cond_true,h3,aa,if_neg h1]) (by rcases key with ⟨_,_,_,_,_,_,q⟩ | ⟨_,_,_,_,_,_,q⟩ <;> (intro e; exact absurd (q.symm.trans e) (by simp)))]
    exact key
 | false=>
 rw [cond_false]
 cases har:aS (aj l i) hY with
 | true=>
  have hm:=kS H hi har
  rw [nm hY (by decide) har,cond_false,cond_true]
  rcases x_ (o:=o) H hm with ⟨v,j,h1,h2, -,h3,h4⟩ | ⟨v,s,v',j',h1,h2,h3⟩
  · rcases D7 (o:=o) H h2 with ⟨X,j2,g1,g2,gx,g3,g4⟩ | ⟨X,s,X',j',g1,g2,g3⟩
    · have key:=yY (o:=o) H (i:=i+1) (show i+1≤j2 by omega) g2 (ah.mk 4 v [] X 0 [] [] (aj l i).At) ⟨gx,rfl,rfl⟩
      rw [h3,aa]
      dsimp only
      rw [g3,aa]
      rw [lz hi hl _ (by rw [dG,cond_false,cX,cond_false,har,cond_true,h4,aa,if_pos rfl,g4,aa]) (by rcases key with ⟨_,_,_,_,_,_,q⟩ | ⟨_,_,_,_,_,_,q⟩ <;> (intro e; exact absurd (q.symm.trans e) (by simp)))]
      exact key
    · have key:=nr (l:=l) (i:=i+1) (o:=o) g1 (ah.mk 4 v [] X 0 [] [] (aj l i).At) (ah.mk 4 v [] X' 0 [] [] (aj l i).At) j'
      rw [h3,aa]
      dsimp only
      rw [g2,aa]
      rw [lz hi hl _ (by rw [dG,cond_false,cX,cond_false,har,cond_true,h4,aa,if_pos rfl,g3,aa]) (by rcases key with ⟨_,_,_,_,_,_,q⟩ | ⟨_,_,_,_,_,_,q⟩ <;> (intro e; exact absurd (q.symm.trans e) (by simp)))]
      exact key
  · have key:=nr (l:=l) (i:=i+1) (o:=o) h1 (ah.mk 4 v [] [] 0 [] [] (aj l i).At) (ah.mk 4 v' [] [] 0 [] [] (aj l i).At) j'
    rw [h2,aa]
    dsimp only
    rw [Qm h1,aa]
    rw [lz hi hl _ (by rw [dG,cond_false,cX,cond_false,har,cond_true,h3,aa,if_neg h1]) (by rcases key with ⟨_,_,_,_,_,_,q⟩ | ⟨_,_,_,_,_,_,q⟩ <;> (intro e; exact absurd (q.symm.trans e) (by simp)))]
    exact key
 | false=>
 rw [cond_false]
 cases hca:aS (aj l i) js with
 | true=>
  have hm:=kS H hi hca
  rw [nm js (by decide) hca,cond_false,cond_true]
  rcases x_ (o:=o) H hm with ⟨v,j,h1,h2, -,h3,h4⟩ | ⟨v,s,v',j',h1,h2,h3⟩
  · have key:=yY (o:=o) H (i:=i+1) (show i+1≤j by omega) h2 (ah.mk 5 v [] [] 0 [] [] (aj l i).At) ⟨jz.nil,rfl,rfl⟩
    rw [h3,aa]
    rw [lz hi hl _ (by rw [dG,cond_false,cX,cond_false,har,cond_false,hca,cond_true,h4,aa]) (by rcases key with ⟨_,_,_,_,_,_,q⟩ | ⟨_,_,_,_,_,_,q⟩ <;> (intro e; exact absurd (q.symm.trans e) (by simp)))]
    exact key
  · have key:=nr (l:=l) (i:=i+1) (o:=o) h1 (ah.mk 5 v [] [] 0 [] [] (aj l i).At) (ah.mk 5 v' [] [] 0 [] [] (aj l i).At) j'
    rw [h2,aa]
    rw [lz hi hl _ (by rw [dG,cond_false,cX,cond_false,har,cond_false,hca,cond_true,h3,aa]) (by rcases key with ⟨_,_,_,_,_,_,q⟩ | ⟨_,_,_,_,_,_,q⟩ <;> (intro e; exact absurd (q.symm.trans e) (by simp)))]
    exact key
 | false=>
 rw [cond_false]
 have et:l.getD ((i:Nat):Int).toNat ak.z=aj l i:=by rw [Int.toNat_natCast]; rfl
 have sq: ∀ (r:Option (ah×Int×aL)),((pM l (i:Int)).bind fun bB=>jV l (ah.mk bB.1.Kind bB.1.Name bB.1.Event bB.1.X bB.1.N bB.1.bE bB.1.bw bB.1.At) bB.2.1 ⟨bB.2.2.Code,bB.2.2.At⟩)=r→r≠none→pN l (i:Int)=r:=fun r h hr=>lz hi hl r (by rw [dG,cond_false,cX,cond_false,har,cond_false,hca,cond_false]; exact h) hr
 cases hn:(decide ((aj l i).Kind=1)&& !ep (aj l i).Text) with
 | false=>
  have key:=nr (l:=l) (i:=i+1) (o:=o) (s:=aG.mk (bg.mk l (i:Int) (bd (aj l i))) (o:Int)) (gV _) (ah.mk 0 [] [] [] 0 [] [] (aj l i).At) (ah.mk 1 [] [] [] 0 [] [] (aj l i).At) 0
  rw [cond_false,D3 hi,aa]
  have s0:pM l (i:Int)=some (ah.mk 1 [] [] [] 0 [] [] (aj l i).At,0,bd (aj l i)):=by
   unfold pM gC
   rw [if_pos (by omega),if_pos (by omega),tC hi,aa,hn,Bool.not_false,cond_true,vf hi,aa,aa,et]
   dsimp only
   rw [if_pos (nM _)]
   rfl
  rw [sq _ (by rw [s0,aa]) (by rcases key with ⟨_,_,_,_,_,_,q⟩ | ⟨_,_,_,_,_,_,q⟩ <;> (intro e; exact absurd (q.symm.trans e) (by simp)))]
  exact key
 | true=>
  have hn':=hn
  rw [Bool.and_eq_true,decide_eq_true_eq,Bool.not_eq_true'] at hn'
  have hm:=H.more i hi (by omega)
  have s0:pM l (i:Int)=(jR l ((i+1:Nat):Int) pS).bind fun r2=>
   if r2.2.Code≠0 then
   some (ah.mk 1 (aj l i).Text [] [] 0 [] [] (aj l i).At,0,r2.2) else
   (k8 l r2.1).bind fun r3=>
   some (ah.mk 1 (aj l i).Text [] [ai.mk r3.1.Kind r3.1.N r3.1.Name r3.1.Kids r3.1.At] 0 [] [] (aj l i).At,r3.2.1,r3.2.2):=by
   unfold pM gC
   rw [if_pos (by omega),if_pos (by omega),tC hi,aa,hn,Bool.not_true,cond_false,if_pos (by omega),if_pos (by omega),dS hi hl,et,aa]
   dsimp only
   rw [if_neg (by simp)]
  rw [cond_true,DV hi hl hn'.1 hn'.2,aa]
  dsimp only
  cases heq:aS (aj l (i+1)) pS with
  | false=>
   have key:=nr (l:=l) (i:=i+1) (o:=o) (s:=aG.mk (bg.mk l ((i+1:Nat):Int) (bd (aj l (i+1)))) (o:Int)) (gV _) (ah.mk 1 (aj l i).Text [] [] 0 [] [] (aj l i).At) (ah.mk 1 (aj l i).Text [] [] 0 [] [] (aj l i).At) 0
   rw [tZ hm hl heq,aa,DP (gV _),aa]
   rw [sq _ (by rw [s0,Dp hm heq,aa,if_pos (gV _),aa]) (by rcases key with ⟨_,_,_,_,_,_,q⟩ | ⟨_,_,_,_,_,_,q⟩ <;> (intro e; exact absurd (q.symm.trans e) (by simp)))]
   exact key
  | true=>
   have hm2:=kS H hm heq
   rw [gU hm hl heq,aa]
   rcases J_ (o:=o) H hm2 with ⟨e,j,h1,h2,h3,h4,h5⟩ | ⟨X,s,h1,h2,h3⟩
   · have key:=yY (o:=o) H (i:=i+1) (show i+1≤j by omega) h2 (ah.mk 1 (aj l i).Text [] [e] 0 [] [] (aj l i).At) ⟨jz.one h3,rfl,rfl⟩
     rw [h4,aa]
     rw [sq _ (by rw [s0,zd H hm heq,aa,if_neg (by simp),h5,aa,aa,eta]) (by rcases key with ⟨_,_,_,_,_,_,q⟩ | ⟨_,_,_,_,_,_,q⟩ <;> (intro e; exact absurd (q.symm.trans e) (by simp)))]
     exact key
   · have key:=nr (l:=l) (i:=i+1) (o:=o) h1 (ah.mk 1 (aj l i).Text [] X 0 [] [] (aj l i).At) (ah.mk 1 (aj l i).Text [] [ai.mk 0 0 [] [] 0] 0 [] [] (aj l i).At) 0
     rw [h2,aa]
     rw [sq _ (by rw [s0,zd H hm heq,aa,if_neg (by simp),h3,aa,aa]) (by rcases key with ⟨_,_,_,_,_,_,q⟩ | ⟨_,_,_,_,_,_,q⟩ <;> (intro e; exact absurd (q.symm.trans e) (by simp)))]
     exact key
end Go.Sy.Ex
namespace Go.Sy.Ex
open Go.Sy
def Fl:Nat→List ah→Prop
 | 0,_=>False
 | n+1,l=>l.length≤100000∧ ∀ a ∈ l,jz a.X∧Fl n a.bE∧Fl n a.bw
def FL (l:List ah):Prop:= ∃ n,Fl n l
theorem Fl.up: ∀ {n m:Nat} {l:List ah},Fl n l→n≤m→Fl m l
 | 0,_,_,h,_=>h.elim
 | n+1,0,_,_,h=>by omega
 | n+1,m+1,l,⟨h1,h2⟩,h=>⟨h1,fun a ha=>⟨(h2 a ha).1,Fl.up (h2 a ha).2.1 (by omega),Fl.up (h2 a ha).2.2 (by omega)⟩⟩
theorem FL.nil:FL []:=⟨1,Nat.zero_le _,fun a ha=>by cases ha⟩
def AF (a:ah):Prop:=jz a.X∧FL a.bE∧FL a.bw
theorem ry.af {a:ah} (h:ry a):AF a:=⟨h.1,by rw [h.2.1]; exact FL.nil,by rw [h.2.2]; exact FL.nil⟩
theorem FL.push {l:List ah} {a:ah} (h:FL l) (ha:AF a) (hl:l.length<100000):FL (l++ [a]):=by
 obtain ⟨n,hn⟩:=h
 obtain ⟨hx,⟨m,hm⟩,⟨p,hp⟩⟩:=ha
 cases n with
 | zero=>exact hn.elim
 | succ n=>
  refine ⟨max n (max m p)+1,by rw [List.length_append,List.length_singleton]; omega,fun b hb=> ?_⟩
  rw [List.mem_append,List.mem_singleton] at hb
  rcases hb with hb | rfl
  · exact ⟨(hn.2 b hb).1,Fl.up (hn.2 b hb).2.1 (by omega),Fl.up (hn.2 b hb).2.2 (by omega)⟩
  · exact ⟨hx,Fl.up hm (by omega),Fl.up hp (by omega)⟩
def BS (l:List ak) (i d:Nat):Prop:=
 (∃ v j Z,i+1≤j∧j<l.length∧FL v∧(∀ k,Z≤k→cK k (at' l i d)=some (v,at' l j d))∧ ∀ k,Z≤k→gB k l (i:Int) (d:Int)=some (v,((j:Nat):Int),⟨0,0⟩))∨
 (∃ v s Z,s.Row.bk.Code≠0∧(∀ k,Z≤k→cK k (at' l i d)=some (v,s))∧ ∀ k,Z≤k→gB k l (i:Int) (d:Int)=some ([],0,s.Row.bk))
noncomputable def gI (k:Nat) (l:List ak) (i d:Nat):Option (ah×Int×aL):=
 bif aS (aj l i) h_ then yT (gB k) l (i:Int) ((d+1:Nat):Int) else bif aS (aj l i) gf then yV (gB k) l (i:Int) ((d+1:Nat):Int) else pN l (i:Int)
def IT (l:List ak) (i d:Nat):Prop:=
 (∃ a j Z,i+1≤j∧j<l.length∧AF a∧(∀ k,Z≤k→eA (cK k) (at' l i (d+1))=some (a,at' l j (d+1)))∧ ∀ k,Z≤k→gI k l i d=some (a,((j:Nat):Int),⟨0,0⟩))∨
 (∃ a s a' p Z,s.Row.bk.Code≠0∧(∀ k,Z≤k→eA (cK k) (at' l i (d+1))=some (a,s))∧ ∀ k,Z≤k→gI k l i d=some (a',p,s.Row.bk))
theorem uL {t:ak} {s s':List UInt8} (h:aS t s=true) (hne:s≠s'):aS t s'=false:=by
 unfold aS; rw [decide_eq_false_iff_not]; rintro ⟨_,q⟩; exact hne ((of_decide_eq_true h).2.symm.trans q)
theorem I4 {l:List ak} {i o:Nat} (hi:i<l.length) (hl:l.length≤100000) {w:List UInt8} (hw:aS (aj l i) w=true) (hc:w=h_∨w=gf) (self:aG→Option (List ah×aG)):
 eA self (at' l i o)=mE self (at' l i o) (ah.mk 0 [] [] [] 0 [] [] (aj l i).At):=by
 have be: ∀ x:Option (ah×aG),(x.bind fun r=>some (ah.mk r.1.Kind r.1.Name r.1.Event r.1.X r.1.N r.1.bE r.1.bw r.1.At,r.2))=x:=fun x=>by
  cases x with
  | none=>rfl
  | some r=>rw [aa,zz]
 have hn:(decide ((aj l i).Kind=1)&& !ep (aj l i).Text)=false:=by
  rw [(of_decide_eq_true hw).2]
  rcases hc with rfl | rfl
  · rw [show ep h_=true from by decide]; simp
  · rw [show ep gf=true from by decide]; simp
 unfold eA
 rw [gS hi,aa]
 dsimp only
 rw [wM hi,aa,hn,cond_false]
 dsimp only
 rw [fQ hi hl,aa,uL hw (by rcases hc with rfl | rfl <;> decide),cond_false,if_neg (by decide)]
 dsimp only
 rw [fQ hi hl,aa,uL hw (by rcases hc with rfl | rfl <;> decide),cond_false,if_neg (by decide)]
 dsimp only
 rw [fQ hi hl,aa,uL hw (by rcases hc with rfl | rfl <;> decide),cond_false,if_neg (by decide)]
 dsimp only
 rw [fQ hi hl,aa,uL hw (by rcases hc with rfl | rfl <;> decide),cond_false,if_neg (by decide)]
 dsimp only
 rw [nL hi,aa]
 dsimp only
 rcases hc with rfl | rfl
 · rw [hw,cond_true,cond_true,be]
 · rw [uL hw (by decide),cond_false,nL hi,aa]
   dsimp only
   rw [hw,cond_true,be]
theorem Jn {s:aG} (h:s.Row.bk.Code≠0): ∃ s',s'.Row=s.Row∧ ∀ k,cK (k+3) s=some ([],s'):=by
 refine ⟨aG.mk s.Row (ag (ag (s.aR+1) - 1)),rfl,fun k=> ?_⟩
 show j_ (cK (k+2)) (k+2) s=_
 unfold j_
 rw [DS h,aa,cond_false,nK.eq_2]
 rw [show aG.mk (bg.mk s.Row.L s.Row.At (aL.mk s.Row.bk.Code s.Row.bk.At)) s.aR=s from by cases s; rename_i r o; cases r; rename_i l a f; cases f; rfl,rL h,aa]
 exact wN (s:=aG.mk s.Row (ag (s.aR+1))) h _ k []
theorem UF {l:List ak} (H:Ok l) {i d:Nat} (hi:i<l.length) (hd:d≤10) (IH: ∀ j,i<j→j<l.length→BS l j (d+1)):IT l i d:=by
 have hl:=H.len
 have et:l.getD ((i:Nat):Int).toNat ak.z=aj l i:=by rw [Int.toNat_natCast]; rfl
 cases hif:aS (aj l i) h_ with
 | true=>
  have hm:=kS H hi hif
  have hlo:aS (aj l i) gf=false:=uL hif (by decide)
  have f0: ∀ self,eA self (at' l i (d+1))=(iC (at' l (i+1) (d+1))).bind fun r5=>
   (self r5.2).bind fun r6=>
   (gA r6.2 jT).bind fun r7=>
   bif r7.1 then
   (self r7.2).bind fun r8=>
   some (ah.mk 6 [] [] r5.1 0 r6.1 r8.1 (aj l i).At,r8.2) else
   some (ah.mk 6 [] [] r5.1 0 r6.1 [] (aj l i).At,r7.2):=fun self=>by
   rw [I4 hi hl hif (.inl rfl)]
   unfold mE
   rw [fQ hi hl,aa,hlo,cond_false,if_neg (by decide)]
   dsimp only
   rw [gU hi hl hif,aa]
  have g0: ∀ k,gI k l i d=(ld l ((i+1:Nat):Int)).bind fun r1=>
   if r1.2.2.Code≠0 then
   some (ah.mk 6 [] [] [] 0 [] [] (aj l i).At,0,r1.2.2) else
   (gB k l r1.2.1 ((d+1:Nat):Int)).bind fun r2=>
   if r2.2.2.Code=0 then
   (eT l r2.2.1 jT).bind fun r3=>
   bif r3 then
   (gB k l (ag (r2.2.1+1)) ((d+1:Nat):Int)).bind fun r4=>
   some (ah.mk 6 [] [] r1.1 0 r2.1 r4.1 (aj l i).At,r4.2.1,r4.2.2) else
   some (ah.mk 6 [] [] r1.1 0 r2.1 [] (aj l i).At,r2.2.1,r2.2.2) else
   some (ah.mk 6 [] [] r1.1 0 r2.1 [] (aj l i).At,r2.2.1,r2.2.2):=fun k=>by
   unfold gI yT
   rw [hif,cond_true,if_pos (by omega),if_pos (by omega),dS hi hl,et]
  rcases D7 (o:=d+1) H hm with ⟨X,j,h1,h2,hX,h3,h4⟩ | ⟨X,s,X',j',h1,h2,h3⟩
  · rcases IH j (by omega) h2 with ⟨v,j2,Z,k1,k2,k3,k4,k5⟩ | ⟨v,s,Z,k1,k2,k3⟩
    · cases hel:aS (aj l j2) jT with
      | true=>
       have hm2:=kS H k2 hel
       rcases IH (j2+1) (by omega) hm2 with ⟨w,j3,Z2,m1,m2,m3,m4,m5⟩ | ⟨w,s,Z2,m1,m2,m3⟩
       · refine .inl ⟨ah.mk 6 [] [] X 0 v w (aj l i).At,j3,Z+Z2,by omega,m2,⟨hX,k3,m3⟩,fun k hk=> ?_,fun k hk=> ?_⟩
         · rw [f0,h3,aa]
           dsimp only
           rw [k4 k (by omega),aa]
           dsimp only
           rw [fQ k2 hl,aa,hel,cond_true,if_pos rfl]
           dsimp only
           rw [m4 k (by omega),aa]
         · rw [g0,h4,aa]
           dsimp only
           rw [if_neg (by simp),k5 k (by omega),aa]
           dsimp only
           rw [if_pos rfl,iJ k2,aa,hel,cond_true,dS k2 hl,m5 k (by omega),aa]
       · refine .inr ⟨ah.mk 6 [] [] X 0 v w (aj l i).At,s,ah.mk 6 [] [] X 0 v [] (aj l i).At,0,Z+Z2,m1,fun k hk=> ?_,fun k hk=> ?_⟩
         · rw [f0,h3,aa]
           dsimp only
           rw [k4 k (by omega),aa]
           dsimp only
           rw [fQ k2 hl,aa,hel,cond_true,if_pos rfl]
           dsimp only
           rw [m2 k (by omega),aa]
         · rw [g0,h4,aa]
           dsimp only
           rw [if_neg (by simp),k5 k (by omega),aa]
           dsimp only
           rw [if_pos rfl,iJ k2,aa,hel,cond_true,dS k2 hl,m3 k (by omega),aa]
      | false=>
       refine .inl ⟨ah.mk 6 [] [] X 0 v [] (aj l i).At,j2,Z,by omega,k2,⟨hX,k3,FL.nil⟩,fun k hk=> ?_,fun k hk=> ?_⟩
       · rw [f0,h3,aa]
         dsimp only
         rw [k4 k hk,aa]
         dsimp only
         rw [fQ k2 hl,aa,hel,cond_false,if_neg (by decide)]
       · rw [g0,h4,aa]
         dsimp only
         rw [if_neg (by simp),k5 k hk,aa]
         dsimp only
         rw [if_pos rfl,iJ k2,aa,hel,cond_false]
    · refine .inr ⟨ah.mk 6 [] [] X 0 v [] (aj l i).At,s,ah.mk 6 [] [] X 0 [] [] (aj l i).At,0,Z,k1,fun k hk=> ?_,fun k hk=> ?_⟩
      · rw [f0,h3,aa]
        dsimp only
        rw [k2 k hk,aa]
        dsimp only
        rw [D2 k1,aa,cond_false]
      · rw [g0,h4,aa]
        dsimp only
        rw [if_neg (by simp),k3 k hk,aa]
        dsimp only
        rw [if_neg k1]
  · obtain ⟨s',hs',hb⟩:=Jn h1
    have h1':s'.Row.bk.Code≠0:=by rw [hs']; exact h1
    refine .inr ⟨ah.mk 6 [] [] X 0 [] [] (aj l i).At,s',ah.mk 6 [] [] [] 0 [] [] (aj l i).At,0,3,h1',fun k hk=> ?_,fun k hk=> ?_⟩
    · obtain ⟨k,rfl⟩: ∃ j,k=j+3:=⟨k - 3,by omega⟩
      rw [f0,h2,aa]
      dsimp only
      rw [hb k,aa]
      dsimp only
      rw [D2 h1',aa,cond_false]
    · rw [g0,h3,aa]
      dsimp only
      rw [if_pos h1,hs']
 | false=>
 cases hlo:aS (aj l i) gf with
 | true=>
  have hm:=kS H hi hlo
  have f0: ∀ self,eA self (at' l i (d+1))=(oz (at' l (i+1) (d+1))).bind fun r2=>
   (self r2.2).bind fun r3=>
   some (ah.mk 7 [] [] [] r2.1 r3.1 [] (aj l i).At,r3.2):=fun self=>by
   rw [I4 hi hl hlo (.inr rfl)]
   unfold mE
   rw [fQ hi hl,aa,hlo,cond_true,if_pos rfl]
  have RR:l.getD ((i+1:Nat):Int).toNat ak.z=aj l (i+1):=by rw [Int.toNat_natCast]; rfl
  have g0: ∀ k,gI k l i d=if (aj l (i+1)).Kind≠2 then
   some (ah.mk 7 [] [] [] 0 [] [] (aj l i).At,0,bd (aj l (i+1))) else
   (gB k l (ag (((i+1:Nat):Int)+1)) ((d+1:Nat):Int)).bind fun r2=>
   some (ah.mk 7 [] [] [] (aj l (i+1)).N r2.1 [] (aj l i).At,r2.2.1,r2.2.2):=fun k=>by
   unfold gI yV
   rw [hif,cond_false,hlo,cond_true,if_pos (by omega),if_pos (by omega),dS hi hl,et,RR,if_pos (by omega),if_pos (by omega)]
   by_cases q:(aj l (i+1)).Kind≠2
   · rw [if_pos q,if_pos q,vf hm,aa]; rfl
   · rw [if_neg q,if_neg q,if_pos (by omega),if_pos (by omega)]
  by_cases hk2:(aj l (i+1)).Kind=2
  · have hm2:=H.more (i+1) hm (by omega)
    have uE:oz (at' l (i+1) (d+1))=some ((aj l (i+1)).N,at' l (i+1+1) (d+1)):=by
     unfold oz
     rw [gS hm,aa]
     dsimp only
     rw [if_neg (by simp [hk2])]
     show some ((aj l (i+1)).N,(⟨⟨l,ag (((i+1:Nat):Int)+1),⟨0,0⟩⟩,((d+1:Nat):Int)⟩:aG))=_
     rw [dS hm hl]; rfl
    rcases IH (i+1+1) (by omega) hm2 with ⟨v,j,Z,k1,k2,k3,k4,k5⟩ | ⟨v,s,Z,k1,k2,k3⟩
    · refine .inl ⟨ah.mk 7 [] [] [] (aj l (i+1)).N v [] (aj l i).At,j,Z,by omega,k2,⟨jz.nil,k3,FL.nil⟩,fun k hk=> ?_,fun k hk=> ?_⟩
      · rw [f0,uE,aa]
        dsimp only
        rw [k4 k hk,aa]
      · rw [g0,if_neg (by simp [hk2]),dS hm hl,k5 k hk,aa]
    · refine .inr ⟨ah.mk 7 [] [] [] (aj l (i+1)).N v [] (aj l i).At,s,ah.mk 7 [] [] [] (aj l (i+1)).N [] [] (aj l i).At,0,Z,k1,fun k hk=> ?_,fun k hk=> ?_⟩
      · rw [f0,uE,aa]
        dsimp only
        rw [k2 k hk,aa]
      · rw [g0,if_neg (by simp [hk2]),dS hm hl,k3 k hk,aa]
  · have uE:oz (at' l (i+1) (d+1))=some (0,aG.mk (bg.mk l ((i+1:Nat):Int) (bd (aj l (i+1)))) ((d+1:Nat):Int)):=by
     unfold oz
     rw [gS hm,aa]
     dsimp only
     rw [if_pos hk2,D3 hm,aa]
    obtain ⟨s',hs',hb⟩:=Jn (s:=aG.mk (bg.mk l ((i+1:Nat):Int) (bd (aj l (i+1)))) ((d+1:Nat):Int)) (gV _)
    refine .inr ⟨ah.mk 7 [] [] [] 0 [] [] (aj l i).At,s',ah.mk 7 [] [] [] 0 [] [] (aj l i).At,0,3,by rw [hs']; exact gV _,fun k hk=> ?_,fun k hk=> ?_⟩
    · obtain ⟨k,rfl⟩: ∃ j,k=j+3:=⟨k - 3,by omega⟩
      rw [f0,uE,aa]
      dsimp only
      rw [hb k,aa]
    · rw [g0,if_pos hk2,hs']
 | false=>
  have gs: ∀ k,gI k l i d=pN l (i:Int):=fun k=>by unfold gI; rw [hif,cond_false,hlo,cond_false]
  have key: ∀ self,rA ry l (i+1) (d+1) (eA self (at' l i (d+1))) (pN l (i:Int)):=fun self=>Qi H hi hif hlo self
  have LC: ∀ self self',eA self (at' l i (d+1))=eA self' (at' l i (d+1)):=fun self self'=>(DM hi hl hif hlo self).trans (DM hi hl hif hlo self').symm
  rcases key (cK 0) with ⟨a,j,h1,h2,h3,h4,h5⟩ | ⟨a,s,a',p,h1,h2,h3⟩
  · exact .inl ⟨a,j,0,h1,h2,h3.af,fun k _=>by rw [LC _ (cK 0)]; exact h4,fun k _=>by rw [gs]; exact h5⟩
  · exact .inr ⟨a,s,a',p,0,h1,fun k _=>by rw [LC _ (cK 0)]; exact h2,fun k _=>by rw [gs]; exact h3⟩
end Go.Sy.Ex
namespace Go.Sy.Ex
open Go.Sy
theorem NB {l:List ak} (H:Ok l) {i0 d:Nat} (hd:d≤10) (IH: ∀ i,i0≤i→i<l.length→IT l i d): ∀ (r i:Nat) (acc:List ah),l.length≤i+r→i0≤i→i<l.length→acc.length≤i→FL acc→
 (∃ v j Z,i+1≤j∧j<l.length∧FL v∧(∀ k,Z≤k→ ∀ k',Z≤k'→gm (cK k) k' l (i:Int) 0 0 ((d+1:Nat):Int) acc=some (v,at' l j d))∧ ∀ k,Z≤k→ ∀ k',Z≤k'→lZ (gB k) k' l (i:Int) (d:Int) 0 0 acc=some (v,((j:Nat):Int),⟨0,0⟩))∨
 (∃ v s Z,s.Row.bk.Code≠0∧(∀ k,Z≤k→ ∀ k',Z≤k'→gm (cK k) k' l (i:Int) 0 0 ((d+1:Nat):Int) acc=some (v,s))∧ ∀ k,Z≤k→ ∀ k',Z≤k'→lZ (gB k) k' l (i:Int) (d:Int) 0 0 acc=some ([],0,s.Row.bk))
 | 0,i,acc,hr,_,hi,_,_=>by omega
 | r+1,i,acc,hr,h0,hi,hacc,hfl=>by
  have hl:=H.len
  have hw:ag (((d+1:Nat):Int) - 1)=(d:Int):=by rw [bl (by omega) (by omega)]; omega
  have Ul:ag ((d:Int)+1)=((d+1:Nat):Int):=by rw [bl (by omega) (by omega)]; omega
  have cN:aG.mk (bg.mk l (i:Int) (aL.mk 0 0)) ((d+1:Nat):Int)=at' l i (d+1):=rfl
  cases hrb:aS (aj l i) dx with
  | true=>
   refine .inl ⟨acc,i+1,1,Nat.le_refl _,kS H hi hrb,hfl,fun k hk k' hk'=> ?_,fun k hk k' hk'=> ?_⟩
   · obtain ⟨k',rfl⟩: ∃ j,k'=j+1:=⟨k' - 1,by omega⟩
     rw [gm.eq_2,cN,gT,aa,cond_true]
     dsimp only
     rw [fQ hi hl,aa,hrb,Bool.not_true,cond_false,if_pos rfl]
     show some (acc,(⟨⟨l,((i+1:Nat):Int),⟨0,0⟩⟩,ag (((d+1:Nat):Int) - 1)⟩:aG))=_
     rw [hw]; rfl
   · obtain ⟨k',rfl⟩: ∃ j,k'=j+1:=⟨k' - 1,by omega⟩
     rw [lZ.eq_2,iJ hi,aa,hrb,Bool.not_true,cond_false,dS hi hl]
  | false=>
   have EJ: ∀ k k',gm (cK k) (k'+1) l (i:Int) 0 0 ((d+1:Nat):Int) acc=(eA (cK k) (at' l i (d+1))).bind fun r7=>
    if (acc.length+ [r7.1].length)*128≤140737488355328 then
    gm (cK k) k' r7.2.Row.L r7.2.Row.At r7.2.Row.bk.Code r7.2.Row.bk.At r7.2.aR (acc++ [r7.1]) else none:=fun k k'=>by
    rw [gm.eq_2,cN,gT,aa,cond_true]
    dsimp only
    rw [fQ hi hl,aa,hrb,Bool.not_false,cond_true,if_neg (by decide)]
   have EK: ∀ k k',lZ (gB k) (k'+1) l (i:Int) (d:Int) 0 0 acc=(gI k l i d).bind fun r5=>
    if r5.2.2.Code≠0 then
    some ([],0,r5.2.2) else
    if (acc.length+ [r5.1].length)*128≤140737488355328 then
    lZ (gB k) k' l r5.2.1 (d:Int) 0 0 (acc++ [r5.1]) else none:=fun k k'=>by
    rw [lZ.eq_2,iJ hi,aa,hrb,Bool.not_false,cond_true,iJ hi,aa,Ul]
    unfold gI
    simp only [zz]
    cases aS (aj l i) h_ with
    | true=>rfl
    | false=>
     rw [cond_false,cond_false,iJ hi,aa]
     cases aS (aj l i) gf with
     | true=>rfl
     | false=>rfl
   rcases IH i h0 hi with ⟨a,j,Z,h1,h2,h3,h4,h5⟩ | ⟨a,s,a',p,Z,h1,h2,h3⟩
   · rcases NB H hd IH r j (acc++ [a]) (by omega) (by omega) h2 (by rw [List.length_append,List.length_singleton]; omega) (hfl.push h3 (by omega)) with ⟨v,j2,Z2,k1,k2,k3,k4,k5⟩ | ⟨v,s,Z2,k1,k2,k3⟩
     · refine .inl ⟨v,j2,Z+Z2+1,by omega,k2,k3,fun k hk k' hk'=> ?_,fun k hk k' hk'=> ?_⟩
       · obtain ⟨k',rfl⟩: ∃ j,k'=j+1:=⟨k' - 1,by omega⟩
         rw [EJ,h4 k (by omega),aa,if_pos (by simp only [List.length_singleton]; omega)]
         exact k4 k (by omega) k' (by omega)
       · obtain ⟨k',rfl⟩: ∃ j,k'=j+1:=⟨k' - 1,by omega⟩
         rw [EK,h5 k (by omega),aa,if_neg (by simp),if_pos (by simp only [List.length_singleton]; omega)]
         exact k5 k (by omega) k' (by omega)
     · refine .inr ⟨v,s,Z+Z2+1,k1,fun k hk k' hk'=> ?_,fun k hk k' hk'=> ?_⟩
       · obtain ⟨k',rfl⟩: ∃ j,k'=j+1:=⟨k' - 1,by omega⟩
         rw [EJ,h4 k (by omega),aa,if_pos (by simp only [List.length_singleton]; omega)]
         exact k2 k (by omega) k' (by omega)
       · obtain ⟨k',rfl⟩: ∃ j,k'=j+1:=⟨k' - 1,by omega⟩
         rw [EK,h5 k (by omega),aa,if_neg (by simp),if_pos (by simp only [List.length_singleton]; omega)]
         exact k3 k (by omega) k' (by omega)
   · refine .inr ⟨acc++ [a],aG.mk s.Row (ag (s.aR - 1)),Z+2,h1,fun k hk k' hk'=> ?_,fun k hk k' hk'=> ?_⟩
     · obtain ⟨k',rfl⟩: ∃ j,k'=j+2:=⟨k' - 2,by omega⟩
       rw [EJ,h2 k (by omega),aa,if_pos (by simp only [List.length_singleton]; omega)]
       exact wN h1 _ k' _
     · obtain ⟨k',rfl⟩: ∃ j,k'=j+1:=⟨k' - 1,by omega⟩
       rw [EK,h3 k (by omega),aa,if_pos h1]
theorem Jo {l:List ak} (H:Ok l): ∀ (n i d:Nat),l.length≤i+n→i<l.length→d≤4→BS l i d
 | 0,i,d,hn,hi,_=>by omega
 | n+1,i,d,hn,hi,hd=>by
  have hl:=H.len
  have et:l.getD ((i:Nat):Int).toNat ak.z=aj l i:=by rw [Int.toNat_natCast]; rfl
  cases hlb:aS (aj l i) ju with
  | false=>
   have hw:cZ (at' l i d) ju=_:=tZ hi hl hlb
   refine .inr ⟨[],aG.mk (bg.mk l (i:Int) (bd (aj l i))) (ag (ag ((d:Int)+1) - 1)),3,gV _,fun k hk=> ?_,fun k hk=> ?_⟩
   · obtain ⟨k,rfl⟩: ∃ j,k=j+3:=⟨k - 3,by omega⟩
     show j_ (cK (k+2)) (k+2) (at' l i d)=_
     unfold j_
     rw [nL hi,aa]
     dsimp only
     rw [hlb,cond_false,nK.eq_2]
     rw [show aG.mk (bg.mk (at' l i d).Row.L (at' l i d).Row.At (aL.mk (at' l i d).Row.bk.Code (at' l i d).Row.bk.At)) (at' l i d).aR=at' l i d from rfl,hw,aa]
     exact wN (s:=aG.mk (bg.mk l (i:Int) (bd (aj l i))) (ag ((d:Int)+1))) (gV _) _ k []
   · obtain ⟨k,rfl⟩: ∃ j,k=j+1:=⟨k - 1,by omega⟩
     show qQ (gB k) k l (i:Int) (d:Int)=_
     unfold qQ
     rw [iJ hi,aa,hlb,Bool.not_false,cond_true,vf hi,aa]
     rfl
  | true=>
   have hm:=kS H hi hlb
   by_cases h4:d=4
   · subst h4
     have hk: ∃ k s n,strip (aj l i)=(k,s,n):=⟨_,_,_,rfl⟩
     refine .inr ⟨[],aG.mk (bg.mk l (i:Int) ⟨14,(aj l i).At⟩) (ag (ag (((4:Nat):Int)+1) - 1)),3,by show (14:Int)≠0; decide,fun k hk=> ?_,fun k hk=> ?_⟩
     · obtain ⟨k,rfl⟩: ∃ j,k=j+3:=⟨k - 3,by omega⟩
       show j_ (cK (k+2)) (k+2) (at' l i 4)=_
       unfold j_
       rw [nL hi,aa]
       dsimp only
       rw [hlb,cond_true,if_pos (by rfl),gS hi,aa]
       dsimp only
       rw [show gz (at' l i 4) 14 (aj l i).At=some (aG.mk (bg.mk l (i:Int) ⟨14,(aj l i).At⟩) ((4:Nat):Int)) from by
        unfold gz; rw [gT,aa]; rfl,aa,nK.eq_2]
       dsimp only
       have Td:(aG.mk (bg.mk l (i:Int) ⟨14,(aj l i).At⟩) ((4:Nat):Int)).Row.bk.Code≠0:=by show (14:Int)≠0; decide
       rw [rL Td,aa]
       have key: ∀ (self:aG→Option (List ah×aG)) (a w:Int),gm self (k+1) l (i:Int) 14 a w []=some ([],aG.mk (bg.mk l (i:Int) ⟨14,a⟩) (ag (w - 1))):=fun self a w=>wN (s:=aG.mk (bg.mk l (i:Int) ⟨14,a⟩) w) (by show (14:Int)≠0; decide) self k []
       exact key _ _ _
     · obtain ⟨k,rfl⟩: ∃ j,k=j+1:=⟨k - 1,by omega⟩
       show qQ (gB k) k l (i:Int) ((4:Nat):Int)=_
       unfold qQ
       rw [iJ hi,aa,hlb,Bool.not_true,cond_false,if_pos (by rfl),if_pos (by omega),if_pos (by omega),et]
   · have Pg: ∀ j,i+1≤j→j<l.length→IT l j d:=fun j h1 h2=>UF H h2 (by omega) fun q h3 EL=>Jo H n q (d+1) (by omega) EL (by omega)
     have nT: ∀ k,cK (k+2) (at' l i d)=gm (cK (k+1)) k l ((i+1:Nat):Int) 0 0 ((d+1:Nat):Int) []:=fun k=>by
      show j_ (cK (k+1)) (k+1) (at' l i d)=_
      unfold j_
      rw [nL hi,aa]
      dsimp only
      rw [hlb,cond_true,if_neg (by show ¬ ((d:Nat):Int)=4; omega),nK.eq_2]
      rw [show aG.mk (bg.mk (at' l i d).Row.L (at' l i d).Row.At (aL.mk (at' l i d).Row.bk.Code (at' l i d).Row.bk.At)) (at' l i d).aR=at' l i d from rfl,gU hi hl hlb,aa]
      show gm (cK (k+1)) k l ((i+1:Nat):Int) 0 0 (ag (((d:Nat):Int)+1)) []=_
      rw [show ag (((d:Nat):Int)+1)=((d+1:Nat):Int) from by rw [bl (by omega) (by omega)]; omega]
     have nU: ∀ k,gB (k+1) l (i:Int) (d:Int)=lZ (gB k) k l ((i+1:Nat):Int) (d:Int) 0 0 []:=fun k=>by
      show qQ (gB k) k l (i:Int) (d:Int)=_
      unfold qQ
      rw [iJ hi,aa,hlb,Bool.not_true,cond_false,if_neg (by omega),dS hi hl]
     rcases NB H (by omega) Pg l.length (i+1) [] (by omega) (Nat.le_refl _) hm (Nat.zero_le _) FL.nil with ⟨v,j,Z,k1,k2,k3,k4,k5⟩ | ⟨v,s,Z,k1,k2,k3⟩
     · refine .inl ⟨v,j,Z+2,by omega,k2,k3,fun k hk=> ?_,fun k hk=> ?_⟩
       · obtain ⟨k,rfl⟩: ∃ j,k=j+2:=⟨k - 2,by omega⟩
         rw [nT]; exact k4 (k+1) (by omega) k (by omega)
       · obtain ⟨k,rfl⟩: ∃ j,k=j+1:=⟨k - 1,by omega⟩
         rw [nU]; exact k5 k (by omega) k (by omega)
     · refine .inr ⟨v,s,Z+2,k1,fun k hk=> ?_,fun k hk=> ?_⟩
       · obtain ⟨k,rfl⟩: ∃ j,k=j+2:=⟨k - 2,by omega⟩
         rw [nT]; exact k2 (k+1) (by omega) k (by omega)
       · obtain ⟨k,rfl⟩: ∃ j,k=j+1:=⟨k - 1,by omega⟩
         rw [nU]; exact k3 k (by omega) k (by omega)
theorem Qv {l:List ak} (H:Ok l) {i:Nat} (hi:i<l.length): ∃ v j f,mD l (i:Int)=some (v,j,f)∧vG l (i:Int)=some (v,j,f)∧FL v:=by
 rcases Jo H l.length i 0 (by omega) hi (by decide) with ⟨v,j,Z,h1,h2,h3,h4,h5⟩ | ⟨v,s,Z,h1,h2,h3⟩
 · refine ⟨v,(j:Int),⟨0,0⟩, ?_, ?_,h3⟩
   · unfold mD
     rw [show rG (aG.mk (bg.mk l (i:Int) (aL.mk 0 0)) 0)=some (v,at' l j 0) from b6 Z h4,aa,gT,aa,Bool.not_true,cond_false]
     rfl
   · unfold vG
     rw [show yS l (i:Int) 0=some (v,((j:Nat):Int),⟨0,0⟩) from b6 Z h5,aa]
 · refine ⟨[],0,s.Row.bk, ?_, ?_,FL.nil⟩
   · unfold mD
     rw [show rG (aG.mk (bg.mk l (i:Int) (aL.mk 0 0)) 0)=some (v,s) from b6 Z h2,aa,tW h1,aa,Bool.not_false,cond_true]
   · unfold vG
     rw [show yS l (i:Int) 0=some ([],0,s.Row.bk) from b6 Z h3,aa]
end Go.Sy.Ex
namespace Go.Sy.Ex
open Go.Sy
theorem yd {n:Nat} (h:n<1000000000):ag ((n:Int)+1)=((n+1:Nat):Int):=by rw [bl (by omega) (by omega)]; omega
theorem Mz: ∀ (n:Nat) (e:ai),Fe n e→ ∀ k,n+4≤k→tn k e e=some true
 | 0,e,h,_,_=>h.elim
 | n+1,e,⟨h1,h4⟩,k,hk=>by
  obtain ⟨k,rfl⟩: ∃ j,k=j+1:=⟨k - 1,by omega⟩
  show Cn (tn k) k e e=_
  unfold Cn
  rw [if_neg (fun q=>q rfl),if_neg (fun q=>q rfl),if_neg (fun q=>q rfl),if_neg (fun q=>q rfl)]
  have loop: ∀ m i,i+m=e.Kids.length→ ∀ k',m+1≤k'→vE (tn k) k' e.Kind e.N e.Name e.Kids e.At e.Kind e.N e.Name e.Kids e.At ((i:Nat):Int)=some true:=by
   intro m
   induction m with
   | zero=>
    intro i h k' hk'
    obtain ⟨k',rfl⟩: ∃ j,k'=j+1:=⟨k' - 1,by omega⟩
    rw [vE.eq_2,if_neg (by omega)]
   | succ m ih=>
    intro i h k' hk'
    obtain ⟨k',rfl⟩: ∃ j,k'=j+1:=⟨k' - 1,by omega⟩
    have hi:i<e.Kids.length:=by omega
    rw [vE.eq_2,if_pos (by omega),if_pos (by omega),if_pos (by omega),if_pos (by omega),if_pos (by omega),Int.toNat_natCast,cF _ hi,Mz n _ (h4 _ (List.getElem_mem hi)) k (by omega),aa,Bool.not_true,cond_false,yd (by omega)]
    exact ih (i+1) (by omega) k' (by omega)
  exact loop e.Kids.length 0 (by omega) k (by omega)
theorem My {e:ai} (h:Fd e):vC e e=some true:=by
 obtain ⟨n,hn⟩:=h
 exact b6 (n+4) fun k hk=>Mz n e hn k hk
theorem JK: ∀ (n:Nat) (e:ai),Fe n e→ ∀ k,n+4≤k→sS k e e=some true
 | 0,e,h,_,_=>h.elim
 | n+1,e,⟨h1,h4⟩,k,hk=>by
  obtain ⟨k,rfl⟩: ∃ j,k=j+1:=⟨k - 1,by omega⟩
  show AQ (sS k) k e e=_
  unfold AQ
  rw [if_neg (fun q=>q rfl),if_neg (fun q=>q rfl)]
  have loop: ∀ m i,i+m=e.Kids.length→ ∀ k',m+1≤k'→uQ (sS k) k' e.Kind e.N e.Name e.Kids e.At e.Kind e.N e.Name e.Kids e.At ((i:Nat):Int)=some true:=by
   intro m
   induction m with
   | zero=>
    intro i h k' hk'
    obtain ⟨k',rfl⟩: ∃ j,k'=j+1:=⟨k' - 1,by omega⟩
    rw [uQ.eq_2,if_neg (by omega),eta,My ⟨n+1,h1,h4⟩,aa]
   | succ m ih=>
    intro i h k' hk'
    obtain ⟨k',rfl⟩: ∃ j,k'=j+1:=⟨k' - 1,by omega⟩
    have hi:i<e.Kids.length:=by omega
    rw [uQ.eq_2,if_pos (by omega),if_pos (by omega),if_pos (by omega),if_pos (by omega),if_pos (by omega),Int.toNat_natCast,cF _ hi,JK n _ (h4 _ (List.getElem_mem hi)) k (by omega),aa,Bool.not_true,cond_false,yd (by omega)]
    exact ih (i+1) (by omega) k' (by omega)
  exact loop e.Kids.length 0 (by omega) k (by omega)
theorem RH {e:ai} (h:Fd e):AP e e=some true:=by
 obtain ⟨n,hn⟩:=h
 exact b6 (n+4) fun k hk=>JK n e hn k hk
theorem V4 {X:List ai} (h:jz X):Cl X X=some true:=b6 2 fun k hk=>by
 obtain ⟨k,rfl⟩: ∃ j,k=j+2:=⟨k - 2,by omega⟩
 show Cm (k+2) X X=_
 unfold Cm
 rw [if_neg (fun q=>q rfl)]
 match X,h with
 | [],_=>rw [vA.eq_2,if_neg (by simp)]
 | [e],h=>
  rw [vA.eq_2,if_pos (by simp),if_pos (by decide),if_pos (by simp),if_pos (by decide),if_pos (by simp),show [e].getD (0:Int).toNat ai.z=e from rfl,My (h.2 e (by simp)),aa,Bool.not_true,cond_false,show ag ((0:Int)+1)=1 from by rw [bl (by decide) (by decide)]; rfl,vA.eq_2,if_neg (by simp)]
 | _::_::_,h=>exact absurd h.1 (by simp)
theorem HX: ∀ (n:Nat) (l:List ah),Fl n l→ ∀ k,n+100002≤k→tv k l l=some true
 | 0,l,h,_,_=>h.elim
 | n+1,l,⟨h1,h4⟩,k,hk=>by
  obtain ⟨k,rfl⟩: ∃ j,k=j+1:=⟨k - 1,by omega⟩
  show Cu (tv k) k l l=_
  unfold Cu
  rw [if_neg (fun q=>q rfl)]
  have loop: ∀ m i,i+m=l.length→ ∀ k',m+1≤k'→vJ (tv k) k' l l ((i:Nat):Int)=some true:=by
   intro m
   induction m with
   | zero=>
    intro i h k' hk'
    obtain ⟨k',rfl⟩: ∃ j,k'=j+1:=⟨k' - 1,by omega⟩
    rw [vJ.eq_2,if_neg (by omega)]
   | succ m ih=>
    intro i h k' hk'
    obtain ⟨k',rfl⟩: ∃ j,k'=j+1:=⟨k' - 1,by omega⟩
    have hi:i<l.length:=by omega
    obtain ⟨g1,g2,g3⟩:=h4 _ (List.getElem_mem hi)
    rw [vJ.eq_2,if_pos (by omega),if_pos (by omega),if_pos (by omega),if_pos (by omega),if_pos (by omega),Int.toNat_natCast,cF _ hi,if_neg (fun q=>q rfl),if_neg (fun q=>q rfl),if_neg (fun q=>q rfl),if_neg (fun q=>q rfl),V4 g1,aa,Bool.not_true,cond_false,HX n _ g2 k (by omega),aa,Bool.not_true,cond_false,HX n _ g3 k (by omega),aa,Bool.not_true,cond_false,yd (by omega)]
    exact ih (i+1) (by omega) k' (by omega)
  exact loop l.length 0 (by omega) k (by omega)
theorem Za {n:Nat} {l:List ah} (h:Fl n l):Ct l l=some true:=b6 (n+100002) fun k hk=>HX n l h k hk
theorem xU: ∀ (n:Nat) (l:List ah),Fl n l→ ∀ k,n+100002≤k→sV k l l=some true
 | 0,l,h,_,_=>h.elim
 | n+1,l,⟨h1,h4⟩,k,hk=>by
  obtain ⟨k,rfl⟩: ∃ j,k=j+1:=⟨k - 1,by omega⟩
  show AT (sV k) k l l=_
  unfold AT
  rw [Za (n:=n+1) ⟨h1,h4⟩,aa,Bool.not_true,cond_false]
  have loop: ∀ m i,i+m=l.length→ ∀ k',m+1≤k'→sW (sV k) k' l l ((i:Nat):Int)=some true:=by
   intro m
   induction m with
   | zero=>
    intro i h k' hk'
    obtain ⟨k',rfl⟩: ∃ j,k'=j+1:=⟨k' - 1,by omega⟩
    rw [sW.eq_2,if_neg (by omega)]
   | succ m ih=>
    intro i h k' hk'
    obtain ⟨k',rfl⟩: ∃ j,k'=j+1:=⟨k' - 1,by omega⟩
    have hi:i<l.length:=by omega
    obtain ⟨g1,g2,g3⟩:=h4 _ (List.getElem_mem hi)
    rw [sW.eq_2,if_pos (by omega),if_pos (by omega),if_pos (by omega),if_pos (by omega),if_pos (by omega),Int.toNat_natCast,cF _ hi,if_neg (fun q=>q rfl)]
    by_cases c1:(l[i].X.length:Int)=1
    · obtain ⟨e,he⟩:=List.length_eq_one_iff.1 (show l[i].X.length=1 by omega)
      rw [if_pos c1,if_pos (by decide),if_pos (by omega),if_pos (by decide),if_pos (by omega),he,show [e].getD (0:Int).toNat ai.z=e from rfl,RH (g1.2 e (by rw [he]; simp)),aa,Bool.not_true,cond_false,xU n _ g2 k (by omega),aa,Bool.not_true,cond_false,xU n _ g3 k (by omega),aa,Bool.not_true,cond_false,yd (by omega)]
      exact ih (i+1) (by omega) k' (by omega)
    · rw [if_neg c1,xU n _ g2 k (by omega),aa,Bool.not_true,cond_false,xU n _ g3 k (by omega),aa,Bool.not_true,cond_false,yd (by omega)]
      exact ih (i+1) (by omega) k' (by omega)
  exact loop l.length 0 (by omega) k (by omega)
end Go.Sy.Ex
