import Derived.Test.YtogpgblanenleaaGreatDoorLSysReadsb
set_option linter.unusedVariables false
set_option linter.unusedSimpArgs false
namespace Go.Sy.Ex
open Go.Sy
noncomputable section
abbrev z0:bP:=bP.mk 0 [] [] [] []
def QY (s:bP):Prop:=(s.gy.length≤100000∧ ∀ x ∈ s.gy,QC x)∧s.Insts.length≤100000∧s.eg.length≤100000∧(s.fM.length≤100000∧ ∀ x ∈ s.fM,QF x)
theorem QY.zero:QY z0:=⟨⟨Nat.zero_le _,fun x hx=>by cases hx⟩,Nat.zero_le _,Nat.zero_le _,Nat.zero_le _,fun x hx=>by cases hx⟩
def fin (x:bP×aC):bP×az:=if x.2.Row.av.Code=0 then (x.1,⟨0,0⟩) else (z0,x.2.Row.av)
def OZ (f:Nat→Option (bP×aC)) (g:Nat→Option (bP×az)):Prop:= ∃ x Z,QY (fin x).1∧ ∀ m,Z≤m→f m=some x∧g m=some (fin x)
theorem OZ.shift {f g} (a b:Nat) (h:OZ (fun m=>f (m+a)) (fun m=>g (m+b))):OZ f g:=by
 obtain ⟨x,Z,h1,h2⟩:=h
 refine ⟨x,Z+a+b,h1,fun m hm=>⟨?_, ?_⟩⟩
 · have :=(h2 (m - a) (by omega)).1
   dsimp only at this
   rw [show m - a+a=m from by omega] at this
   exact this
 · have :=(h2 (m - b) (by omega)).2
   dsimp only at this
   rw [show m - b+b=m from by omega] at this
   exact this
theorem OZ.bad {v:bP} {s:aC} {r:aH} (h:Bs s r):OZ (fun _=>some (v,s)) (fun _=>some (z0,r.bad)):=by
 have e:fin (v,s)=(z0,r.bad):=by unfold fin; rw [if_neg h.1,h.2]
 exact ⟨(v,s),0,by rw [e]; exact QY.zero,fun m _=>⟨rfl,by rw [e]⟩⟩
section
variable {l:List ai} {i:Nat}
theorem OS.const {α:Type} {Q:α→Prop} {x:Option (α×aC)} {y:Option (α×aH)} (h:OS Q l i (fun _ _=>x) (fun _ _=>y)):
 (∃ v j,i≤j∧j<l.length∧Q v∧x=some (v,yt l j)∧y=some (v,vt l j))∨(∃ v s v' r,Bs s r∧x=some (v,s)∧y=some (v',r)):=by
 rcases h with ⟨v,j,Z,h1,h2,h3,h4⟩ | ⟨v,s,v',r,Z,h1,h4⟩
 · exact .inl ⟨v,j,h1,h2,h3,h4 Z (Nat.le_refl _) Z (Nat.le_refl _)⟩
 · exact .inr ⟨v,s,v',r,h1,h4 Z (Nat.le_refl _) Z (Nat.le_refl _)⟩
abbrev rY (m:Nat) (s:aC) (a:Int) (C:List aZ) (I:List bl) (K:List bk) (E:List a_):=pX m s.Row.L s.Row.At s.Row.av.Code s.Row.av.At 0 [] [] [] [] a C I K E
abbrev qe (m:Nat) (s:aC) (a:Int) (C:List aZ) (I:List bl) (K:List bk) (E:List a_):=tV m s.Row.L s.Row.At s.Row.av.Code s.Row.av.At 0 [] [] [] [] a C I K E
abbrev qf (m:Nat) (s:aC) (a:Int) (C:List aZ) (I:List bl) (K:List bk) (E:List a_):=tW m s.Row.L s.Row.At s.Row.av.Code s.Row.av.At 0 [] [] [] [] a C I K E
abbrev jZ (m:Nat) (s:aC) (a:Int) (C:List aZ) (I:List bl) (K:List bk) (E:List a_):=ow m s.Row.L s.Row.At s.Row.av.Code s.Row.av.At 0 [] [] [] [] a C I K E
abbrev rT (m:Nat) (r:aH) (a:Int) (C:List aZ) (I:List bl) (K:List bk) (E:List a_):=x5 m 0 [] [] [] [] 0 0 r.l r.ah r.bad.Code r.bad.At a C I K E
abbrev p8 (m:Nat) (r:aH) (a:Int) (C:List aZ) (I:List bl) (K:List bk) (E:List a_):=vI m 0 [] [] [] [] 0 0 r.l r.ah r.bad.Code r.bad.At a C I K E
abbrev p9 (m:Nat) (r:aH) (a:Int) (C:List aZ) (I:List bl) (K:List bk) (E:List a_):=vJ m 0 [] [] [] [] 0 0 r.l r.ah r.bad.Code r.bad.At a C I K E
abbrev jY (m:Nat) (r:aH) (a:Int) (C:List aZ) (I:List bl) (K:List bk) (E:List a_):=pG m 0 [] [] [] [] 0 0 r.l r.ah r.bad.Code r.bad.At a C I K E
abbrev SD (m:Nat) (r:aH) (a:Int) (C:List aZ) (I:List bl) (K:List bk) (E:List a_):=n_ m 0 [] [] [] [] 0 0 r.l r.ah r.bad.Code r.bad.At a C I K E
theorem FR {s:aC} {r:aH} (h:Bs s r) (m:Nat) (a:Int) (C:List aZ) (I:List bl) (K:List bk) (E:List a_):SD (m+1) r a C I K E=some (z0,r.bad):=by
 unfold SD; rw [n_.eq_2]
 show (cP r).bind _=_
 rw [ld h.r,aa]; rfl
theorem Gl {s:aC} {r:aH} (h:Bs s r) (a a':Int) (C C':List aZ) (I I':List bl) (K K':List bk) (E E':List a_):OZ (fun m=>jZ m s a C I K E) (fun m=>jY m r a' C' I' K' E'):=by
 refine OZ.shift 1 2 ?_
 have hf: ∀ m,jZ (m+1) s a C I K E=some (bP.mk a C I K E,s):=fun m=>by
  unfold jZ; rw [ow.eq_2]
  show (fF s ij _ 4).bind _=_
  rw [qF h.1,aa,cond_false]
  dsimp only
  rw [ue h.1,aa]; rfl
 have hg: ∀ m,jY (m+2) r a' C' I' K' E'=some (z0,r.bad):=fun m=>by
  unfold jY; rw [pG.eq_2]
  show (cD r ij).bind _=_
  rw [l_ h.r,aa,cond_false]
  dsimp only
  rw [ld h.r,aa,cond_false]
  exact FR h ..
 simp only [hf,hg]
 exact OZ.bad h
theorem Gk {s:aC} {r:aH} (h:Bs s r) (a a':Int) (C C':List aZ) (I I':List bl) (K K':List bk) (E E':List a_):OZ (fun m=>qf m s a C I K E) (fun m=>p9 m r a' C' I' K' E'):=by
 refine OZ.shift 1 1 ?_
 have hf: ∀ m,qf (m+1) s a C I K E=jZ m s a C I K E:=fun m=>by
  unfold qf; rw [tW.eq_2]
  show (fF s jv _ 24).bind _=_
  rw [qF h.1,aa,cond_false]
 have hg: ∀ m,p9 (m+1) r a' C' I' K' E'=jY m r a' C' I' K' E':=fun m=>by
  unfold p9; rw [vJ.eq_2]
  show (cD r jv).bind _=_
  rw [l_ h.r,aa,cond_false]
 simp only [hf,hg]
 exact Gl h ..
theorem Gj {s:aC} {r:aH} (h:Bs s r) (a a':Int) (C C':List aZ) (I I':List bl) (K K':List bk) (E E':List a_):OZ (fun m=>qe m s a C I K E) (fun m=>p8 m r a' C' I' K' E'):=by
 refine OZ.shift 1 1 ?_
 have hf: ∀ m,qe (m+1) s a C I K E=qf m s a C I K E:=fun m=>by
  unfold qe; rw [tV.eq_2]
  show (fF s jw _ 12).bind _=_
  rw [qF h.1,aa,cond_false]
 have hg: ∀ m,p8 (m+1) r a' C' I' K' E'=p9 m r a' C' I' K' E':=fun m=>by
  unfold p8; rw [vI.eq_2]
  show (cD r jw).bind _=_
  rw [l_ h.r,aa,cond_false]
 simp only [hf,hg]
 exact Gk h ..
theorem CM {s:aC} {r:aH} (h:Bs s r) (a a':Int) (C C':List aZ) (I I':List bl) (K K':List bk) (E E':List a_):OZ (fun m=>rY m s a C I K E) (fun m=>rT m r a' C' I' K' E'):=by
 refine OZ.shift 1 1 ?_
 have hf: ∀ m,rY (m+1) s a C I K E=qe m s a C I K E:=fun m=>by
  unfold rY; rw [pX.eq_2]
  show (fF s iq _ 8).bind _=_
  rw [qF h.1,aa,cond_false]
 have hg: ∀ m,rT (m+1) r a' C' I' K' E'=p8 m r a' C' I' K' E':=fun m=>by
  unfold rT; rw [x5.eq_2]
  show (cD r iq).bind _=_
  rw [l_ h.r,aa,cond_false]
 simp only [hf,hg]
 exact Gj h ..
theorem bN (n c:Nat) {α:Type} (x:α) (h:n≤100) (hc:c≤1000):(n+ [x].length)*c≤140737488355328:=by
 have :(n+ [x].length)*c≤101*1000:=Nat.mul_le_mul (by simp; omega) hc
 omega
theorem Tu (H:Ok l) (a:Int) (C:List aZ) (I:List bl) (K:List bk) (hC:C.length≤100000∧ ∀ x ∈ C,QC x) (hI:I.length≤100000) (hK:K.length≤100000): ∀ q i (E:List a_),4≤E.length+q→E.length≤4→i<l.length→(∀ x ∈ E,QF x)→OZ (fun m=>jZ m (yt l i) a C I K E) (fun m=>jY m (vt l i) a C I K E):=by
 intro q
 induction q with
 | zero=>
  intro i E hq hE hi hQ
  have e4:(E.length:Int)=4:=by omega
  refine OZ.shift 1 2 ?_
  cases h:au (ag l i) ij with
  | true=>
   have hb:=Bs.many l i
   have hf: ∀ m,jZ (m+1) (yt l i) a C I K E=some (bP.mk a C I K E,yM l i):=fun m=>by
    unfold jZ; rw [ow.eq_2]
    show (fF (yt l i) ij _ 4).bind _=_
    rw [qG hi,h,cond_true,if_pos e4,aa,cond_false]
    dsimp only
    rw [ue hb.1,aa]; rfl
   have hg: ∀ m,jY (m+2) (vt l i) a C I K E=some (z0,(vM l i).bad):=fun m=>by
    unfold jY; rw [pG.eq_2]
    show (cD (vt l i) ij).bind _=_
    rw [jA hi,aa,h,cond_true]
    dsimp only
    rw [xH hi,if_pos e4,aa,Bool.not_true,cond_false]
    dsimp only
    rw [ld hb.r,aa,cond_false]
    exact FR hb ..
   simp only [hf,hg]
   exact OZ.bad hb
  | false=>
   have hf: ∀ m,jZ (m+1) (yt l i) a C I K E=if (ag l i).Kind≠4 then some (bP.mk a C I K E,yb l i) else some (bP.mk a C I K E,yt l i):=fun m=>by
    unfold jZ; rw [ow.eq_2]
    show (fF (yt l i) ij _ 4).bind _=_
    rw [qG hi,h,cond_false,aa,cond_false]
    dsimp only
    rw [mo hi,aa]
    dsimp only
    rw [CC hi,aa]
   have hg: ∀ m,jY (m+2) (vt l i) a C I K E=if (ag l i).Kind≠4 then some (z0,bd (ag l i)) else some (bP.mk a C I K E,⟨0,0⟩):=fun m=>by
    unfold jY; rw [pG.eq_2]
    show (cD (vt l i) ij).bind _=_
    rw [jA hi,aa,h,cond_false]
    dsimp only
    rw [jB,aa,cond_true]
    show (if 0≤((i:Nat):Int) then if ((i:Nat):Int)<(l.length:Int) then if (l.getD ((i:Nat):Int).toNat ai.z).Kind≠4 then _ else _ else none else none)=_
    rw [if_pos (by omega),if_pos (by omega),Int.toNat_natCast]
    show (if (ag l i).Kind≠4 then (dG l ((i:Nat):Int)).bind _ else _)=_
    by_cases hk:(ag l i).Kind≠4
    · rw [if_pos hk,if_pos hk,kf hi,aa]
      exact FR (Bs.mk l i) ..
    · rw [if_neg hk,if_neg hk,n_.eq_2]
      show (cP (vt l i)).bind _=_
      rw [jB,aa]; rfl
   simp only [hf,hg]
   by_cases hk:(ag l i).Kind≠4
   · simp only [if_pos hk]; exact OZ.bad (Bs.mk l i)
   · simp only [if_neg hk]
     exact ⟨(bP.mk a C I K E,yt l i),0,⟨hC,hI,hK,show E.length≤100000 by omega,hQ⟩,fun m _=>⟨rfl,rfl⟩⟩
 | succ q ih=>
  intro i E hq hE hi hQ
  by_cases e4:E.length=4
  · exact ih i E (by omega) hE hi hQ
  have MB: ¬ (E.length:Int)=4:=by omega
  cases h:au (ag l i) ij with
  | true=>
   refine OZ.shift 1 1 ?_
   have hf: ∀ m,jZ (m+1) (yt l i) a C I K E=(Co (yt l i)).bind fun p=>jZ m p.2 a C I K (E++ [p.1]):=fun m=>by
    unfold jZ; rw [ow.eq_2]
    show (fF (yt l i) ij _ 4).bind _=_
    rw [qG hi,h,cond_true,if_neg MB,aa,cond_true]
    simp only [if_pos (bN _ 144 _ (show E.length≤100 by omega) (by omega))]
   have hg: ∀ m,jY (m+1) (vt l i) a C I K E=(BH (vt l i)).bind fun p=>jY m p.2 a C I K (E++ [p.1]):=fun m=>by
    unfold jY; rw [pG.eq_2]
    show (cD (vt l i) ij).bind _=_
    rw [jA hi,aa,h,cond_true]
    dsimp only
    rw [xH hi,if_neg MB,aa,Bool.not_false,cond_true]
    simp only [if_pos (bN _ 144 _ (show E.length≤100 by omega) (by omega))]
   simp only [hf,hg]
   rcases OS.const (U5 H hi h) with ⟨v,j,g1,g2,g3,g4,g5⟩ | ⟨v,s,v',r,hb,g4,g5⟩
   · simp only [g4,g5,aa]
     exact ih j _ (by simp; omega) (by simp; omega) g2 fun x hx=>by
      rcases List.mem_append.1 hx with hx | hx
      · exact hQ x hx
      · rw [List.mem_singleton.1 hx]; exact g3
   · simp only [g4,g5,aa]
     exact Gl hb ..
  | false=>
   refine OZ.shift 1 2 ?_
   have hf: ∀ m,jZ (m+1) (yt l i) a C I K E=if (ag l i).Kind≠4 then some (bP.mk a C I K E,yb l i) else some (bP.mk a C I K E,yt l i):=fun m=>by
    unfold jZ; rw [ow.eq_2]
    show (fF (yt l i) ij _ 4).bind _=_
    rw [qG hi,h,cond_false,aa,cond_false]
    dsimp only
    rw [mo hi,aa]
    dsimp only
    rw [CC hi,aa]
   have hg: ∀ m,jY (m+2) (vt l i) a C I K E=if (ag l i).Kind≠4 then some (z0,bd (ag l i)) else some (bP.mk a C I K E,⟨0,0⟩):=fun m=>by
    unfold jY; rw [pG.eq_2]
    show (cD (vt l i) ij).bind _=_
    rw [jA hi,aa,h,cond_false]
    dsimp only
    rw [jB,aa,cond_true]
    show (if 0≤((i:Nat):Int) then if ((i:Nat):Int)<(l.length:Int) then if (l.getD ((i:Nat):Int).toNat ai.z).Kind≠4 then _ else _ else none else none)=_
    rw [if_pos (by omega),if_pos (by omega),Int.toNat_natCast]
    show (if (ag l i).Kind≠4 then (dG l ((i:Nat):Int)).bind _ else _)=_
    by_cases hk:(ag l i).Kind≠4
    · rw [if_pos hk,if_pos hk,kf hi,aa]
      exact FR (Bs.mk l i) ..
    · rw [if_neg hk,if_neg hk,n_.eq_2]
      show (cP (vt l i)).bind _=_
      rw [jB,aa]; rfl
   simp only [hf,hg]
   by_cases hk:(ag l i).Kind≠4
   · simp only [if_pos hk]; exact OZ.bad (Bs.mk l i)
   · simp only [if_neg hk]
     exact ⟨(bP.mk a C I K E,yt l i),0,⟨hC,hI,hK,show E.length≤100000 by omega,hQ⟩,fun m _=>⟨rfl,rfl⟩⟩
theorem Lf (H:Ok l) (a:Int) (C:List aZ) (I:List bl) (hC:C.length≤100000∧ ∀ x ∈ C,QC x) (hI:I.length≤100000): ∀ q i (K:List bk),24≤K.length+q→K.length≤24→i<l.length→OZ (fun m=>qf m (yt l i) a C I K []) (fun m=>p9 m (vt l i) a C I K []):=by
 intro q i K hq hK hi
 have hf: ∀ m,qf (m+1) (yt l i) a C I K []=bif au (ag l i) jv then (if (K.length:Int)=24 then jZ m (yM l i) a C I K [] else (wF (yt l i)).bind fun p=>qf m p.2 a C I (K++ [p.1]) []) else jZ m (yt l i) a C I K []:=fun m=>by
  unfold qf; rw [tW.eq_2]
  show (fF (yt l i) jv _ 24).bind _=_
  rw [qG hi]
  simp only [if_pos (bN _ 88 _ (show K.length≤100 by omega) (by omega))]
  cases au (ag l i) jv with
  | false=>rfl
  | true=>
   rw [cond_true,cond_true]
   by_cases e:(K.length:Int)=24
   · rw [if_pos e,if_pos e]; rfl
   · rw [if_neg e,if_neg e]; rfl
 have hg: ∀ m,p9 (m+1) (vt l i) a C I K []=bif au (ag l i) jv then (if (K.length:Int)=24 then jY m (vM l i) a C I K [] else (vQ (vt l i)).bind fun p=>p9 m p.2 a C I (K++ [p.1]) []) else jY m (vt l i) a C I K []:=fun m=>by
  unfold p9; rw [vJ.eq_2]
  show (cD (vt l i) jv).bind _=_
  rw [jA hi,aa]
  simp only [if_pos (bN _ 88 _ (show K.length≤100 by omega) (by omega))]
  cases au (ag l i) jv with
  | false=>rfl
  | true=>
   rw [cond_true,cond_true,xH hi]
   by_cases e:(K.length:Int)=24
   · rw [if_pos e,if_pos e]; rfl
   · rw [if_neg e,if_neg e]; rfl
 refine OZ.shift 1 1 ?_
 simp only [hf,hg]
 cases h:au (ag l i) jv with
 | false=>
  simp only [cond_false]
  exact Tu H a C I K hC hI (by omega) 4 i [] (Nat.le_add_left _ _) (Nat.zero_le _) hi (fun x hx=>by cases hx)
 | true=>
  simp only [cond_true]
  by_cases e:(K.length:Int)=24
  · simp only [if_pos e]
    exact Gl (Bs.many l i) ..
  · simp only [if_neg e]
    rcases OS.const (U8 H hi h) with ⟨v,j,g1,g2,g3,g4,g5⟩ | ⟨v,s,v',r,hb,g4,g5⟩
    · simp only [g4,g5,aa]
      cases q with
      | zero=>omega
      | succ q=>exact Lf H a C I hC hI q j _ (by simp; omega) (by simp; omega) g2
    · simp only [g4,g5,aa]
      exact Gk hb ..
theorem Le (H:Ok l) (a:Int) (C:List aZ) (hC:C.length≤100000∧ ∀ x ∈ C,QC x): ∀ q i (I:List bl),12≤I.length+q→I.length≤12→i<l.length→OZ (fun m=>qe m (yt l i) a C I [] []) (fun m=>p8 m (vt l i) a C I [] []):=by
 intro q i I hq hI hi
 have hf: ∀ m,qe (m+1) (yt l i) a C I [] []=bif au (ag l i) jw then (if (I.length:Int)=12 then qf m (yM l i) a C I [] [] else (wG (yt l i)).bind fun p=>qe m p.2 a C (I++ [p.1]) [] []) else qf m (yt l i) a C I [] []:=fun m=>by
  unfold qe; rw [tV.eq_2]
  show (fF (yt l i) jw _ 12).bind _=_
  rw [qG hi]
  simp only [if_pos (bN _ 64 _ (show I.length≤100 by omega) (by omega))]
  cases au (ag l i) jw with
  | false=>rfl
  | true=>
   rw [cond_true,cond_true]
   by_cases e:(I.length:Int)=12
   · rw [if_pos e,if_pos e]; rfl
   · rw [if_neg e,if_neg e]; rfl
 have hg: ∀ m,p8 (m+1) (vt l i) a C I [] []=bif au (ag l i) jw then (if (I.length:Int)=12 then p9 m (vM l i) a C I [] [] else (vR (vt l i)).bind fun p=>p8 m p.2 a C (I++ [p.1]) [] []) else p9 m (vt l i) a C I [] []:=fun m=>by
  unfold p8; rw [vI.eq_2]
  show (cD (vt l i) jw).bind _=_
  rw [jA hi,aa]
  simp only [if_pos (bN _ 64 _ (show I.length≤100 by omega) (by omega))]
  cases au (ag l i) jw with
  | false=>rfl
  | true=>
   rw [cond_true,cond_true,xH hi]
   by_cases e:(I.length:Int)=12
   · rw [if_pos e,if_pos e]; rfl
   · rw [if_neg e,if_neg e]; rfl
 refine OZ.shift 1 1 ?_
 simp only [hf,hg]
 cases h:au (ag l i) jw with
 | false=>
  simp only [cond_false]
  exact Lf H a C I hC (by omega) 24 i [] (Nat.le_add_left _ _) (Nat.zero_le _) hi
 | true=>
  simp only [cond_true]
  by_cases e:(I.length:Int)=12
  · simp only [if_pos e]
    exact Gk (Bs.many l i) ..
  · simp only [if_neg e]
    rcases OS.const (Yr H hi h) with ⟨v,j,g1,g2,g3,g4,g5⟩ | ⟨v,s,v',r,hb,g4,g5⟩
    · simp only [g4,g5,aa]
      cases q with
      | zero=>omega
      | succ q=>exact Le H a C hC q j _ (by simp; omega) (by simp; omega) g2
    · simp only [g4,g5,aa]
      exact Gj hb ..
theorem Ld (H:Ok l) (a:Int): ∀ q i (C:List aZ),8≤C.length+q→C.length≤8→(∀ x ∈ C,QC x)→i<l.length→OZ (fun m=>rY m (yt l i) a C [] [] []) (fun m=>rT m (vt l i) a C [] [] []):=by
 intro q i C hq hC hQ hi
 have hf: ∀ m,rY (m+1) (yt l i) a C [] [] []=bif au (ag l i) iq then (if (C.length:Int)=8 then qe m (yM l i) a C [] [] [] else (uH l ((i:Nat):Int)).bind fun p=>(jo (yt l i) p.2.2.Code p.2.2.At).bind fun s=>rY m (aC.mk (aU.mk s.Row.L p.2.1 s.Row.av)) a (C++ [p.1]) [] [] []) else qe m (yt l i) a C [] [] []:=fun m=>by
  unfold rY; rw [pX.eq_2]
  show (fF (yt l i) iq _ 8).bind _=_
  rw [qG hi]
  simp only [if_pos (bN _ 136 _ (show C.length≤100 by omega) (by omega))]
  cases au (ag l i) iq with
  | false=>rfl
  | true=>
   rw [cond_true,cond_true]
   by_cases e:(C.length:Int)=8
   · rw [if_pos e,if_pos e]; rfl
   · rw [if_neg e,if_neg e]; rfl
 have hg: ∀ m,rT (m+1) (vt l i) a C [] [] []=bif au (ag l i) iq then (if (C.length:Int)=8 then p8 m (vM l i) a C [] [] [] else (tj (vt l i)).bind fun p=>rT m p.2 a (C++ [p.1]) [] [] []) else p8 m (vt l i) a C [] [] []:=fun m=>by
  unfold rT; rw [x5.eq_2]
  show (cD (vt l i) iq).bind _=_
  rw [jA hi,aa]
  simp only [if_pos (bN _ 136 _ (show C.length≤100 by omega) (by omega))]
  cases au (ag l i) iq with
  | false=>rfl
  | true=>
   rw [cond_true,cond_true,xH hi]
   by_cases e:(C.length:Int)=8
   · rw [if_pos e,if_pos e]; rfl
   · rw [if_neg e,if_neg e]; rfl
 refine OZ.shift 1 1 ?_
 simp only [hf,hg]
 cases h:au (ag l i) iq with
 | false=>
  simp only [cond_false]
  exact Le H a C ⟨by omega,hQ⟩ 12 i [] (Nat.le_add_left _ _) (Nat.zero_le _) hi
 | true=>
  simp only [cond_true]
  by_cases e:(C.length:Int)=8
  · simp only [if_pos e]
    exact Gj (Bs.many l i) ..
  · simp only [if_neg e]
    obtain ⟨c,j,f,h1,h2,h3,h4⟩:=VV H hi
    have NC:tj (vt l i)=(cP (aH.mk l ((i:Nat):Int) f)).bind fun r2=>bif r2.1 then some (c,aH.mk r2.2.l j r2.2.bad) else some (c,r2.2):=by
     unfold tj
     show (wg l ((i:Nat):Int)).bind _=_
     rw [h2,aa]; rfl
    have hfl:jo (yt l i) f.Code f.At=some (⟨⟨l,((i:Nat):Int),f⟩⟩:aC):=by
     unfold jo
     rw [CB,aa]; rfl
    by_cases hc:f.Code=0
    · obtain ⟨rfl,n,rfl,g1,g2⟩:=h4 hc
      have HS:tj (vt l i)=some (c,vt l n):=by rw [NC]; rfl
      simp only [h1,HS,hfl,aa]
      show OZ (fun m=>rY m (yt l n) a (C++ [c]) [] [] []) (fun m=>rT m (vt l n) a (C++ [c]) [] [] [])
      cases q with
      | zero=>omega
      | succ q=>
       exact Ld H a q n _ (by simp; omega) (by simp; omega) (fun x hx=>by
        rcases List.mem_append.1 hx with hx | hx
        · exact hQ x hx
        · rw [List.mem_singleton.1 hx]; exact h3) g2
    · have hb:Bs (⟨⟨l,j,f⟩⟩:aC) (aH.mk l ((i:Nat):Int) f):=⟨hc,rfl⟩
      have HS:tj (vt l i)=some (c,aH.mk l ((i:Nat):Int) f):=by rw [NC,ld hb.r,aa]; rfl
      simp only [h1,HS,hfl,aa]
      exact CM hb ..
theorem aeI (H:Ok l) (h0:0<l.length):OZ (fun m=>(bQ (yt l 0) ou).bind fun r1=>(bQ r1 oh).bind fun r2=>(iF r2).bind fun r3=>(bQ r3.2 bD).bind fun r4=>rY m r4 r3.1 [] [] [] [])
 (fun m=>(bO (vt l 0) ou).bind fun r2=>(bO r2 oh).bind fun r3=>(gu r3).bind fun r4=>(bO r4.2 bD).bind fun r5=>rT m r5 r4.1 [] [] [] []):=by
 have w: ∀ {i:Nat} (hi:i<l.length) (x:List UInt8) {F:Nat→aC→Option (bP×aC)} {G:Nat→aH→Option (bP×az)} (ok:i+1<l.length→OZ (fun m=>F m (yt l (i+1))) (fun m=>G m (vt l (i+1)))) (bad: ∀ s r,Bs s r→OZ (fun m=>F m s) (fun m=>G m r)),OZ (fun m=>(bQ (yt l i) x).bind (F m)) (fun m=>(bO (vt l i) x).bind (G m)):=by
  intro i hi x F G ok bad
  cases h:au (ag l i) x with
  | true=>rw [oB hi H.len h,SM hi H.len h]; exact ok (dh H hi h)
  | false=>rw [F3 hi H.len h,SL hi h]; exact bad _ _ (Bs.mk l i)
 refine w h0 ou (fun h1=>w h1 oh (fun h2=> ?_) fun s r hb=> ?_) fun s r hb=> ?_
 · by_cases hk:(ag l (0+1+1)).Kind=2
   · rw [F2 h2 H.len hk,SK h2 H.len hk]
     exact w (H.more _ h2 (by omega)) bD (fun h3=>Ld H _ 8 _ [] (Nat.le_add_left _ _) (Nat.zero_le _) (fun x hx=>by cases hx) h3) fun s r hb=>CM hb ..
   · rw [S3 h2 hk,SJ h2 hk]
     have hb:=Bs.mk l (0+1+1)
     simp only [aa,nA hb.1,mb hb.r]
     exact CM hb ..
 all_goals
  simp only [nA hb.1,F1 hb.1,mb hb.r,FT hb.r,aa]
  exact CM hb ..
end
theorem ad5 (t:List UInt8): ∃ s f,k8 t=some (s,f)∧BE t=some (s,f)∧QY s:=by
 by_cases hc:(iA t).2.Code≠0
 · refine ⟨z0,(iA t).2, ?_, ?_,QY.zero⟩
   · unfold k8
     rw [DG,aa,if_pos hc]
   · refine br 0 fun k hk=> ?_
     show x4 k t=_
     unfold x4
     rw [Pw,aa,if_pos hc]
 · obtain ⟨H,h0⟩:=Uj (Classical.not_not.1 hc)
   obtain ⟨x,Z,h1,h2⟩:=aeI H h0
   refine ⟨(fin x).1,(fin x).2, ?_, ?_,h1⟩
   · unfold k8
     rw [DG,aa,if_neg hc]
     have hs:zm (aC.mk (aU.mk (iA t).1 0 (az.mk 0 0)))=some x:=br Z fun k hk=>(h2 k hk).1
     rw [hs,aa]
     unfold n8 fin
     rw [aa]
     by_cases hx:x.2.Row.av.Code=0
     · rw [if_pos hx,decide_eq_true hx]; rfl
     · rw [if_neg hx,decide_eq_false hx]; rfl
   · refine br Z fun k hk=> ?_
     show x4 k t=_
     unfold x4
     rw [Pw,aa,if_neg hc]
     exact (h2 k hk).2
end
end Go.Sy.Ex
namespace Go.Sy.Ex
open Go.Sy
theorem MO (l:List (List (List UInt8))) (hl:l.length≤100000) (f:(List (List UInt8))×(List (List UInt8))→Option Bool) (h: ∀ x ∈ l,f (x,x)=some true):Cf l l f=some true:=br (l.length+1) fun k hk=>by
 show FD k l l f=_
 unfold FD
 rw [if_neg (fun q=>q rfl)]
 have loop: ∀ m i,i+m=l.length→ ∀ k,m+1≤k→zg k l f l (l.length:Int) ((i:Nat):Int)=some true:=by
  intro m
  induction m with
  | zero=>
   intro i h' k hk
   obtain ⟨k,rfl⟩: ∃ j,k=j+1:=⟨k - 1,by omega⟩
   rw [zg.eq_2,if_neg (by omega)]
  | succ m ih=>
   intro i h' k hk
   obtain ⟨k,rfl⟩: ∃ j,k=j+1:=⟨k - 1,by omega⟩
   have hi:i<l.length:=by omega
   rw [zg.eq_2,if_pos (by omega),if_pos (by omega),if_pos (by omega),if_pos (by omega),if_pos (by omega),Int.toNat_natCast,cz _ hi]
   rw [h _ (List.getElem_mem hi),aa,Bool.not_true,cond_false,fR (by omega)]
   exact ih (i+1) (by omega) k (by omega)
 exact loop l.length 0 (by omega) k hk
theorem Wi (l:List aZ) (hl:l.length≤100000) (f:aZ×aZ→Option Bool) (h: ∀ x ∈ l,f (x,x)=some true):Fo l l f=some true:=br (l.length+1) fun k hk=>by
 show Fp k l l f=_
 unfold Fp
 rw [if_neg (fun q=>q rfl)]
 have loop: ∀ m i,i+m=l.length→ ∀ k,m+1≤k→y_ k l f l (l.length:Int) ((i:Nat):Int)=some true:=by
  intro m
  induction m with
  | zero=>
   intro i h' k hk
   obtain ⟨k,rfl⟩: ∃ j,k=j+1:=⟨k - 1,by omega⟩
   rw [y_.eq_2,if_neg (by omega)]
  | succ m ih=>
   intro i h' k hk
   obtain ⟨k,rfl⟩: ∃ j,k=j+1:=⟨k - 1,by omega⟩
   have hi:i<l.length:=by omega
   rw [y_.eq_2,if_pos (by omega),if_pos (by omega),if_pos (by omega),if_pos (by omega),if_pos (by omega),Int.toNat_natCast,cz _ hi]
   rw [h _ (List.getElem_mem hi),aa,Bool.not_true,cond_false,fR (by omega)]
   exact ih (i+1) (by omega) k (by omega)
 exact loop l.length 0 (by omega) k hk
theorem Wj (l:List bl) (hl:l.length≤100000) (f:bl×bl→Option Bool) (h: ∀ x ∈ l,f (x,x)=some true):Ft l l f=some true:=br (l.length+1) fun k hk=>by
 show Fv k l l f=_
 unfold Fv
 rw [if_neg (fun q=>q rfl)]
 have loop: ∀ m i,i+m=l.length→ ∀ k,m+1≤k→zb k l f l (l.length:Int) ((i:Nat):Int)=some true:=by
  intro m
  induction m with
  | zero=>
   intro i h' k hk
   obtain ⟨k,rfl⟩: ∃ j,k=j+1:=⟨k - 1,by omega⟩
   rw [zb.eq_2,if_neg (by omega)]
  | succ m ih=>
   intro i h' k hk
   obtain ⟨k,rfl⟩: ∃ j,k=j+1:=⟨k - 1,by omega⟩
   have hi:i<l.length:=by omega
   rw [zb.eq_2,if_pos (by omega),if_pos (by omega),if_pos (by omega),if_pos (by omega),if_pos (by omega),Int.toNat_natCast,cz _ hi]
   rw [h _ (List.getElem_mem hi),aa,Bool.not_true,cond_false,fR (by omega)]
   exact ih (i+1) (by omega) k (by omega)
 exact loop l.length 0 (by omega) k hk
theorem Wh (l:List bk) (hl:l.length≤100000) (f:bk×bk→Option Bool) (h: ∀ x ∈ l,f (x,x)=some true):Fk l l f=some true:=br (l.length+1) fun k hk=>by
 show Fm k l l f=_
 unfold Fm
 rw [if_neg (fun q=>q rfl)]
 have loop: ∀ m i,i+m=l.length→ ∀ k,m+1≤k→y9 k l f l (l.length:Int) ((i:Nat):Int)=some true:=by
  intro m
  induction m with
  | zero=>
   intro i h' k hk
   obtain ⟨k,rfl⟩: ∃ j,k=j+1:=⟨k - 1,by omega⟩
   rw [y9.eq_2,if_neg (by omega)]
  | succ m ih=>
   intro i h' k hk
   obtain ⟨k,rfl⟩: ∃ j,k=j+1:=⟨k - 1,by omega⟩
   have hi:i<l.length:=by omega
   rw [y9.eq_2,if_pos (by omega),if_pos (by omega),if_pos (by omega),if_pos (by omega),if_pos (by omega),Int.toNat_natCast,cz _ hi]
   rw [h _ (List.getElem_mem hi),aa,Bool.not_true,cond_false,fR (by omega)]
   exact ih (i+1) (by omega) k (by omega)
 exact loop l.length 0 (by omega) k hk
theorem Wg (l:List a_) (hl:l.length≤100000) (f:a_×a_→Option Bool) (h: ∀ x ∈ l,f (x,x)=some true):Fi l l f=some true:=br (l.length+1) fun k hk=>by
 show Fj k l l f=_
 unfold Fj
 rw [if_neg (fun q=>q rfl)]
 have loop: ∀ m i,i+m=l.length→ ∀ k,m+1≤k→y8 k l f l (l.length:Int) ((i:Nat):Int)=some true:=by
  intro m
  induction m with
  | zero=>
   intro i h' k hk
   obtain ⟨k,rfl⟩: ∃ j,k=j+1:=⟨k - 1,by omega⟩
   rw [y8.eq_2,if_neg (by omega)]
  | succ m ih=>
   intro i h' k hk
   obtain ⟨k,rfl⟩: ∃ j,k=j+1:=⟨k - 1,by omega⟩
   have hi:i<l.length:=by omega
   rw [y8.eq_2,if_pos (by omega),if_pos (by omega),if_pos (by omega),if_pos (by omega),if_pos (by omega),Int.toNat_natCast,cz _ hi]
   rw [h _ (List.getElem_mem hi),aa,Bool.not_true,cond_false,fR (by omega)]
   exact ih (i+1) (by omega) k (by omega)
 exact loop l.length 0 (by omega) k hk
theorem We (l:List bL) (hl:l.length≤100000) (f:bL×bL→Option Bool) (h: ∀ x ∈ l,f (x,x)=some true):Fg l l f=some true:=br (l.length+1) fun k hk=>by
 show Fh k l l f=_
 unfold Fh
 rw [if_neg (fun q=>q rfl)]
 have loop: ∀ m i,i+m=l.length→ ∀ k,m+1≤k→y7 k l f l (l.length:Int) ((i:Nat):Int)=some true:=by
  intro m
  induction m with
  | zero=>
   intro i h' k hk
   obtain ⟨k,rfl⟩: ∃ j,k=j+1:=⟨k - 1,by omega⟩
   rw [y7.eq_2,if_neg (by omega)]
  | succ m ih=>
   intro i h' k hk
   obtain ⟨k,rfl⟩: ∃ j,k=j+1:=⟨k - 1,by omega⟩
   have hi:i<l.length:=by omega
   rw [y7.eq_2,if_pos (by omega),if_pos (by omega),if_pos (by omega),if_pos (by omega),if_pos (by omega),Int.toNat_natCast,cz _ hi]
   rw [h _ (List.getElem_mem hi),aa,Bool.not_true,cond_false,fR (by omega)]
   exact ih (i+1) (by omega) k (by omega)
 exact loop l.length 0 (by omega) k hk
theorem Db (l:List (List UInt8)) (hl:l.length≤100000):pV l l=some true:=br (l.length+1) fun k hk=>by
 show FE k l l=_
 unfold FE
 rw [if_neg (fun q=>q rfl)]
 have loop: ∀ m i,i+m=l.length→ ∀ k,m+1≤k→zh k l l (l.length:Int) ((i:Nat):Int)=some true:=by
  intro m
  induction m with
  | zero=>
   intro i h' k hk
   obtain ⟨k,rfl⟩: ∃ j,k=j+1:=⟨k - 1,by omega⟩
   rw [zh.eq_2,if_neg (by omega)]
  | succ m ih=>
   intro i h' k hk
   obtain ⟨k,rfl⟩: ∃ j,k=j+1:=⟨k - 1,by omega⟩
   have hi:i<l.length:=by omega
   rw [zh.eq_2,if_pos (by omega),if_pos (by omega),if_pos (by omega),if_pos (by omega),if_pos (by omega),if_neg (fun q=>q rfl),fR (by omega)]
   exact ih (i+1) (by omega) k (by omega)
 exact loop l.length 0 (by omega) k hk
theorem Kv (l:List (List UInt8)) (hl:l.length≤100000):vK l l=some true:=br (l.length+1) fun k hk=>by
 show Ey k l l=_
 unfold Ey
 rw [if_neg (fun q=>q rfl)]
 have loop: ∀ m i,i+m=l.length→ ∀ k,m+1≤k→x_ k l l ((i:Nat):Int)=some true:=by
  intro m
  induction m with
  | zero=>
   intro i h' k hk
   obtain ⟨k,rfl⟩: ∃ j,k=j+1:=⟨k - 1,by omega⟩
   rw [x_.eq_2,if_neg (by omega)]
  | succ m ih=>
   intro i h' k hk
   obtain ⟨k,rfl⟩: ∃ j,k=j+1:=⟨k - 1,by omega⟩
   have hi:i<l.length:=by omega
   rw [x_.eq_2,if_pos (by omega),if_pos (by omega),if_pos (by omega),if_pos (by omega),if_pos (by omega),if_neg (fun q=>q rfl),fR (by omega)]
   exact ih (i+1) (by omega) k (by omega)
 exact loop l.length 0 (by omega) k hk
theorem Q7 (l:List (List (List UInt8))) (hl:l.length≤100000) (h: ∀ x ∈ l,QM x):BO l l=some true:=br (l.length+1) fun k hk=>by
 show ED k l l=_
 unfold ED
 rw [if_neg (fun q=>q rfl)]
 have loop: ∀ m i,i+m=l.length→ ∀ k,m+1≤k→yj k l l ((i:Nat):Int)=some true:=by
  intro m
  induction m with
  | zero=>
   intro i h' k hk
   obtain ⟨k,rfl⟩: ∃ j,k=j+1:=⟨k - 1,by omega⟩
   rw [yj.eq_2,if_neg (by omega)]
  | succ m ih=>
   intro i h' k hk
   obtain ⟨k,rfl⟩: ∃ j,k=j+1:=⟨k - 1,by omega⟩
   have hi:i<l.length:=by omega
   rw [yj.eq_2,if_pos (by omega),if_pos (by omega),if_pos (by omega),if_pos (by omega),if_pos (by omega),Int.toNat_natCast,cz _ hi,Kv _ (h _ (List.getElem_mem hi)),aa,Bool.not_true,cond_false,fR (by omega)]
   exact ih (i+1) (by omega) k (by omega)
 exact loop l.length 0 (by omega) k hk
theorem U3 (c:bL) (h:QE c):Cj c c=some true:=by
 unfold Cj
 rw [if_pos rfl,MO _ h.1.1 (fun y=>pV y.1 y.2) (fun x hx=>Db x (h.1.2 x hx)),aa,cond_true,MO _ h.2.1 (fun y=>pV y.1 y.2) (fun x hx=>Db x (h.2.2 x hx)),aa]
theorem U6 (c:a_) (h:QF c):Ck c c=some true:=by
 unfold Ck
 rw [if_pos rfl,if_pos rfl,if_pos rfl,if_pos rfl,Db _ h.1,aa,cond_true,Db _ h.2.1,aa,cond_true,We _ h.2.2.1 _ (fun x hx=>U3 x (h.2.2.2 x hx)),aa]
theorem adr {s:bP} (h:QY s):zi s s=some true:=by
 unfold zi
 rw [if_pos rfl,Wi _ h.1.1 _ (fun x hx=>UX (h.1.2 x hx)),aa,cond_true,Wj _ h.2.1 _ (fun x hx=>by show Cm x x=_; unfold Cm; rw [decide_eq_true ⟨rfl,rfl,rfl,rfl,rfl,rfl⟩]),aa,cond_true,
  Wh _ h.2.2.1 _ (fun x hx=>by show Cl x x=_; unfold Cl; rw [decide_eq_true ⟨rfl,rfl,rfl,rfl,rfl,rfl,rfl⟩]),aa,cond_true,Wg _ h.2.2.2.1 _ (fun x hx=>U6 x (h.2.2.2.2 x hx)),aa]
theorem aae (c:a_) (h:QF c):Ez c c=some true:=br (c.Cells.length+1) fun k hk=>by
 show EA k c c=_
 unfold EA
 rw [if_neg (fun q=>q rfl),if_neg (fun q=>q rfl),if_neg (fun q=>q rfl),if_neg (fun q=>q rfl),Kv _ h.1,aa,Bool.not_true,cond_false,Kv _ h.2.1,aa,Bool.not_true,cond_false,if_neg (fun q=>q rfl)]
 have hl:=h.2.2.1
 have loop: ∀ m i,i+m=c.Cells.length→ ∀ k,m+1≤k→yc k c.Name c.qg c.qh c.qi c.Insts c.eg c.Cells c.At c.Name c.qg c.qh c.qi c.Insts c.eg c.Cells c.At ((i:Nat):Int)=some true:=by
  intro m
  induction m with
  | zero=>
   intro i h' k hk
   obtain ⟨k,rfl⟩: ∃ j,k=j+1:=⟨k - 1,by omega⟩
   rw [yc.eq_2,if_neg (by omega)]
  | succ m ih=>
   intro i h' k hk
   obtain ⟨k,rfl⟩: ∃ j,k=j+1:=⟨k - 1,by omega⟩
   have hi:i<c.Cells.length:=by omega
   have a1:(0:Int)≤((i:Nat):Int):=by omega
   have a2:((i:Nat):Int)<(c.Cells.length:Int):=by omega
   obtain ⟨q1,q2⟩:=h.2.2.2 _ (List.getElem_mem hi)
   rw [yc.eq_2]
   simp only [if_pos a1,if_pos a2,Int.toNat_natCast,cz _ hi,ne_eq,not_true_eq_false,if_false,Q7 _ q1.1 q1.2,Q7 _ q2.1 q2.2,aa,Bool.not_true,cond_false]
   rw [fR (by omega)]
   exact ih (i+1) (by omega) k (by omega)
 exact loop c.Cells.length 0 (by omega) k hk
theorem aab {s:bP} (h:QY s):BF s s=some true:=br (s.gy.length+s.Insts.length+s.eg.length+s.fM.length+4) fun k hk=>by
 show Ew k s s=_
 unfold Ew
 rw [if_neg (fun q=>q rfl),if_neg (fun q=>q rfl),if_neg (fun q=>q rfl),if_neg (fun q=>q rfl),if_neg (fun q=>q rfl)]
 obtain ⟨⟨c1,c2⟩,i1,k1,e1,e2⟩:=h
 have l3: ∀ m i,i+m=s.fM.length→ ∀ k,m+1≤k→x9 k s.jF s.gy s.Insts s.eg s.fM s.jF s.gy s.Insts s.eg s.fM ((i:Nat):Int)=some true:=by
  intro m
  induction m with
  | zero=>
   intro i h' k hk
   obtain ⟨k,rfl⟩: ∃ j,k=j+1:=⟨k - 1,by omega⟩
   rw [x9.eq_2,if_neg (by omega)]
  | succ m ih=>
   intro i h' k hk
   obtain ⟨k,rfl⟩: ∃ j,k=j+1:=⟨k - 1,by omega⟩
   have hi:i<s.fM.length:=by omega
   rw [x9.eq_2,if_pos (by omega),if_pos (by omega),if_pos (by omega),if_pos (by omega),if_pos (by omega),Int.toNat_natCast,cz _ hi,aae _ (e2 _ (List.getElem_mem hi)),aa,Bool.not_true,cond_false,fR (by omega)]
   exact ih (i+1) (by omega) k (by omega)
 have l2: ∀ m i,i+m=s.eg.length→ ∀ k,m+s.fM.length+2≤k→x8 k s.jF s.gy s.Insts s.eg s.fM s.jF s.gy s.Insts s.eg s.fM ((i:Nat):Int)=some true:=by
  intro m
  induction m with
  | zero=>
   intro i h' k hk
   obtain ⟨k,rfl⟩: ∃ j,k=j+1:=⟨k - 1,by omega⟩
   rw [x8.eq_2,if_neg (by omega)]
   exact l3 s.fM.length 0 (by omega) k (by omega)
  | succ m ih=>
   intro i h' k hk
   obtain ⟨k,rfl⟩: ∃ j,k=j+1:=⟨k - 1,by omega⟩
   have hi:i<s.eg.length:=by omega
   rw [x8.eq_2,if_pos (by omega),if_pos (by omega),if_pos (by omega),if_pos (by omega),if_pos (by omega),if_neg (fun q=>q ⟨rfl,rfl,rfl,rfl,rfl,rfl,rfl⟩),fR (by omega)]
   exact ih (i+1) (by omega) k (by omega)
 have l1: ∀ m i,i+m=s.Insts.length→ ∀ k,m+s.eg.length+s.fM.length+3≤k→x7 k s.jF s.gy s.Insts s.eg s.fM s.jF s.gy s.Insts s.eg s.fM ((i:Nat):Int)=some true:=by
  intro m
  induction m with
  | zero=>
   intro i h' k hk
   obtain ⟨k,rfl⟩: ∃ j,k=j+1:=⟨k - 1,by omega⟩
   rw [x7.eq_2,if_neg (by omega)]
   exact l2 s.eg.length 0 (by omega) k (by omega)
  | succ m ih=>
   intro i h' k hk
   obtain ⟨k,rfl⟩: ∃ j,k=j+1:=⟨k - 1,by omega⟩
   have hi:i<s.Insts.length:=by omega
   rw [x7.eq_2,if_pos (by omega),if_pos (by omega),if_pos (by omega),if_pos (by omega),if_pos (by omega),if_neg (fun q=>q ⟨rfl,rfl,rfl,rfl,rfl,rfl⟩),fR (by omega)]
   exact ih (i+1) (by omega) k (by omega)
 have l0: ∀ m i,i+m=s.gy.length→ ∀ k,m+s.Insts.length+s.eg.length+s.fM.length+4≤k→x6 k s.jF s.gy s.Insts s.eg s.fM s.jF s.gy s.Insts s.eg s.fM ((i:Nat):Int)=some true:=by
  intro m
  induction m with
  | zero=>
   intro i h' k hk
   obtain ⟨k,rfl⟩: ∃ j,k=j+1:=⟨k - 1,by omega⟩
   rw [x6.eq_2,if_neg (by omega)]
   exact l1 s.Insts.length 0 (by omega) k (by omega)
  | succ m ih=>
   intro i h' k hk
   obtain ⟨k,rfl⟩: ∃ j,k=j+1:=⟨k - 1,by omega⟩
   have hi:i<s.gy.length:=by omega
   rw [x6.eq_2,if_pos (by omega),if_pos (by omega),if_pos (by omega),if_pos (by omega),if_pos (by omega),Int.toNat_natCast,cz _ hi,aac (c2 _ (List.getElem_mem hi)),aa,Bool.not_true,cond_false,fR (by omega)]
   exact ih (i+1) (by omega) k (by omega)
 exact l0 s.gy.length 0 (by omega) k hk
abbrev M1:List ai:= [⟨1,0,6,ou,0⟩,⟨1,7,10,oh,0⟩,⟨2,11,12,[49],1⟩,⟨3,12,13,bD,0⟩,⟨4,13,13,[],0⟩]
abbrev M2:List ai:= [⟨1,0,6,ou,0⟩,⟨1,7,10,oh,0⟩,⟨2,11,12,[49],1⟩,⟨4,12,12,[],0⟩]
theorem Tb:iA J6=(M1,⟨0,0⟩):=by decide+kernel
theorem Tc:iA J7=(M2,⟨0,0⟩):=by decide+kernel
theorem Yz:vq=some true:=by
 have r1:k8 J6=some (bP.mk 1 [] [] [] [],⟨0,0⟩):=by
  unfold k8
  rw [DG,Tb,aa,if_neg (by decide)]
  have hs:zm (aC.mk (aU.mk M1 0 (az.mk 0 0)))=some (bP.mk 1 [] [] [] [],yt M1 4):=br 4 fun k hk=>by
   obtain ⟨k,rfl⟩: ∃ j,k=j+4:=⟨k - 4,by omega⟩
   show zn (k+4) (yt M1 0)=_
   unfold zn
   have hm: ∀ w n m,au (ag M1 4) w=false→fF (yt M1 4) w n m=some (false,yt M1 4):=fun w n m h=>by rw [qG (by decide),h]; rfl
   have ee: ∀ s:aC,aC.mk (aU.mk s.Row.L s.Row.At (az.mk s.Row.av.Code s.Row.av.At))=s:=fun s=>rfl
   rw [oB (by decide) (by decide) (by decide),aa,oB (by decide) (by decide) (by decide),aa,F2 (by decide) (by decide) (by decide),aa,oB (by decide) (by decide) (by decide),aa]
   show pX (k+4) (yt M1 4).Row.L _ _ _ _ _ _ _ _ _ _ _ _ _=_
   rw [pX.eq_2,ee,hm _ _ _ (by decide),aa,cond_false]
   dsimp only
   rw [tV.eq_2,ee,hm _ _ _ (by decide),aa,cond_false]
   dsimp only
   rw [tW.eq_2,ee,hm _ _ _ (by decide),aa,cond_false]
   dsimp only
   rw [ow.eq_2,ee,hm _ _ _ (by decide),aa,cond_false]
   dsimp only
   rw [mo (by decide),aa]
   rfl
  rw [hs,aa]
  rfl
 have r2:k8 J7=some (z0,⟨12,12⟩):=by
  unfold k8
  rw [DG,Tc,aa,if_neg (by decide)]
  have hb:(yb M2 3).Row.av.Code≠0:=by decide
  have ee: ∀ s:aC,aC.mk (aU.mk s.Row.L s.Row.At (az.mk s.Row.av.Code s.Row.av.At))=s:=fun s=>rfl
  have hs:zm (aC.mk (aU.mk M2 0 (az.mk 0 0)))=some (bP.mk 1 [] [] [] [],yb M2 3):=br 4 fun k hk=>by
   obtain ⟨k,rfl⟩: ∃ j,k=j+4:=⟨k - 4,by omega⟩
   show zn (k+4) (yt M2 0)=_
   unfold zn
   rw [oB (by decide) (by decide) (by decide),aa,oB (by decide) (by decide) (by decide),aa,F2 (by decide) (by decide) (by decide),aa,F3 (by decide) (by decide) (by decide),aa]
   show pX (k+4) (yb M2 3).Row.L _ _ _ _ _ _ _ _ _ _ _ _ _=_
   rw [pX.eq_2,ee,qF hb,aa,cond_false]
   dsimp only
   rw [tV.eq_2,ee,qF hb,aa,cond_false]
   dsimp only
   rw [tW.eq_2,ee,qF hb,aa,cond_false]
   dsimp only
   rw [ow.eq_2,ee,qF hb,aa,cond_false]
   dsimp only
   rw [ue hb,aa]
   rfl
  rw [hs,aa]
  rfl
 unfold vq
 rw [r1,aa,r2,aa]
 dsimp only
 rw [if_pos rfl,if_pos rfl,if_pos (by rfl),decide_eq_true ⟨rfl,rfl⟩]
theorem ad7 (t:List UInt8):DK t=some true:=by
 unfold DK
 obtain ⟨s,f,h1,h2,h3⟩:=ad5 t
 simp only [h1,h2,aa,adr h3,aab h3,Yz,cond_true,and_self,if_true]
 split
 · split <;> rfl
 · rfl
end Go.Sy.Ex
