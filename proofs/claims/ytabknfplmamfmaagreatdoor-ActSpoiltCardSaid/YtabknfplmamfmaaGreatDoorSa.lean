import Derived.WalkKit
import Derived.Deep.LoopGhost
import Derived.Deep.AppendSrc
import Derived.Deep.MidRow
import Derived.Lib.FrozenHead2
import Derived.Lib.Strings
set_option linter.unusedVariables false
set_option linter.unusedSimpArgs false
namespace Go.Sy
inductive Ty where
 | int (k:IntKind) | bool | str | st (t:Nat) | sl (e:Ty) | pt
 deriving DecidableEq,Inhabited
def Ty.den (C:Nat→Type):Ty→Type
 | .int _=>Int
 | .bool=>Bool
 | .str=>List UInt8
 | .st t=>C t
 | .sl e=>List (e.den C)
 | .pt=>Unit   -- a pointer in a struct
def av (C:Nat→Type):List Ty→Type
 | []=>Unit
 | [t]=>t.den C
 | t::u::ts=>t.den C×av C (u::ts)
def av.cons {C:Nat→Type} {t:Ty} : {ts:List Ty} →t.den C→av C ts→av C (t::ts)
 | [],x,_=>x
 | _::_,x,r=>(x,r)
def av.head {C:Nat→Type} {t:Ty} : {ts:List Ty} →av C (t::ts)→t.den C
 | [],x=>x
 | _::_,x=>x.1
def av.tail {C:Nat→Type} {t:Ty} : {ts:List Ty} →av C (t::ts)→av C ts
 | [],_=>()
 | _::_,x=>x.2
structure bf where
 C:Nat→Type
 F:Nat→List Ty
 ex:(t:Nat)→C t→av C (F t)
 im:(t:Nat)→av C (F t)→C t
 eW:Nat→Nat→Option (Nat×Ty)
 z:(t:Nat)→C t
 ty:Nat→Option Ty
 pt:Nat→Bool
 ar:Nat→Option (Nat×Ty)
 eq:Nat→Bool
 qx:Nat→Bool
 gl:List ((Nat×Nat)×(Value→Prop))
 gb:List (Nat×(Obj→Prop))
 bt:Option (Nat×Nat)
 sp:Nat→Bool
inductive CK where
 | data (t:Ty)
 | bu (e:Ty)      -- a slice whose room behind its end is its holder's alone
 | aY (e:Ty)      -- a slice whose array is its holder's alone
 deriving DecidableEq,Inhabited
inductive K where
 | val (c:CK)
 | obj (cs:List CK)
 | opt (cs:List CK)
 | nil
 | ro (t:Ty)
 | fn (a r:List Ty)
 | cD (cs:List CK)  -- a slice whose array is cells of its holder's own
 | err                 -- an error: is it nil?
 | bn                 -- a builder of a text
 | cc (t:Ty) (cs:List CK)  -- an object whose first cell points to an object of its own
 deriving DecidableEq,Inhabited
def CK.den (C:Nat→Type):CK→Type
 | .data t=>t.den C
 | .bu e=>List (e.den C)
 | .aY e=>List (e.den C)
def bO (C:Nat→Type):List CK→Type
 | []=>Unit
 | [t]=>t.den C
 | t::u::ts=>t.den C×bO C (u::ts)
def K.den (C:Nat→Type):K→Type
 | .val c=>c.den C
 | .obj cs=>bO C cs
 | .opt cs=>Option (bO C cs)
 | .nil=>Unit
 | .ro t=>t.den C
 | .fn a r=>av C a→Option (av C r)
 | .cD cs=>bO C cs
 | .err=>Bool
 | .bn=>List UInt8
 | .cc t cs=>t.den C×bO C cs
def Ks (C:Nat→Type):List K→Type
 | []=>Unit
 | [t]=>t.den C
 | t::u::ts=>t.den C×Ks C (u::ts)
def bO.cons {C:Nat→Type} {t:CK} : {ts:List CK} →t.den C→bO C ts→bO C (t::ts)
 | [],x,_=>x
 | _::_,x,r=>(x,r)
def bO.head {C:Nat→Type} {t:CK} : {ts:List CK} →bO C (t::ts)→t.den C
 | [],x=>x
 | _::_,x=>x.1
def bO.tail {C:Nat→Type} {t:CK} : {ts:List CK} →bO C (t::ts)→bO C ts
 | [],_=>()
 | _::_,x=>x.2
def Ks.cons {C:Nat→Type} {t:K} : {ts:List K} →t.den C→Ks C ts→Ks C (t::ts)
 | [],x,_=>x
 | _::_,x,r=>(x,r)
def Ks.head {C:Nat→Type} {t:K} : {ts:List K} →Ks C (t::ts)→t.den C
 | [],x=>x
 | _::_,x=>x.1
def Ks.tail {C:Nat→Type} {t:K} : {ts:List K} →Ks C (t::ts)→Ks C ts
 | [],_=>()
 | _::_,x=>x.2
inductive V (C:Nat→Type) where
 | undef
 | skip
 | d (t:Ty) (x:t.den C)
 | pr (p:Prop) (i:Decidable p)
 | bu (b:Nat) (e:Ty) (l:List (e.den C))
 | aY (b:Nat)
 | pre (b:Nat) (n:Int)
 | win (b:Nat) (i n:Int)
 | ptr (b off:Nat)
 | cD (b n:Nat)
 | split (b c:Nat)
 | mY (c:Nat)
 | err (b:Bool)
 | fH (b:Nat) (i:Int) (off:Nat)
 | dF (t:Ty) (x:t.den C)
 | nil
 | cH
 | fv (a r:List Ty) (g:av C a→Option (av C r))
 | fT (f:Nat) (caps:List (V C))
 | agg (t:Nat) (vs:List (V C))
 | jw (vs:List (V C))
inductive dX (C:Nat→Type) where
 | cells (vs:List (V C))
 | bX (vs:List (V C))
 | arr (e:Ty) (l:List (e.den C))
 | bR (e:Ty) (l:List (e.den C))
 | tail
 | dead
 | bn (j:Nat)           -- a builder; its bytes are in 'j'
 | buf (l:List UInt8)    -- a builder's bytes
structure Env (C:Nat→Type) where
 tm:Nat→V C
 bx:Nat→Option (dX C)
 df:Bool   -- has the function's deferred call been laid down?
def az {α:Type} (f:Nat→α) (k:Nat) (v:α):Nat→α:=fun i=>cond (Nat.beq i k) v (f i)
abbrev aP (C:Nat→Type):=List (Nat×dX C)
abbrev Bx (C:Nat→Type):=Nat→Option (dX C)
def aA {C:Nat→Type} (bx:Bx C):aP C→Bx C
 | []=>bx
 | u::us=>aA (az bx u.1 (some u.2)) us
def vQ {C:Nat→Type} (tm:Nat→V C) (dst:Option Nat) (v:V C):Nat→V C:=match dst with
 | some d=>az tm d v
 | none=>tm
def Env.apply {C:Nat→Type} (e:Env C) (dst:Option Nat) (v:V C) (us:aP C):Env C:=
 { tm:=vQ e.tm dst v,bx:=aA e.bx us,df:=e.df }
structure Gd where
 p:Prop
 i:Decidable p
def gd (p:Prop) [i:Decidable p]:Gd:=⟨p,i⟩
inductive Tr (X:Type):Type 1 where
 | fail
 | ret (x:X)
 | ite (p:Prop) (i:Decidable p) (a b:Tr X)
 | bind (α:Type) (m:Option α) (k:α→Tr X)
 | opt (α:Type) (m:Option α) (n:Tr X) (s:α→Tr X)
def Tr.run {X:Type} {R:Type} :Tr X→(X→Option R)→Option R
 | .fail,_=>none
 | .ret x,k=>k x
 | .ite _ i a b,k=> @_root_.ite _ _ i (a.run k) (b.run k)
 | .bind _ m f,k=>m.bind fun x=>(f x).run k
 | .opt _ m n s,k=>match m with
  | none=>n.run k
  | some x=>(s x).run k
def Tr.gd {X:Type} :List Gd→Tr X→Tr X
 | [],r=>r
 | g::gs,r=> .ite g.p g.i (Tr.gd gs r) .fail
section
variable (S:bf)
def eP (t u:Ty) (x:t.den S.C):Option (u.den S.C):=if h:t=u then some (h▸x) else none
def Ty.zero:(t:Ty)→t.den S.C
 | .int _=>(0:Int)
 | .bool=>false
 | .str=>([]:List UInt8)
 | .sl _=> []
 | .st u=>S.z u
 | .pt=>()
def Ty.sz:Ty→Nat
 | .st u=>(S.F u).length
 | _=>1
def cV (bx:Bx S.C) (t:Ty) (v:V S.C):Option (t.den S.C):=
 match v with
 | .d u x=>eP S u t x
 | .pr p i=>eP S .bool t (@decide p i)
 | .bu _ e l=>eP S (.sl e) t l
 | .cH=>match t with
  | .sl _=>some []
  | _=>none
 | .aY b=>match bx b with
  | some (.arr e l) | some (.bR e l)=>eP S (.sl e) t l
  | _=>none
 | _=>none
def qY:(ts:List Ty)→av S.C ts→List (V S.C)
 | [],_=> []
 | t::ts,x=> .d t (av.head x)::qY ts (av.tail x)
def kg:(t:Ty)→t.den S.C→List (V S.C)
 | .st u,x=>qY S (S.F u) (S.ex u x)
 | t,x=> [.d t x]
def iS (bx:Bx S.C):(ts:List Ty)→List (V S.C)→Option (av S.C ts)
 | [],_=>some ()
 | t::ts,v::vs=>(cV S bx t v).bind fun x=>(iS bx ts vs).bind fun y=>some (av.cons x y)
 | _::_,[]=>none
def jh (bx:Bx S.C) (t:Ty) (vs:List (V S.C)):Option (t.den S.C):=
 match t with
 | .st u=>(iS S bx (S.F u) vs).bind fun x=>some (S.im u x)
 | t=>match vs with
  | v::_=>cV S bx t v
  | []=>none
def zeroCell:Ty→V S.C
 | .sl _=> .cH
 | .pt=> .nil
 | t=> .d t (Ty.zero S t)
def zeroCells:Ty→List (V S.C)
 | .st u=>(S.F u).map (zeroCell S)
 | t=> [zeroCell S t]
end
end Go.Sy
namespace Go.Sy
section
variable (S:bf)
def outs:List K→List K
 | []=> []
 | .obj cs::r=> .obj cs::outs r
 | .bn::r=> .bn::outs r
 | .cc t cs::r=> .cc t cs::outs r
 | _::r=>outs r
structure Entry where
 f:Nat
 ps:List K
 rs:List K
 sp:Ks S.C ps→Option (Ks S.C (rs++outs ps))
structure iw where
 f:Nat
 a:List Ty
 c:List Ty
 r:List Ty
 sp:av S.C a→av S.C c→Option (av S.C r)
structure iz where
 es:List (Entry S)
 fs:List (iw S)
 nl:Bool
 vw:Bool
 dc:Option (Nat×List Operand)   -- the call that it defers
 de:List (Entry S)                -- callees that may be deferred
def Ac:Ty→Bool
 | .sl _=>false
 | .st u=>(S.F u).all fun | .sl _=>false | .st _=>false | _=>true
 | _=>true
def rT:CK→Bool
 | .data t=>Ac S t
 | .bu _=>false
 | .aY e=>Ac S e
def uq:K→Bool
 | .val c=>rT S c
 | .obj cs | .opt cs=>cs.all (rT S)
 | .nil | .err | .bn=>true
 | .ro _ | .fn _ _ | .cc _ _=>false
 | .cD cs=>cs.all (rT S)
def datum (bx:Bx S.C) (t:Ty) (v:V S.C):Option (t.den S.C):=
 match v with
 | .agg u vs=>match t with
  | .st w=>if u=w then jh S bx (.st w) vs else none
  | _=>none
 | v=>match t with
  | .st w=>match v with
   | .d u x=>eP S u (.st w) x
   | _=>none
  | t=>cV S bx t v
def cM (bx:Bx S.C):V S.C→aP S.C
 | .aY b=>match bx b with
  | some (.arr e l)=> [(b, .bR e l)]
  | _=> []
 | _=> []
def dr (bx:Bx S.C) (v:V S.C):aP S.C:=
 match v with
 | .agg _ vs=>vs.flatMap (cM S bx)
 | v=>cM S bx v
def cellsOf (v:V S.C):List (V S.C):=
 match v with
 | .d t x=>kg S t x
 | .agg _ vs=>vs
 | v=> [v]
def aF:V S.C→List Nat
 | .bu b _ _ | .aY b | .ptr b _ | .fH b _ _ | .pre b _ | .win b _ _ | .cD b _ | .mY b=> [b]
 | .split b c=> [b,c]
 | _=> []
def aH:V S.C→List Nat
 | .agg _ vs | .fT _ vs | .jw vs=>vs.flatMap (aF S)
 | v=>aF S v
def cx (id:Nat):(c:CK)→c.den S.C→List (V S.C)×aP S.C×Nat
 | .data t,x=>(kg S t x,[],id)
 | .bu e,x=>([.bu id e x],[(id, .tail)],id+1)
 | .aY e,x=>([.aY id],[(id, .arr e x)],id+1)
def bH (id:Nat):(cs:List CK)→bO S.C cs→List (V S.C)×aP S.C×Nat
 | [],_=>([],[],id)
 | c::cs,x=>
  let a:=cx S id c (bO.head x)
  let b:=bH a.2.2 cs (bO.tail x)
  (a.1++b.1,a.2.1++b.2.1,b.2.2)
def CK.sz:CK→Nat
 | .data t=>Ty.sz S t
 | _=>1
def CK.cB:List CK→Nat
 | []=>0
 | c::cs=>CK.sz S c+CK.cB cs
def L_ (id:Nat):(k:K)→k.den S.C→(V S.C×aP S.C×Nat→Tr (V S.C×aP S.C))→Tr (V S.C×aP S.C)
 | .val (.data t),x,κ=>κ (.d t x,[],id)
 | .val (.bu e),x,κ=>κ (.bu id e x,[(id, .tail)],id+1)
 | .val (.aY e),x,κ=>κ (.aY id,[(id, .arr e x)],id+1)
 | .obj cs,x,κ=>let a:=bH S (id+1) cs x; κ (.ptr id 0,(id, .cells a.1)::a.2.1,a.2.2)
 | .opt cs,x,κ=> .opt _ x (κ (.nil,[],id)) fun y=>let a:=bH S (id+1) cs y; κ (.ptr id 0,(id, .cells a.1)::a.2.1,a.2.2)
 | .fn a r,g,κ=>κ (.fv a r g,[],id)
 | .ro t,x,κ=>κ (.dF t x,[],id)
 | .nil,_,κ=>κ (.nil,[],id)
 | .err,x,κ=>κ (.err x,[],id)
 | .bn,x,κ=>κ (.ptr id 0,[(id, .bn (id+1)),(id+1, .buf x)],id+2)
 | .cD cs,x,κ=>let a:=bH S (id+1) cs x; κ (.cD id (CK.cB S cs),(id, .cells a.1)::a.2.1,a.2.2)
 | .cc _ _,_,_=> .fail
def ey (bx:Bx S.C) (c:CK) (vs:List (V S.C)):Option (c.den S.C×aP S.C):=
 match c with
 | .data t=>(jh S bx t vs).bind fun x=>some (x,(vs.take (Ty.sz S t)).flatMap (cM S bx))
 | .bu e=>match vs with
  | .bu b e' l::_=>match bx b with
   | some .tail=>(eP S (.sl e') (.sl e) l).bind fun x=>some (x,[(b, .dead)])
   | _=>none
  | .cH::_=>some ([],[])
  | _=>none
 | .aY e=>match vs with
  | .aY b::_=>match bx b with
   | some (.arr e' l)=>(eP S (.sl e') (.sl e) l).bind fun x=>some (x,[(b, .dead)])
   | _=>none
  | .pre b n::_=>match bx b with
   | some (.arr e' l)=>(eP S (.sl e') (.sl e) (List.take n.toNat l)).bind fun x=>some (x,[(b, .dead)])
   | _=>none
  | .cH::_=>some ([],[])
  | _=>none
def dW (bx:Bx S.C):(cs:List CK)→List (V S.C)→Option (bO S.C cs×aP S.C)
 | [],_=>some ((),[])
 | c::cs,vs=>(ey S bx c vs).bind fun a=>
  (dW (aA bx a.2) cs (vs.drop (CK.sz S c))).bind fun b=>some (bO.cons a.1 b.1,a.2++b.2)
def Me:V S.C→Bool
 | .aY _=>false
 | _=>true
def nO (bx:Bx S.C) (t:Ty) (v:V S.C):Option (t.den S.C):=match v with
 | .ptr b 0=>match bx b with
  | some (.bX ws)=>cond (ws.all (Me S)) (jh S bx t ws) none
  | _=>none
 | .dF u x=>eP S u t x
 | _=>none
def caps (bx:Bx S.C):(ts:List Ty)→List (V S.C)→Option (av S.C ts)
 | [],[]=>some ()
 | t::ts,v::vs=>(nO S bx t v).bind fun x=>(caps bx ts vs).bind fun r=>some (av.cons x r)
 | _,_=>none
def rU (fs:List (iw S)) (bx:Bx S.C) (a r:List Ty):V S.C→Option (av S.C a→Option (av S.C r))
 | .fv a' r' g=>if h:a'=a then if h':r'=r then some (h'▸h▸g) else none else none
 | .fT f vs=>fs.findSome? fun e=>
  if e.f=f then (if h:e.a=a then if h':e.r=r then (caps S bx e.c vs).bind fun y=>some (h'▸h▸fun x=>e.sp x y) else none else none) else none
 | _=>none
def gK (bx:Bx S.C) (cs:List CK) (b:Nat):Option (bO S.C cs×aP S.C):=match bx b with
 | some (.cells vs)=>cond (Nat.beq vs.length (CK.cB S cs)) ((dW S (az bx b (some .dead)) cs (vs.drop 0)).bind fun a=>some (a.1,(b, .dead)::a.2)) none
 | _=>none
def cu (fs:List (iw S)) (bx:Bx S.C) (k:K) (v:V S.C):Option (k.den S.C×aP S.C):=
 match k with
 | .val (.data t)=>(datum S bx t v).bind fun x=>some (x,dr S bx v)
 | .val (.bu e)=>ey S bx (.bu e) [v]
 | .val (.aY e)=>ey S bx (.aY e) [v]
 | .obj cs=>match v with
  | .ptr b off=>match bx b with
   | some (.cells vs)=>cond (Nat.beq off 0&&Nat.beq vs.length (CK.cB S cs)) ((dW S (az bx b (some .dead)) cs (vs.drop off)).bind fun a=>some (a.1,(b, .dead)::a.2)) none
   | _=>none
  | _=>none
 | .nil=>match v with
  | .nil=>some ((),[])
  | _=>none
 | .ro t=>(nO S bx t v).bind fun x=>some (x,[])
 | .fn a r=>(rU S fs bx a r v).bind fun g=>some (g,[])
 | .opt cs=>match v with
  | .nil=>some (none,[])
  | .ptr b off=>match bx b with
   | some (.cells vs)=>cond (Nat.beq off 0&&Nat.beq vs.length (CK.cB S cs)) ((dW S (az bx b (some .dead)) cs (vs.drop off)).bind fun a=>some (some a.1,(b, .dead)::a.2)) none
   | _=>none
  | _=>none
 | .err=>match v with
  | .err b=>some (b,[])
  | _=>none
 | .bn=>match v with
  | .ptr b off=>match bx b with
   | some (.bn j)=>match bx j with
    | some (.buf l)=>cond (Nat.beq off 0) (some (l,[(b, .dead),(j, .dead)])) none
    | _=>none
   | _=>none
  | _=>none
 | .cD cs=>match v with
  | .cD b n=>match bx b with
   | some (.cells vs)=>cond (Nat.beq n vs.length&&Nat.beq vs.length (CK.cB S cs)) ((dW S (az bx b (some .dead)) cs (vs.drop 0)).bind fun a=>some (a.1,(b, .dead)::a.2)) none
   | _=>none
  | _=>none
 | .cc t cs=>match v with
  | .split b c=>(gK S bx [.data t] c).bind fun x=>(gK S (aA bx x.2) cs b).bind fun y=>some ((x.1,y.1),x.2++y.2)
  | _=>none
def eF (fs:List (iw S)) (bx:Bx S.C):(ks:List K)→List (V S.C)→Option (Ks S.C ks×aP S.C)
 | [],[]=>some ((),[])
 | k::ks,v::vs=>(cu S fs bx k v).bind fun a=>(eF fs (aA bx a.2) ks vs).bind fun b=>some (Ks.cons a.1 b.1,a.2++b.2)
 | _,_=>none
def setCells (vs:List (V S.C)) (off:Nat) (ws:List (V S.C)):List (V S.C):=vs.take off++ws++vs.drop (off+ws.length)
def fJ (id:Nat):(ks:List K)→List (V S.C)→Ks S.C (outs ks)→aP S.C
 | [],_,_=> []
 | .obj cs::ks,v::vs,x=>match v with
  | .ptr b _=>
   let a:=bH S id cs (Ks.head (t:= .obj cs) x)
   (b, .cells a.1)::a.2.1++fJ a.2.2 ks vs (Ks.tail (t:= .obj cs) x)
  | _=> []
 | .bn::ks,v::vs,x=>match v with
  | .ptr b _=>(b, .bn id)::(id, .buf (Ks.head (t:= .bn) x))::fJ (id+1) ks vs (Ks.tail (t:= .bn) x)
  | _=> []
 | .cc t cs::ks,v::vs,x=>match v with
  | .split b c=>
   let y:=Ks.head (t:= .cc t cs) x
   let a0:=bH S id [.data t] y.1
   let a:=bH S id cs y.2
   (c, .cells a0.1)::(b, .cells a.1)::a.2.1++fJ a.2.2 ks vs (Ks.tail (t:= .cc t cs) x)
  | _=> []
 | .val _::ks,_::vs,x=>fJ id ks vs x
 | .opt _::ks,_::vs,x=>fJ id ks vs x
 | .nil::ks,_::vs,x=>fJ id ks vs x
 | .ro _::ks,_::vs,x=>fJ id ks vs x
 | .fn _ _::ks,_::vs,x=>fJ id ks vs x
 | .cD _::ks,_::vs,x=>fJ id ks vs x
 | .err::ks,_::vs,x=>fJ id ks vs x
 | _::_,[],_=> []
def dI:List K→List (V S.C)→List Nat
 | .obj _::ks, .ptr b _::vs=>b::dI ks vs
 | .bn::ks, .ptr b _::vs=>b::dI ks vs
 | .cc _ _::ks, .split b c::vs=>c::b::dI ks vs
 | _::ks,_::vs=>dI ks vs
 | _,_=> []
def kT (fW:Bool) (us:aP S.C):aP S.C:=cond fW us (us.filter fun u=>match u.2 with
 | .bR _ _=>false
 | _=>true)
end
end Go.Sy
namespace Go.Sy
section
variable (S:bf)
variable (T:iz S)
abbrev Rt:=Tr (V S.C×aP S.C)
def aI (v:V S.C) (us:aP S.C):Rt S:= .ret (v,us)
def mo (t:Nat):Option Nat:=match S.ar t with
 | some _=>none
 | none=>match S.ty t with
  | some (.st u)=>some u
  | _=>none
def qe (t:Nat):Option (Nat×Ty×Nat):=match S.ar t with
 | some (n,e)=>match e,S.ty t with
  | .st _,_=>none
  | e,some (.st u)=>some (n,e,u)
  | _,_=>none
 | none=>none
def zE (t:Nat):Option (Nat×Nat×Nat):=match S.ar t with
 | some (n,e)=>match e,S.ty t with
  | .st w,some (.st u)=>some (n,w,u)
  | _,_=>none
 | none=>none
def e9 (t:Nat):Option Ty:=match S.ty t with
 | some (.sl e)=>some e
 | _=>none
def arith (op:BinOp) (k:IntKind) (x y:Int):Option (List Gd×V S.C):=
 match op with
 | .add=>some ([], .d (.int k) (k.wrap (x+y)))
 | .sub=>some ([], .d (.int k) (k.wrap (x - y)))
 | .mul=>some ([], .d (.int k) (k.wrap (x*y)))
 | .quo=>some ([gd (¬ y=0)], .d (.int k) (k.wrap (x.tdiv y)))
 | .rem=>some ([gd (¬ y=0)], .d (.int k) (x.tmod y))
 | .and=>some ([], .d (.int k) (k.wrap ((BitVec.ofInt k.bits x &&& BitVec.ofInt k.bits y).toNat:Nat)))
 | .shl=>some ([gd (0≤y)], .d (.int k) (k.wrap (x*2 ^ (min y.toNat k.bits))))
 | .shr=>some ([gd (0≤y)], .d (.int k) (x.fdiv (2 ^ (min y.toNat k.bits))))
 | .eql=>some ([], .pr (x=y) inferInstance)
 | .neq=>some ([], .pr (x≠y) inferInstance)
 | .lss=>some ([], .pr (x<y) inferInstance)
 | .leq=>some ([], .pr (x≤y) inferInstance)
 | .gtr=>some ([], .pr (y<x) inferInstance)
 | .geq=>some ([], .pr (y≤x) inferInstance)
 | _=>none
def Ij (op:BinOp) (x y:List UInt8):Option (List Gd×V S.C):=
 match op with
 | .add=>some ([gd (x.length+y.length≤9223372036854775807)], .d .str (x++y))
 | .eql=>some ([], .pr (x=y) inferInstance)
 | .neq=>some ([], .pr (x≠y) inferInstance)
 | _=>none
def V.int? {D:Nat→Type} :V D→Option (IntKind×Int)
 | .d (.int k) n=>some (k,n)
 | _=>none
def V.qX {D:Nat→Type} :V D→Option (List UInt8)
 | .d .str s=>some s
 | _=>none
def V.bool? {D:Nat→Type} :V D→Option Bool
 | .d .bool b=>some b
 | .pr p i=>some (@decide p i)
 | _=>none
def Lz:BinOp→Bool
 | .shl | .shr=>true
 | _=>false
def zL (op:BinOp) (t:Nat) (x y:V S.C):Option (List Gd×V S.C):=
 match x.int?,y.int? with
 | some (k,a),some (k',b)=>if Lz op=true∨k=k' then arith S op k a b else none
 | _,_=>match x.qX,y.qX with
  | some a,some b=>Ij S op a b
  | _,_=>match x.bool?,y.bool? with
   | some a,some b=>cond (match S.ty t with | some .bool=>true | _=>false) (match op with
    | .eql=>some ([], .pr (a=b) inferInstance)
    | .neq=>some ([], .pr (a≠b) inferInstance)
    | _=>none) none
   | _,_=>cond (S.pt t) (match x,y with
    | .nil, .nil=>match op with
     | .eql=>some ([], .d .bool true)
     | .neq=>some ([], .d .bool false)
     | _=>none
    | .ptr _ _, .nil=>match op with
     | .eql=>some ([], .d .bool false)
     | .neq=>some ([], .d .bool true)
     | _=>none
    | _,_=>none) none
def uf:(t:Ty)→t.den S.C→t.den S.C→Prop
 | .int _,x,y=> @Eq Int x y
 | .bool,x,y=> @Eq Bool x y
 | .str,x,y=> @Eq (List UInt8) x y
 | _,_,_=>False
def JU:(t:Ty)→(x y:t.den S.C)→Decidable (uf S t x y)
 | .int _,x,y=>(inferInstance:DecidableEq Int) x y
 | .bool,x,y=>(inferInstance:DecidableEq Bool) x y
 | .str,x,y=>(inferInstance:DecidableEq (List UInt8)) x y
 | .st _,_,_=>instDecidableFalse
 | .sl _,_,_=>instDecidableFalse
 | .pt,_,_=>instDecidableFalse
def kf:(ts:List Ty)→av S.C ts→av S.C ts→Prop
 | [],_,_=>True
 | [t],x,y=>uf S t x y
 | t::u::ts,x,y=>uf S t x.1 y.1∧kf (u::ts) x.2 y.2
def wZ:(ts:List Ty)→(x y:av S.C ts)→Decidable (kf S ts x y)
 | [],_,_=>instDecidableTrue
 | [t],x,y=>JU S t x y
 | t::u::ts,x,y=> @instDecidableAnd _ _ (JU S t x.1 y.1) (wZ (u::ts) x.2 y.2)
def structEq (op:BinOp) (t:Nat) (x y:V S.C):Rt S:=
 match S.ty t with
 | some (.st u)=>match datum S (fun _=>none) (.st u) x,datum S (fun _=>none) (.st u) y with
  | some a,some b=>match op with
   | .eql=>aI S (.pr (kf S (S.F u) (S.ex u a) (S.ex u b)) (wZ S (S.F u) (S.ex u a) (S.ex u b))) []
   | .neq=>aI S (.pr (¬ kf S (S.F u) (S.ex u a) (S.ex u b)) (@instDecidableNot _ (wZ S (S.F u) (S.ex u a) (S.ex u b)))) []
   | _=> .fail
  | _,_=> .fail
 | _=> .fail
def Jy:Value→Option (V S.C)
 | .int k n=>some (.d (.int k) n)
 | .bool b=>some (.d .bool b)
 | .string s=>some (.d .str s.data.toList)
 | .pointer none=>some .nil
 | .slice none 0 0=>some .cH
 | _=>none
def aX (tm:Nat→V S.C):Operand→Option (V S.C)
 | .tmp t=>some (tm t)
 | .const v=>Jy S v
 | .func f=>some (.fT f [])
 | .global _=>none
def ku (tm:Nat→V S.C):Option Operand→Option (Option (V S.C))
 | none=>some none
 | some x=>(aX S tm x).bind fun v=>some (some v)
def bW:V S.C→Bool
 | .d (.st _) _=>false
 | .d _ _ | .pr _ _ | .bu _ _ _ | .aY _ | .ptr _ _ | .fH _ _ _ | .dF _ _ | .nil | .cH | .fv _ _ _=>true
 | _=>false
def fits (vs:List (V S.C)) (n:Nat):Bool:=Nat.beq vs.length n&&vs.all (bW S)
def w_ (u:Nat) (vs:List (V S.C)):List (Nat×V S.C)→Option (List (V S.C))
 | []=>some vs
 | (i,v)::r=>match S.eW u i with
  | some (o,t)=>cond (fits S (cellsOf S v) (Ty.sz S t)&&Nat.ble (o+Ty.sz S t) vs.length) (w_ u (setCells S vs o (cellsOf S v)) r) none
  | none=>none
def nS (bx:Bx S.C) (e:Ty) (l:List (e.den S.C)):List (Nat×V S.C)→Option (List (e.den S.C)×aP S.C)
 | []=>some (l,[])
 | (i,v)::r=>cond (Nat.blt i (List.length l)) ((datum S bx e v).bind fun x=>(nS bx e (l.set i x) r).bind fun b=>some (b.1,dr S bx v++b.2)) none
def iE (e:Ty) (l:List (e.den S.C)) (i:Int):e.den S.C:=l.getD i.toNat (Ty.zero S e)
def partOf (e:Ty) (x:e.den S.C) (off:Nat) (t:Ty):Option (t.den S.C):=jh S (fun _=>none) t ((kg S e x).drop off)
def limit:Nat:=140737488355328
def F4 (t:Ty) (bx:Bx S.C):V S.C→Rt S
 | .ptr b off=>match bx b with
  | some (.cells vs) | some (.bX vs)=>match t with
   | .st u=>cond (Nat.ble (off+(S.F u).length) vs.length) (aI S (.agg u ((vs.drop off).take (S.F u).length)) []) .fail
   | _=>match vs[off]? with
    | some v=>aI S v []
    | none=> .fail
  | _=> .fail
 | .dF u x=>match eP S u t x with
  | some y=>aI S (.d t y) []
  | none=> .fail
 | .mY c=>match t with
  | .pt=>aI S (.ptr c 0) []
  | _=> .fail
 | .fH b i off=>match bx b with
  | some (.arr e l) | some (.bR e l)=>match partOf S e (iE S e l i) off t with
   | some y=>aI S (.d t y) []
   | none=> .fail
  | _=> .fail
 | _=> .fail
def y8 (t:Ty) (bx:Bx S.C) (v:V S.C):V S.C→Rt S
 | .ptr b off=>match bx b with
  | some (.cells vs)=>cond (fits S (cellsOf S v) (Ty.sz S t)&&Nat.ble (off+Ty.sz S t) vs.length) (aI S .skip [(b, .cells (setCells S vs off (cellsOf S v)))]) .fail
  | _=> .fail
 | .fH b i off=>match bx b with
  | some (.arr e l)=>match datum S bx t v with
   | some y=>cond (Nat.ble (off+Ty.sz S t) (Ty.sz S e)&&(dr S bx v).all fun u=> !Nat.beq u.1 b) (match jh S (fun _=>none) e (setCells S (kg S e (iE S e l i)) off (kg S t y)) with
    | some e'=>aI S .skip (dr S bx v++ [(b, .arr e (l.set i.toNat e'))])
    | none=> .fail) .fail
   | none=> .fail
  | _=> .fail
 | _=> .fail
def Ii (u:Nat) (bx:Bx S.C) (v:V S.C):V S.C→Rt S
 | .ptr b off=>match bx b with
  | some (.cells vs)=>cond (fits S (cellsOf S v) (Ty.sz S (.st u))&&Nat.ble (off+Ty.sz S (.st u)) vs.length) (aI S .skip [(b, .bX (setCells S vs off (cellsOf S v)))]) .fail
  | _=> .fail
 | _=> .fail
def EB (t f:Nat):V S.C→Rt S
 | .ptr b off=>match mo S t with
  | some u=>match S.eW u f with
   | some (o,_)=>aI S (.ptr b (off+o)) []
   | none=> .fail
  | _=> .fail
 | .dF (.st u) x=>match mo S t with
  | some u'=>cond (Nat.beq u u') (match S.eW u f with
   | some (o,w)=>match partOf S (.st u) x o w with
    | some y=>aI S (.dF w y) []
    | none=> .fail
   | none=> .fail) .fail
  | _=> .fail
 | .fH b i off=>match mo S t with
  | some u=>match S.eW u f with
   | some (o,_)=>aI S (.fH b i (off+o)) []
   | none=> .fail
  | _=> .fail
 | .split b c=>match mo S t with
  | some u=>match S.eW u f with
   | some (o,_)=>match o with
    | 0=>aI S (.mY c) []
    | o+1=>aI S (.ptr b o) []
   | none=> .fail
  | _=> .fail
 | _=> .fail
def eL (i:Int) (n:Nat):List Gd:= [gd (0≤i),gd (i<(n:Int))]
def o_ (v:V S.C):Option Int:=v.int?.map (·.2)
def Gr (b:Nat) (i:Int) (j:Nat):Nat→Rt S
 | 0=> .fail
 | n+1=> .ite (i=(j:Int)) (Int.instDecidableEq i (j:Int)) (aI S (.ptr b j) []) (Gr b i (j+1) n)
def FK (e0:Ty) (bx:Bx S.C) (i:Int):V S.C→Rt S
 | .d (.sl e) l=>if e=e0 then .gd (eL i l.length) (aI S (.dF e (iE S e l i)) []) else .fail
 | .bu _ e l=>if e=e0 then .gd (eL i l.length) (aI S (.dF e (iE S e l i)) []) else .fail
 | .aY b=>match bx b with
  | some (.arr e l) | some (.bR e l)=>if e=e0 then .gd (eL i l.length) (aI S (.fH b i 0) []) else .fail
  | _=> .fail
 | .cD b n=>match e0 with
  | .sl _=> .gd (eL i n) (Gr S b i 0 n)
  | _=> .fail
 | _=> .fail
def rowOf (e:Ty):List (V S.C)→Option (List (e.den S.C))
 | []=>some []
 | v::vs=>(cV S (fun _=>none) e v).bind fun x=>(rowOf e vs).bind fun r=>some (x::r)
def DY (n:Nat) (e:Ty) (u:Nat) (bx:Bx S.C) (j:Int):V S.C→Rt S
 | .ptr b off=>match bx b with
  | some (.cells vs) | some (.bX vs)=>match rowOf S e ((vs.drop off).take n) with
   | some l=> .gd (eL j l.length) (aI S (.dF e (iE S e l j)) [(b, .bX vs)])
   | none=> .fail
  | _=> .fail
 | .dF t x=>match eP S t (.st u) x with
  | some y=>match rowOf S e ((kg S (.st u) y).take n) with
   | some l=> .gd (eL j l.length) (aI S (.dF e (iE S e l j)) [])
   | none=> .fail
  | none=> .fail
 | _=> .fail
def wP (u:Nat):V S.C→Option (List (V S.C))
 | .agg u' vs=>cond (Nat.beq u u') (some vs) none
 | .d t x=>(eP S t (.st u) x).bind fun y=>some (kg S (.st u) y)
 | _=>none
def DZ (n:Nat) (e:Ty) (u:Nat) (j:Int) (v:V S.C):Rt S:=
 match wP S u v with
 | some vs=>match rowOf S e (vs.take n) with
  | some l=> .gd (eL j l.length) (aI S (.d e (iE S e l j)) [])
  | none=> .fail
 | none=> .fail
def zD (w k:Nat) (j:Int) (vs:List (V S.C)):(i m:Nat)→Rt S
 | _,0=> .fail
 | i,m+1=> .ite (j=(i:Int)) inferInstance (aI S (.agg w ((vs.drop (i*k)).take k)) []) (zD w k j vs (i+1) m)
def bounds (n:Nat) (lo hi:Option (V S.C)):Option (List Gd×Int×Int):=
 match lo,hi with
 | none,none=>some ([],0,n)
 | some a,none=>(o_ S a).bind fun l=>some ([gd (0≤l),gd (l≤(n:Int))],l,n)
 | none,some b=>(o_ S b).bind fun h=>some ([gd (0≤h),gd (h≤(n:Int))],0,h)
 | some a,some b=>(o_ S a).bind fun l=>(o_ S b).bind fun h=>some ([gd (0≤h),gd (h≤(n:Int)),gd (0≤l),gd (l≤h)],l,h)
def cut {α:Type} (l:List α) (a b:Int):List α:=(l.take b.toNat).drop a.toNat
def cutFrom {α:Type} (l:List α) (a:Int):List α:=l.drop a.toNat
def kN {α:Type} (l:List α) (a b:Int) (hi:Option (V S.C)):List α:=match hi with
 | none=>cutFrom l a
 | some _=>cut l a b
def pY (k:Nat) (a b:Int):Option (V S.C)→V S.C
 | none=> .pre k b
 | some _=> .win k a (b - a)
def oc {α:Type} (l:List α) (n i m:Int):List α:=l.take n.toNat++(l.drop i.toNat).take m.toNat++l.drop (n+m).toNat
def wT {α:Type} (z:α) (l:List α) (i m:Int):List α:=l.take i.toNat++List.replicate m.toNat z++l.drop (i+m).toNat
def Ib (vw:Bool) (T0:Ty) (bx:Bx S.C) (lo hi:Option (V S.C)):V S.C→Rt S
 | .d .str s=>if T0= .str then match bounds S (List.length s) lo hi with
  | some (gs,a,b)=> .gd gs (aI S (.d .str (kN S s a b hi)) [])
  | none=> .fail else .fail
 | .d (.sl e) s=>if T0= .sl e then match bounds S (List.length s) lo hi with
  | some (gs,a,b)=> .gd gs (aI S (.d (.sl e) (kN S s a b hi)) [])
  | none=> .fail else .fail
 | .bu k e s=>if T0= .sl e then match bounds S s.length lo hi with
  | some (gs,a,b)=> .gd gs (aI S (match hi with | none=> .bu k e (cutFrom s a) | some _=> .d (.sl e) (cut s a b)) [])
  | none=> .fail else .fail
 | .aY k=>match bx k with
  | some (.arr e s)=>if T0= .sl e then match bounds S s.length lo hi with
   | some (gs,a,b)=> .gd gs (cond vw (aI S (pY S k a b lo) []) (aI S (.d (.sl e) (kN S s a b hi)) [(k, .bR e s)]))
   | none=> .fail else .fail
  | some (.bR e s)=>if T0= .sl e then match bounds S s.length lo hi with
   | some (gs,a,b)=> .gd gs (aI S (.d (.sl e) (kN S s a b hi)) [])
   | none=> .fail else .fail
  | _=> .fail
 | .pre k n=>match bx k with
  | some (.arr e s)=>if T0= .sl e then match bounds S (match hi with | none=>n.toNat | some _=>s.length) lo hi with
   | some (gs,a,b)=> .gd gs (aI S (pY S k a b lo) [])
   | none=> .fail else .fail
  | _=> .fail
 | _=> .fail
def Ia (T0:Ty) (bx:Bx S.C) (lo hi mx:V S.C):V S.C→Rt S
 | .aY k=>match bx k with
  | some (.arr e s)=>if T0= .sl e then match o_ S lo,o_ S hi,o_ S mx with
   | some a,some b,some c=> .gd [gd (0≤a),gd (a≤b),gd (b≤c),gd (c≤(s.length:Int))] (aI S .undef [])
   | _,_,_=> .fail else .fail
  | _=> .fail
 | _=> .fail
def Ec (e:Ty) (bx:Bx S.C):V S.C→Rt S
 | .win b i m=>match bx b with
  | some (.arr e' l)=>match eP S (.sl e') (.sl e) l with
   | some l=>aI S (.jw []) [(b, .arr e (wT (Ty.zero S e) l i m))]
   | none=> .fail
  | _=> .fail
 | _=> .fail
def tX (B:Nat) (au:Nat) (e:Ty) (bx:Bx S.C) (x:V S.C):V S.C→Rt S
 | .bu b e' l=>match bx b with
  | some .tail=>match eP S (.sl e') (.sl e) l with
   | some l=>match datum S bx (.sl e) x with
    | some y=> .gd [gd ((List.length l+List.length y)*au≤limit)] (aI S (.bu (B) e (List.append l y)) [(b, .dead),(B, .tail)])
    | none=> .fail
   | none=> .fail
  | _=> .fail
 | .aY b=>match bx b with
  | some (.arr e' l)=>match eP S (.sl e') (.sl e) l with
   | some l=>match datum S bx (.sl e) x with
    | some y=> .gd [gd ((List.length l+List.length y)*au≤limit)] (aI S (.aY (B)) [(b, .dead),(B, .arr e (List.append l y))])
    | none=> .fail
   | none=> .fail
  | _=> .fail
 | .pre b n=>match bx b,x with
  | some (.arr e' l), .win b' i m=>cond (Nat.beq b' b) (match eP S (.sl e') (.sl e) l with
   | some l=> .gd [gd (n≤i),gd (List.length l*au≤limit)] (aI S (.pre B (n+m)) [(b, .dead),(B, .arr e (oc l n i m))])
   | none=> .fail) .fail
  | _,_=> .fail
 | .cH=>match datum S bx (.sl e) x with
  | some y=> .gd [gd (List.length y*au≤limit)] (aI S (.aY (B)) [(B, .arr e y)])
  | none=> .fail
 | _=> .fail
def FW (T0:Ty) (bx:Bx S.C):V S.C→Rt S
 | .d .str s=>if T0= .str then aI S (.d (.int .i64) (List.length s:Int)) [] else .fail
 | .cH=>match T0 with
  | .sl _=>aI S (.d (.int .i64) (0:Int)) []
  | _=> .fail
 | .d (.sl e) l=>if T0= .sl e then aI S (.d (.int .i64) (List.length l:Int)) [] else .fail
 | .bu _ e l=>if T0= .sl e then aI S (.d (.int .i64) (l.length:Int)) [] else .fail
 | .aY b=>match bx b with
  | some (.arr e l) | some (.bR e l)=>if T0= .sl e then aI S (.d (.int .i64) (l.length:Int)) [] else .fail
  | _=> .fail
 | .pre b n=>match bx b with
  | some (.arr e _)=>if T0= .sl e then aI S (.d (.int .i64) n) [] else .fail
  | _=> .fail
 | _=> .fail
def A4 (id:Nat):(rs:List K)→Ks S.C rs→(List (V S.C)×aP S.C×Nat→Rt S)→Rt S
 | [],_,κ=>κ ([],[],id)
 | k::rs,x,κ=>L_ S id k (Ks.head x) fun (v,us,id')=>A4 id' rs (Ks.tail x) fun (vs,us',Uu)=>κ (v::vs,us++us',Uu)
def qZ:List (V S.C)→V S.C
 | [v]=>v
 | vs=> .jw vs
def lA:(rs os:List K)→Ks S.C (rs++os)→Ks S.C rs×Ks S.C os
 | [],_,x=>((),x)
 | _::rs,os,x=>let (a,b):=lA rs os (Ks.tail x); (Ks.cons (Ks.head x) a,b)
def oneMore (n:Nat):CK→Nat
 | .data _=>n
 | _=>n+1
def o9:K→Nat
 | .val (.data _) | .ro _ | .fn _ _ | .nil | .err=>0
 | .val _=>1
 | .obj cs | .opt cs | .cD cs=>1+cs.foldl oneMore 0
 | .bn=>2
 | .cc _ cs=>2+cs.foldl oneMore 0
def jI:List K→Nat
 | []=>0
 | k::ks=>o9 k+jI ks
def AX (e:Entry S):Bool:= !((e.rs++outs e.ps).all (uq S))
def qg (B:Nat) (bx:Bx S.C) (f:Nat) (args:List (V S.C)):Rt S:=
 match T.es.findSome? fun e=>if e.f=f then (eF S T.fs bx e.ps args).bind fun a=>some (⟨e,a⟩:(e:Entry S)×(Ks S.C e.ps×aP S.C)) else none with
 | some ⟨e,a⟩=>cond (Nat.ble (jI e.rs+jI (outs e.ps)) 16&&(dI S e.ps args).all fun b=> !(Nat.ble B b&&Nat.blt b (B+16))) (.bind _ (e.sp a.1) fun r=>
  let p:=lA S e.rs (outs e.ps) r
  A4 S B e.rs p.1 fun q=>aI S (qZ S q.1) (kT S (AX S e) a.2++(q.2.1++fJ S q.2.2 e.ps args p.2))) .fail
 | none=> .fail
def tK:(ts:List Ty)→av S.C ts→List (V S.C)
 | [],_=> []
 | t::ts,x=> .d t (av.head x)::tK ts (av.tail x)
def lD (bx:Bx S.C):(ts:List Ty)→List (V S.C)→Option (av S.C ts×aP S.C)
 | [],[]=>some ((),[])
 | t::ts,v::vs=>(datum S bx t v).bind fun x=>(lD bx ts vs).bind fun b=>some (av.cons x b.1,dr S bx v++b.2)
 | _,_=>none
def wR (B:Nat) (bx:Bx S.C) (args:List (V S.C)):V S.C→Rt S
 | .fv a r g=>match lD S bx a args with
  | some (x,us)=> .bind _ (g x) fun y=>aI S (qZ S (tK S r y)) us
  | none=> .fail
 | .fT f []=>qg S T B bx f args
 | .fT f vs=>match T.fs.find? (·.f == f) with
  | some e=>match caps S bx e.c vs,lD S bx e.a args with
   | some y,some (x,us)=> .bind _ (e.sp x y) fun z=>aI S (qZ S (tK S e.r z)) us
   | _,_=> .fail
  | none=> .fail
 | _=> .fail
def mO (bx:Bx S.C):List (V S.C)→aP S.C
 | []=> []
 | .ptr b _::vs=>(match bx b with
  | some (.cells ws)=> [(b, .bX ws)]
  | _=> [])++mO bx vs
 | _::vs=>mO bx vs
def vZ (e:Ty):List (V S.C)→Option (List (List (e.den S.C)))
 | []=>some []
 | .bu _ e' l::vs=>(eP S (.sl e') (.sl e) l).bind fun x=>(vZ e vs).bind fun r=>some (x::r)
 | _::_=>none
def xP (t:Nat):Bool:=match S.bt with
 | some u=>Nat.beq u.1 t
 | none=>false
def settle (e:Option Ty) (bx:Bx S.C) (b n:Nat):Rt S:=
 match bx b with
 | some (.cells vs)=>match vs with
  | .cH::_=>aI S (.cD b n) []
  | vs=>match e with
   | some (.sl e)=>match vZ S e vs with
    | some l=>cond (Nat.beq n vs.length) (aI S (.d (.sl (.sl e)) l) [(b, .bX vs)]) .fail
    | none=> .fail
   | _=> .fail
 | _=> .fail
def A2 (l c:Operand):Option Nat:=match l,c with
 | .const (.int .i64 (.ofNat n)), .const (.int .i64 (.ofNat m))=>cond (Nat.beq n m&&Nat.ble n 8) (some n) none
 | _,_=>none
def FM:Ty→Bool
 | .sl _=>true
 | _=>false
def cO (au:Nat→Nat) (B:Nat) (o:Op) (ty:Nat) (tm:Nat→V S.C) (bx:Bx S.C):Rt S:=
 let ev:=aX S tm
 match o with
 | .move x=>match ev x with
  | some .cH=>cond T.nl (aI S .cH []) (match e9 S ty with
   | some e=>aI S (.bu (B) e []) [(B, .tail)]
   | none=> .fail)
  | some v=>aI S v []
  | none=> .fail
 | .assign x=>match ev x with
  | some .cH=>cond T.nl (aI S .cH []) (match e9 S ty with
   | some e=>aI S (.bu (B) e []) [(B, .tail)]
   | none=> .fail)
  | some (.cD b n)=>settle S (e9 S ty) bx b n
  | some v=>aI S v []
  | none=> .fail
 | .pick c a b=>match ev c with
  | some (.d .bool x)=>match (x:Bool) with
   | true=>match ev a with
    | some v=>aI S v []
    | none=> .fail
   | false=>match ev b with
    | some v=>aI S v []
    | none=> .fail
  | _=> .fail
 | .alloc t=>match S.ty t with
  | some u=>aI S (.ptr (B) 0) [(B, .cells (zeroCells S u))]
  | none=>cond (xP S t) (aI S (.ptr B 0) [(B+1, .buf []),(B, .bn (B+1))]) .fail
 | .box t x=>match S.ty t,ev x with
  | some u,some v=>cond (fits S (cellsOf S v) (Ty.sz S u)) (match S.sp t with
   | false=>aI S (.ptr (B) 0) [(B, .cells (cellsOf S v))]
   | true=>match cellsOf S v with
    | .ptr c 0::vs=>aI S (.split B c) [(B, .cells vs)]
    | _=> .fail) .fail
  | _,_=> .fail
 | .build t parts=>match S.ty t with
  | some (.st u)=>match parts.toList.mapM (fun p=>(ev p.2).map fun v=>(p.1,v)) with
   | some ps=>match w_ S u (zeroCells S (.st u)) ps with
    | some vs=>aI S (.agg u vs) []
    | none=> .fail
   | none=> .fail
  | _=> .fail
 | .buildSlice t len parts=>match e9 S t with
  | some e=>cond (T.vw&&Nat.beq len 0) (match parts.toList with
   | []=>aI S (.bu B e []) [(B, .tail)]
   | _=> .fail) (match parts.toList.mapM (fun p=>(ev p.2).map fun v=>(p.1,v)) with
   | some ps=>cond (Nat.ble (len*Ty.sz S e) 16777216) (match nS S bx e (List.replicate len (Ty.zero S e)) ps with
    | some (l,us)=>aI S (.aY (B)) (us++ [(B, .arr e l)])
    | none=> .fail) .fail
   | none=> .fail)
  | none=> .fail
 | .load t x=>match S.ty t,ev x with
  | some T,some v=>F4 S T bx v
  | _,_=> .fail
 | .store t x y=>match qe S t with
  | some (_,_,u)=>match ev x,ev y with
   | some p,some v=>Ii S u bx v p
   | _,_=> .fail
  | none=>match S.ty t,ev x,ev y with
   | some u,some p,some v=>y8 S u bx v p
   | _,_,_=> .fail
 | .nilCheck x=>match ev x with
  | some (.ptr b o)=>aI S (.ptr b o) []
  | some (.dF t x)=>aI S (.dF t x) []
  | some (.fH b i p)=>aI S (.fH b i p) []
  | some (.split b c)=>aI S (.split b c) []
  | _=> .fail
 | .binOp op t x (.const .nilIface) _=>match ev x with
  | some (.err b)=>cond (S.qx t) (match op with
   | .eql=>aI S (.d .bool b) []
   | .neq=>aI S (.d .bool (Bool.not b)) []
   | _=> .fail) .fail
  | _=> .fail
 | .binOp op t x y _=>cond (S.eq t) (match ev x,ev y with
  | some a,some b=>structEq S op t a b
  | _,_=> .fail) (match ev x,ev y with
  | some a,some b=>match zL S op t a b with
   | some (gs,v)=> .gd gs (aI S v [])
   | none=> .fail
  | _,_=> .fail)
 | .unOp op _ x=>match op,ev x with
  | .not,some (.pr p i)=>aI S (.pr (¬ p) (@instDecidableNot p i)) []
  | .not,some (.d .bool b)=>aI S (.d .bool (Bool.not b)) []
  | .neg,some v=>match v.int? with
   | some (k,n)=>aI S (.d (.int k) (k.wrap (0 - n))) []
   | none=> .fail
  | _,_=> .fail
 | .convert s t x=>match S.ty s,S.ty t,ev x with
  | some _,some (.int k),some v=>match v.int? with
   | some (_,n)=>aI S (.d (.int k) (k.wrap n)) []
   | none=> .fail
  | some _,some .str,some v=>match v.qX with
   | some s=>aI S (.d .str s) []
   | none=> .fail
  | _,_,_=> .fail
 | .makeFunc fn first cs=>match fn,first.toList with
  | .func f,[]=>match cs.toList.mapM ev with
   | some vs=>cond (vs.all (bW S)) (aI S (.fT f vs) (mO S bx vs)) .fail
   | none=> .fail
  | _,_=> .fail
 | .makeSlice t l c=>match e9 S t,ev l,ev c with
  | some e,some v,some w=>match cond (T.vw&&FM e&&Nat.ble (au t) 64) (A2 l c) none with
   | some n=>aI S (.cD B n) [(B, .cells (List.replicate n .cH))]
   | none=>match v.int?,w.int? with
    | some (.i64,n),some (.i64,m)=> .gd [gd (0≤n),gd (n≤m),gd (m*au t≤limit)] (aI S (.aY (B)) [(B, .arr e (List.replicate n.toNat (Ty.zero S e)))])
    | _,_=> .fail
  | _,_,_=> .fail
 | .slice t x lo hi none=>match S.ty t,ev x,ku S tm lo,ku S tm hi with
  | some T0,some v,some l,some h=>Ib S T.vw T0 bx l h v
  | _,_,_,_=> .fail
 | .slice t x (some lo) (some hi) (some mx)=>match S.ty t,ev x,ev lo,ev hi,ev mx with
  | some T0,some v,some l,some h,some m=>Ia S T0 bx l h m v
  | _,_,_,_,_=> .fail
 | .fieldAddr t x f=>match ev x with
  | some v=>EB S t f v
  | none=> .fail
 | .field t x f=>match mo S t,ev x with
  | some u,some (.d (.st u') y)=>cond (Nat.beq u u') (match S.eW u' f with
   | some (o,w)=>match partOf S (.st u') y o w with
    | some z=>aI S (.d w z) []
    | none=> .fail
   | none=> .fail) .fail
  | some u,some (.agg u' vs)=>cond (Nat.beq u u'&&vs.length == (S.F u).length) (match S.eW u f with
   | some (o, .st w)=>aI S (.agg w ((vs.drop o).take (S.F w).length)) []
   | some (o,_)=>match vs[o]? with
    | some v=>aI S v []
    | none=> .fail
   | none=> .fail) .fail
  | _,_=> .fail
 | .indexAddr t x i=>match qe S t with
  | some (n,e,u)=>match ev x,ev i with
   | some v,some w=>match w.int? with
    | some (_,j)=>DY S n e u bx j v
    | none=> .fail
   | _,_=> .fail
  | none=>match e9 S t,ev x,ev i with
   | some e,some v,some w=>match w.int? with
    | some (_,n)=>FK S e bx n v
    | none=> .fail
   | _,_,_=> .fail
 | .index t x i=>match qe S t with
  | some (n,e,u)=>match ev x,ev i with
   | some v,some w=>match w.int? with
    | some (_,j)=>DZ S n e u j v
    | none=> .fail
   | _,_=> .fail
  | none=>match zE S t with
   | some (n,m,u)=>match ev x,ev i with
    | some v,some w=>match wP S u v,w.int? with
     | some vs,some (_,j)=>cond (Nat.beq vs.length (n*(S.F m).length)) (zD S m (S.F m).length j vs 0 n) .fail
     | _,_=> .fail
    | _,_=> .fail
   | none=>match ev x,ev i with
    | some v,some w=>match S.ty t,v.qX,w.int? with
     | some .str,some s,some (_,n)=> .gd (eL n s.length) (aI S (.d (.int .u8) (((s.getD n.toNat 0).toNat:Nat):Int)) [])
     | _,_,_=> .fail
    | _,_=> .fail
 | .extract x i=>match ev x with
  | some (.jw vs)=>match vs[i]? with
   | some v=>aI S v []
   | none=> .fail
  | _=> .fail
 | .call c=>match c.args.toList.mapM ev with
  | none=> .fail
  | some args=>match c.callee with
   | .builtin .len=>match args,(c.argTypes[0]?).bind S.ty with
    | [v],some T=>FW S T bx v
    | _,_=> .fail
   | .builtin .append=>match args,c.argTypes.toList with
    | [s,x],[t,u]=>match e9 S t,e9 S u with
     | some e,some e'=>if e=e' then tX S B (au t) e bx x s else .fail
     | _,_=> .fail
    | _,_=> .fail
   | .builtin .clear=>match args,c.argTypes.toList with
    | [v],[t]=>match e9 S t with
     | some e=>Ec S e bx v
     | none=> .fail
    | _,_=> .fail
   | .builtin b=>match args with
    | [v,w]=>match v.int?,w.int? with
     | some (k,x),some (k',y)=>if k=k' then match b with
      | .min=>aI S (.d (.int k) (Min.min (α:=Int) x y)) []
      | .max=>aI S (.d (.int k) (Max.max (α:=Int) x y)) []
      | _=> .fail else .fail
     | _,_=> .fail
    | _=> .fail
   | .value f=>match ev f with
    | some v=>wR S T B bx args v
    | none=> .fail
   | _=> .fail
 | _=> .fail
def pn (B:Nat):List Nat:=(List.range 16).map (B+ ·)
def uU (tm:Nat→V S.C) (x:Operand):List Nat:=match aX S tm x with
 | some v=>aH S v
 | none=> []
def deep (bx:Bx S.C) (ids:List Nat):List Nat:=ids++ids.flatMap fun i=>match bx i with
 | some (.cells vs) | some (.bX vs)=>vs.flatMap (aF S)
 | some (.bn j)=> [j]
 | _=> []
def aM (vw:Bool) (B:Nat) (o:Op) (tm:Nat→V S.C) (bx:Bx S.C):List Nat×List Nat:=
 let ids:=o.operands.toList.flatMap (uU S tm)
 match o with
 | .load .. =>(ids,[])
 | .indexAddr t _ _=>(ids,match S.ar t with | some _=>ids | none=> [])
 | .call { callee:= .builtin .len, .. } =>(ids,[])
 | .slice .. =>(ids,cond vw [] (ids++pn B))
 | .call { callee:= .value _, .. } =>let ids:=deep S bx ids; (ids++pn B,ids++pn B)
 | .move x=>match aX S tm x with
  | some .cH=>(pn B,pn B)
  | _=>([],[])
 | .assign x=>match aX S tm x with
  | some .cH=>(pn B,pn B)
  | some (.cD b _)=>([b],[b])
  | _=>([],[])
 | .pick .. | .field .. | .fieldAddr .. | .extract .. | .unOp .. | .convert .. | .index .. | .binOp .. | .nilCheck _=>([],[])
 | _=>(ids++pn B,ids++pn B)
end
end Go.Sy
namespace Go.Sy
inductive AC where
 | skip
 | vK (id:Nat) (ops:Array Oper) (draw:Bool)
 | seq (a b:AC)
 | cut (n:Nat) (a b:AC)
 | cond (c:Operand) (a b:AC)
 | block (id:Nat) (a:AC)
 | loop (n:Nat) (a:AC)
 | exit (id:Nat)
 | ret
 | scope (a:AC)
 | bad (c:Code)
 deriving Inhabited
def AC.code:AC→Code
 | .skip=> .skip
 | .vK id ops draw=> .region id ops draw
 | .seq a b | .cut _ a b=> .seq a.code b.code
 | .cond c a b=> .cond c a.code b.code
 | .block id a=> .block id a.code
 | .loop _ a=> .loop a.code
 | .exit id=> .exit id
 | .ret=> .ret
 | .scope a=> .scope a.code
 | .bad c=>c
def AC.of (dP:List Nat):Code→(ls ss:Nat)→AC×Nat×Nat
 | .skip,l,s=>(.skip,l,s)
 | .region id ops draw,l,s=>(.vK id ops draw,l,s)
 | .seq a b,l,s=>
  let (x,l1,s1):=AC.of dP a l (s+1)
  let (y,l2,s2):=AC.of dP b l1 s1
  (match dP.idxOf? s with | some n=> .cut (2*n+1) x y | none=> .seq x y,l2,s2)
 | .cond c a b,l,s=>
  let (x,l1,s1):=AC.of dP a l s
  let (y,l2,s2):=AC.of dP b l1 s1
  (.cond c x y,l2,s2)
 | .block id a,l,s=>let (x,l1,s1):=AC.of dP a l s; (.block id x,l1,s1)
 | .loop a,l,s=>let (x,l1,s1):=AC.of dP a (l+1) s; (.loop (2*l) x,l1,s1)
 | .exit id,l,s=>(.exit id,l,s)
 | .ret,l,s=>(.ret,l,s)
 | .scope a,l,s=>let (x,l1,s1):=AC.of dP a l s; (.scope x,l1,s1)
 | c,l,s=>(.bad c,l,s)
theorem AC.Ro (dP:List Nat) (c:Code): ∀ l s,(AC.of dP c l s).1.code=c:=by
 induction c with
 | seq a b xN xO=>
  intro l s
  simp only [AC.of]
  split <;> simp [AC.code,xN,xO]
 | cond c a b xN xO=>intro l s; simp [AC.of,AC.code,xN,xO]
 | block id a ih=>intro l s; simp [AC.of,AC.code,ih]
 | loop a ih=>intro l s; simp [AC.of,AC.code,ih]
 | scope a ih=>intro l s; simp [AC.of,AC.code,ih]
 | _=>intro l s; simp [AC.of,AC.code]
section
variable (S:bf)
variable (T:iz S) (au:Nat→Nat)
def xS (a b:List Nat):Bool:=a.any fun x=>b.contains x
def meets (x y:List Nat×List Nat):Bool:=xS x.2 y.1||xS x.2 y.2||xS y.2 x.1
def oT (ops:Array Oper) (eI:Array Nat):List (Nat×Option (List Nat×List Nat))→Bool
 | []=>true
 | (j,fj)::r=>oT ops eI r&&r.all fun (i,fi)=>
  (eI.getD j 0).testBit i||(Oper.apart ops (ops.getD i default) (ops.getD j default)&&
   match fi,fj with
   | some a,some b=> !meets a b
   | _,_=>true)
def zf (ops:Array Oper):Bool:=ops.toList.zipIdx.all fun p=>p.1.after.toList.all fun e=> !Region.binds .any e||Nat.blt e.on p.2
def restrict (bx:Bx S.C) (ids:List Nat):Bx S.C:=fun i=>cond (ids.contains i) (bx i) none
def n6 (bx:Bx S.C) (B:Nat) (fp:List Nat) (us:aP S.C):Bool:=
 us.all fun u=>fp.contains u.1&&(!(Nat.ble B u.1&&Nat.blt u.1 (B+16))||(bx u.1).isNone)
def Ih {R:Type} (B:Nat) (dst:Option Nat) (o:Op) (ty:Nat) (env:Env S.C) (k:Env S.C→Option R):Option R:=
 let fp:=aM S T.vw B o env.tm env.bx
 (cO S T au B o ty env.tm (restrict S env.bx fp.1)).run fun p=>
  cond (n6 S env.bx B fp.2 p.2) (k (env.apply dst p.1 p.2)) none
def mG (cQ n:Nat):Option Nat→Nat
 | _=>16*(100000+1000*cQ+n)
def xQ (ops:Array Oper) (n:Nat):Bool:=ops.any fun o=>match o.guard with
 | some (j,_)=>Nat.beq j n
 | none=>false
def splitK {R:Type} (g:Bool) (dst:Option Nat) (env:Env S.C) (k:Env S.C→Option R):Option R:=
 match g with
 | false=>k env
 | true=>match dst with
  | none=>none
  | some t=>match env.tm t with
   | .d .bool x=>match (x:Bool) with
    | true=>k { env with tm:=az env.tm t (.d .bool true) }
    | false=>k { env with tm:=az env.tm t (.d .bool false) }
   | .pr _ i=> @ite _ _ i (k { env with tm:=az env.tm t (.d .bool true) }) (k { env with tm:=az env.tm t (.d .bool false) })
   | _=>none
def oK (ops:Array Oper) (o:Oper) (tm:Nat→V S.C):Option Bool:=
 match o.guard with
 | none=>some true
 | some (j,want)=>match (ops[j]?).bind (·.dst) with
  | none=>none
  | some t=>match tm t with
   | .d .bool x=>some (match (x:Bool) with | true=>want | false=> !want)
   | .skip=>some false
   | _=>none
noncomputable def agree {R:Type} (a b:Option R):Option R:=open Classical in if a=b then a else none
def yc (o:Op) (tm:Nat→V S.C):Option (Nat×Bool):=match o with
 | .binOp op t x (.const (.slice none 0 0)) _=>match e9 S t with
  | some _=>match aX S tm x with
   | some (.d (.sl _) l)=>match op with
    | .eql=>some (List.length l,false)
    | .neq=>some (List.length l,true)
    | _=>none
   | _=>none
  | none=>none
 | _=>none
def AI:Op→Bool
 | .defer _=>true
 | _=>false
def H6 (tm:Nat→V S.C) (x y:Operand):Bool:=match x,y with
 | .const (.int k x), .const (.int k' y)=>decide (k=k')&&decide (x=y)
 | .tmp a, .tmp b=>match tm a,tm b with
  | .ptr b o, .ptr b' o'=>Nat.beq b b'&&Nat.beq o o'
  | _,_=>false
 | _,_=>false
def C9 (tm:Nat→V S.C):List Operand→List Operand→Bool
 | [],[]=>true
 | a::as,b::bs=>H6 S tm a b&&C9 tm as bs
 | _,_=>false
def zU (tm:Nat→V S.C) (dc:Option (Nat×List Operand)):Op→Bool
 | .defer ⟨.value (.func f),args,_⟩=>match dc with
  | some (g,ops)=>Nat.beq f g&&C9 S tm args.toList ops
  | none=>false
 | _=>false
noncomputable def kH {R:Type} (cQ:Nat) (ops:Array Oper) (draw:Bool) (eI:Array Nat) (k:Env S.C→Option R):List Oper→Nat→List (Nat×Option (List Nat×List Nat))→Env S.C→Option R
 | [],_,dj,env=>cond (!draw||(oT ops eI dj&&zf ops)) (k env) none
 | o::r,n,dj,env=>match oK S ops o env.tm with
  | none=>none
  | some true=>match AI o.op with
   | true=>cond (draw||env.df|| !zU S env.tm T.dc o.op) none (kH cQ ops draw eI k r (n+1) ((n,none)::dj) { env.apply o.dst .skip [] with df:=true })
   | false=>match yc S o.op env.tm with
   | some (m,v)=>cond draw none (@ite _ (m=0) (instDecidableEqNat m 0) (agree (splitK S (xQ ops n) o.dst (env.apply o.dst (.d .bool (Bool.not v)) []) fun e=>
    kH cQ ops draw eI k r (n+1) ((n,some ([],[]))::dj) e) (splitK S (xQ ops n) o.dst (env.apply o.dst (.d .bool v) []) fun e=>
    kH cQ ops draw eI k r (n+1) ((n,some ([],[]))::dj) e)) (splitK S (xQ ops n) o.dst (env.apply o.dst (.d .bool v) []) fun e=>
    kH cQ ops draw eI k r (n+1) ((n,some ([],[]))::dj) e))
   | none=>Ih S T au (mG cQ n o.dst) o.dst o.op o.type env fun e=>splitK S (xQ ops n) o.dst e fun e=>
    kH cQ ops draw eI k r (n+1) ((n,some (aM S T.vw (mG cQ n o.dst) o.op env.tm env.bx))::dj) e
  | some false=>kH cQ ops draw eI k r (n+1) ((n,none)::dj) (env.apply o.dst .skip [])
inductive Ex where
 | normal | exit (id:Nat) | ret
 deriving Inhabited
abbrev Kt (R:Type):=Ex→Env S.C→Option R
noncomputable def exec {R:Type} (L:Nat→Env S.C→Option R):AC→Env S.C→Kt S R→Option R
 | .skip,env,k=>k .normal env
 | .vK id ops draw,env,k=>kH S T au id ops draw (Region.before ops) (k .normal) ops.toList 0 [] env
 | .seq a b,env,k=>exec L a env fun e env'=>match e with
  | .normal=>exec L b env' k
  | e=>k e env'
 | .cut n a _,env,k=>exec L a env fun e env'=>match e with
  | .normal=>L n env'
  | e=>k e env'
 | .cond c a b,env,k=>match aX S env.tm c with
  | some (.d .bool x)=>match (x:Bool) with
   | true=>exec L a env k
   | false=>exec L b env k
  | some (.pr _ i)=> @ite _ _ i (exec L a env k) (exec L b env k)
  | _=>none
 | .block id a,env,k=>exec L a env fun e env'=>match e with
  | .exit j=>cond (Nat.beq j id) (k .normal env') (k (.exit j) env')
  | e=>k e env'
 | .loop n _,env,_=>L n env
 | .exit id,env,k=>k (.exit id) env
 | .ret,env,k=>k .ret env
 | .scope a,env,k=>exec L a env k
 | .bad _,_,_=>none
def yh (sl:List Nat) (ks:List K) (env:Env S.C):Option (Ks S.C ks):=
 (eF S T.fs env.bx ks (sl.map env.tm)).bind fun a=>some a.1
def e_ (id:Nat):(k:K)→k.den S.C→V S.C×aP S.C
 | .val (.data t),x=>(.d t x,[])
 | .val (.bu e),x=>(.bu id e x,[(id, .tail)])
 | .val (.aY e),x=>(.aY id,[(id, .arr e x)])
 | .obj cs,x=>let a:=bH S (id+1) cs x; (.ptr id 0,(id, .cells a.1)::a.2.1)
 | .ro t,x=>(.dF t x,[])
 | .fn a r,g=>(.fv a r g,[])
 | .nil,_=>(.nil,[])
 | .err,x=>(.err x,[])
 | .bn,x=>(.ptr id 0,[(id, .bn (id+1)),(id+1, .buf x)])
 | .opt _,_=>(.undef,[])
 | .cc t cs,x=>let a0:=bH S (id+1) [.data t] x.1; let a:=bH S (id+2) cs x.2; (.split (id+1) id,(id, .cells a0.1)::(id+1, .cells a.1)::a.2.1)
 | .cD cs,x=>let a:=bH S (id+1) cs x; (.cD id (CK.cB S cs),(id, .cells a.1)::a.2.1)
def fS:(ks:List K)→(sl:List Nat)→Ks S.C ks→Env S.C→Env S.C
 | [],_,_,env=>env
 | _::_,[],_,env=>env
 | k::r,t::sl,x,env=>
  let a:=e_ S (16*t) k (Ks.head x)
  fS r sl (Ks.tail x) (env.apply (some t) a.1 a.2)
def Env.none (df:Bool):Env S.C:=⟨fun _=> .undef,fun _=>Option.none,df⟩
structure iy (R:Type) where
 sl:List Nat
 ks:List K
 fn:Ks S.C ks→Option R
 df:Bool
def N6:Bool→Bool→Bool
 | true,b=>b
 | false,true=>false
 | false,false=>true
noncomputable def AL {R:Type} (env:Env S.C):List (iy S R)→Option R
 | []=>none
 | l::ls=>match cond (N6 l.df env.df) (yh S T l.sl l.ks env) none with
  | some x=>l.fn x
  | none=>AL env ls
noncomputable def iK {R:Type} (ls:Nat→List (iy S R)) (n:Nat) (env:Env S.C):Option R:=AL S T env (ls n)
def mm:List Nat→List K→Bool
 | [],[]=>true
 | t::sl,k::ks=>Nat.ble (o9 k) 16&& !sl.contains t&&(match k with | .opt _=>false | _=>true)&&mm sl ks
 | _,_=>false
noncomputable def VC {R:Type} (l0 l1:Nat→List (iy S R)):AC→Kt S R→List Prop
 | .seq a b,k=>VC l0 l1 a (fun e env'=>match e with
  | .normal=>exec S T au (iK S T l0) b env' k
  | e=>k e env')++VC l0 l1 b k
 | .cut n a b,k=>VC l0 l1 a (fun e env'=>match e with
  | .normal=>iK S T l0 n env'
  | e=>k e env')++VC l0 l1 b k++(l1 n).map fun l=> ∀ x,l.fn x=exec S T au (iK S T l0) b (fS S l.ks l.sl x (Env.none S l.df)) k
 | .cond _ a b,k=>VC l0 l1 a k++VC l0 l1 b k
 | .block id a,k=>VC l0 l1 a fun e env'=>match e with
  | .exit j=>cond (Nat.beq j id) (k .normal env') (k (.exit j) env')
  | e=>k e env'
 | .loop n a,k=>VC l0 l1 a (fun e env'=>match e with
  | .normal=>iK S T l0 n env'
  | e=>k e env')++(l1 n).map fun l=> ∀ x,l.fn x=exec S T au (iK S T l0) a (fS S l.ks l.sl x (Env.none S l.df)) (fun e env'=>match e with
   | .normal=>iK S T l0 n env'
   | e=>k e env')
 | .scope a,k=>VC l0 l1 a k
 | _,_=> []
def xe (ps:List K) (x:Ks S.C ps):Env S.C:=fS S ps (List.range' 0 ps.length) x (Env.none S false)
def oC (env:Env S.C):ResultVar→V S.C
 | .tmp t=>env.tm t
 | .cell a t=>match S.ty t,env.tm a with
  | some (.st u), .ptr b 0=>match env.bx b with
   | some (.cells vs)=>cond (vs.length == (S.F u).length) (.agg u vs) .undef
   | _=> .undef
  | some _, .ptr b 0=>match env.bx b with
   | some (.cells [v])=>v
   | _=> .undef
  | _,_=> .undef
def jk:List K→Nat→List Nat
 | [],_=> []
 | .obj _::r,i=>i::jk r (i+1)
 | .bn::r,i=>i::jk r (i+1)
 | .cc _ _::r,i=>i::jk r (i+1)
 | _::r,i=>jk r (i+1)
def mJ:Nat:=1440000
def l6 (fn:Func) (ps rs:List K):Kt S (Ks S.C (rs++outs ps)):=fun e env=>match e with
 | .exit _=>none
 | _=>match env.df with
  | false=>(eF S T.fs env.bx (rs++outs ps) (fn.results.toList.map (oC S env)++(jk ps 0).map env.tm)).map (·.1)
  | true=>match T.dc with
   | some (f,ops)=>match ops.mapM (aX S env.tm) with
    | some vs=>(qg S ⟨T.de,T.fs,T.nl,T.vw,none,[]⟩ mJ env.bx f vs).run fun p=>cond (p.2.all fun u=> !(Nat.ble mJ u.1&&Nat.blt u.1 (mJ+16))||(env.bx u.1).isNone)
     ((eF S T.fs (aA env.bx p.2) (rs++outs ps) (fn.results.toList.map (oC S (env.apply none .undef p.2))++(jk ps 0).map env.tm)).map (·.1)) none
    | none=>none
   | none=>none
end
end Go.Sy
namespace Go.Sy
abbrev St:=Nat→Nat→Prop
def At (w:World) (s:St) (b o:Nat) (cs:List Value):Prop:=
 ∀ j v,cs[j]? =some v→w.cell? ⟨b,o+j,none⟩=some v∧s b (o+j)
def b7 (w:World) (s:St) (w':World) (s':St):Prop:=
 ∀ b o,s b o→s' b o∧w'.cell? ⟨b,o,none⟩=w.cell? ⟨b,o,none⟩
theorem b7.refl (w:World) (s:St):b7 w s w s:=fun _ _ h=>⟨h,rfl⟩
theorem b7.trans {w w' w'':World} {s s' s'':St} (h:b7 w s w' s') (h':b7 w' s' w'' s''):b7 w s w'' s'':=
 fun b o hs=>⟨(h' b o (h b o hs).1).1,((h' b o (h b o hs).1).2).trans (h b o hs).2⟩
theorem At.later {w w':World} {s s':St} {b o:Nat} {cs:List Value} (h:At w s b o cs) (hl:b7 w s w' s'):At w' s' b o cs:=
 fun j v hj=>⟨(hl _ _ (h j v hj).2).2.trans (h j v hj).1,(hl _ _ (h j v hj).2).1⟩
theorem At.left {w:World} {s:St} {b o:Nat} {cs ds:List Value} (h:At w s b o (cs++ds)):At w s b o cs:=fun j v hj=>
 h j v (by rw [List.getElem?_append_left (List.getElem?_eq_some_iff.1 hj).1]; exact hj)
theorem At.right {w:World} {s:St} {b o:Nat} {cs ds:List Value} (h:At w s b o (cs++ds)):At w s b (o+cs.length) ds:=fun j v hj=>by
 have :=h (cs.length+j) v (by rw [List.getElem?_append_right (by omega)]; simpa using hj)
 rw [← Nat.add_assoc] at this
 exact this
theorem At.append {w:World} {s:St} {b o:Nat} {cs ds:List Value} (h:At w s b o cs) (h':At w s b (o+cs.length) ds):At w s b o (cs++ds):=fun j v hj=>by
 by_cases hlt:j<cs.length
 · exact h j v (by rw [List.getElem?_append_left hlt] at hj; exact hj)
 · have :=h' (j - cs.length) v (by rw [List.getElem?_append_right (by omega)] at hj; exact hj)
   rw [show o+cs.length+(j - cs.length)=o+j from by omega] at this
   exact this
def isAgg:Value→Bool
 | .agg _=>true
 | _=>false
def bG:Ty→Bool
 | .st _=>true
 | _=>false
def iU (M:St):Prop:= ∀ b o, ¬ M b o
def iV (M A B:St):Prop:=(∀ b o,M b o↔A b o∨B b o)∧ ∀ b o,A b o→B b o→False
section
variable (P:Program) (S:bf)
def bN (R:(t:Ty)→t.den S.C→List Value→Prop):(ts:List Ty)→av S.C ts→List Value→Prop
 | [],_,cs=>cs= []
 | t::ts,x,cs=> ∃ c r,cs=c::r∧R t (av.head x) [c]∧bN R ts (av.tail x) r
def wu (R:(t:Ty)→t.den S.C→List Value→Prop) (w:World) (s:St) (e:Ty) (b o:Nat) (l:List (e.den S.C)):Prop:=
 ∀ (i:Nat) (x:e.den S.C),l[i]? =some x→ ∃ ds,ds.length=Ty.sz S e∧At w s b (o+i*Ty.sz S e) ds∧R e x ds
def aJ (w:World) (s:St):Nat→(t:Ty)→t.den S.C→List Value→Prop
 | 0,_,_,_=>False
 | n+1,t,x,cs=>match t,x with
  | .int k,x=>cs= [.int k x]
  | .bool,x=>cs= [.bool x]
  | .str,x=>cs= [.string ⟨List.toArray x⟩]
  | .pt,_=>cs= [.pointer none]
  | .sl e,l=> ∃ a cap,cs= [.slice a (List.length l) cap]∧List.length l≤cap∧
   (List.length l=0∨ ∃ b o,a=some ⟨b,o,none⟩∧wu S (fun t x cs=>aJ w s n t x cs) w s e b o l)
  | .st u,x=>bN S (fun t x cs=>aJ w s n t x cs) (S.F u) (S.ex u x) cs
def cz (w:World) (s:St) (t:Ty) (x:t.den S.C) (v:Value):Prop:=isAgg v=bG t∧ ∃ n,aJ S w s n t x v.cells.toList
theorem bN.mono {R R':(t:Ty)→t.den S.C→List Value→Prop} (h: ∀ t x cs,R t x cs→R' t x cs):
 ∀ (ts:List Ty) (x:av S.C ts) (cs:List Value),bN S R ts x cs→bN S R' ts x cs
 | [],_,_,hr=>hr
 | _::ts,_,_,⟨c,r,hc,h1,h2⟩=>⟨c,r,hc,h _ _ _ h1,bN.mono h ts _ _ h2⟩
theorem aJ.mono {w w':World} {s s':St} (hl:b7 w s w' s'): ∀ {n m:Nat},n≤m→ ∀ {t:Ty} {x:t.den S.C} {cs:List Value},aJ S w s n t x cs→aJ S w' s' m t x cs
 | 0,_,_,_,_,_,h=>h.elim
 | n+1,0,hm,_,_,_,_=>by omega
 | n+1,m+1,hm,t,x,cs,h=>by
  have ih:=fun {t:Ty} {x:t.den S.C} {cs:List Value} =>aJ.mono hl (n:=n) (m:=m) (by omega) (t:=t) (x:=x) (cs:=cs)
  cases t with
  | int k=>exact h
  | bool=>exact h
  | str=>exact h
  | pt=>exact h
  | sl e=>
   obtain ⟨a,cap,hcs,hc,h⟩:=h
   refine ⟨a,cap,hcs,hc,h.imp id ?_⟩
   rintro ⟨b,o,ha,he⟩
   refine ⟨b,o,ha,fun i x hi=> ?_⟩
   obtain ⟨ds,hd,cN,hr⟩:=he i x hi
   exact ⟨ds,hd,cN.later hl,ih hr⟩
  | st u=>exact bN.mono S (fun t x cs h=>ih h) _ _ _ h
theorem cz.mono {w w':World} {s s':St} (hl:b7 w s w' s') {t:Ty} {x:t.den S.C} {v:Value} (h:cz S w s t x v):cz S w' s' t x v:=
 ⟨h.1,h.2.imp fun _ hn=>aJ.mono S hl (Nat.le_refl _) hn⟩
theorem aJ.up {w:World} {s:St} {n m:Nat} (hm:n≤m) {t:Ty} {x:t.den S.C} {cs:List Value} (h:aJ S w s n t x cs):aJ S w s m t x cs:=
 aJ.mono S (b7.refl w s) hm h
theorem bN.length {R:(t:Ty)→t.den S.C→List Value→Prop} : ∀ (ts:List Ty) (x:av S.C ts) (cs:List Value),bN S R ts x cs→cs.length=ts.length
 | [],_,_,h=>by cases h; rfl
 | _::ts,_,_,⟨c,r,hc,_,h2⟩=>by subst hc; simp [bN.length ts _ _ h2]
theorem aJ.length {w:World} {s:St} {n:Nat} {t:Ty} {x:t.den S.C} {cs:List Value} (h:aJ S w s n t x cs):cs.length=Ty.sz S t:=by
 cases n with
 | zero=>exact h.elim
 | succ n=>cases t with
  | int k=>cases h; rfl
  | bool=>cases h; rfl
  | str=>cases h; rfl
  | pt=>cases h; rfl
  | sl e=>obtain ⟨a,cap,rfl,_⟩:=h; rfl
  | st u=>exact bN.length S _ _ _ h
theorem bN.flat {w w':World} {s s':St} {n m:Nat} : ∀ (ts:List Ty) (x:av S.C ts) (cs:List Value),(ts.all fun | .sl _=>false | .st _=>false | _=>true)=true→
 bN S (fun t x cs=>aJ S w s n t x cs) ts x cs→bN S (fun t x cs=>aJ S w' s' (m+1) t x cs) ts x cs
 | [],_,_,_,h=>h
 | t::ts,x,cs,hf,⟨c,r,hc,h1,h2⟩=>by
  simp only [List.all_cons,Bool.and_eq_true] at hf
  refine ⟨c,r,hc, ?_,bN.flat ts _ _ hf.2 h2⟩
  cases n with
  | zero=>exact h1.elim
  | succ n=>cases t with
   | int k=>exact h1
   | bool=>exact h1
   | str=>exact h1
   | pt=>exact h1
   | sl e=>simp at hf
   | st u=>simp at hf
end
end Go.Sy
namespace Go.Sy
structure br (w w':World) (T:St):Prop where
 os:w'.os=w.os
 tape:w'.tape=w.tape
 output:w'.output=w.output
 size:w.heap.size≤w'.heap.size
 same: ∀ b,b<w.heap.size→(∀ o, ¬ T b o)→w'.heap[b]? =w.heap[b]?
 cell: ∀ b o,b<w.heap.size→ ¬ T b o→w'.cell? ⟨b,o,none⟩=w.cell? ⟨b,o,none⟩
 some: ∀ b o,b<w.heap.size→(w.cell? ⟨b,o,none⟩).isSome=true→(w'.cell? ⟨b,o,none⟩).isSome=true
 Ag: ∀ b o,b<w.heap.size→ ¬ T b o→w'.frozen? ⟨b,o,none⟩=w.frozen? ⟨b,o,none⟩
theorem br.refl (w:World) (T:St):br w w T:=⟨rfl,rfl,rfl,Nat.le_refl _,fun _ _ _=>rfl,fun _ _ _ _=>rfl,fun _ _ _ h=>h,fun _ _ _ _=>rfl⟩
theorem br.mono {w w':World} {T T':St} (h:br w w' T) (ht: ∀ b o,T b o→T' b o):br w w' T':=
 ⟨h.os,h.tape,h.output,h.size,fun b hb hn=>h.same b hb fun o ho=>hn o (ht b o ho),fun b o hb hn=>h.cell b o hb fun ho=>hn (ht b o ho),h.some,fun b o hb hn=>h.Ag b o hb fun ho=>hn (ht b o ho)⟩
theorem br.trans {w w' w'':World} {T T' DC:St} (h:br w w' T) (h':br w' w'' T') (h1: ∀ b o,T b o→DC b o) (h2: ∀ b o,b<w.heap.size→T' b o→DC b o):br w w'' DC:=
 ⟨h'.os.trans h.os,h'.tape.trans h.tape,h'.output.trans h.output,Nat.le_trans h.size h'.size,
  fun b hb hn=>(h'.same b (Nat.lt_of_lt_of_le hb h.size) fun o ho=>hn o (h2 b o hb ho)).trans (h.same b hb fun o ho=>hn o (h1 b o ho)),
  fun b o hb hn=>(h'.cell b o (Nat.lt_of_lt_of_le hb h.size) fun ho=>hn (h2 b o hb ho)).trans (h.cell b o hb fun ho=>hn (h1 b o ho)),
  fun b o hb hs=>h'.some b o (Nat.lt_of_lt_of_le hb h.size) (h.some b o hb hs),
  fun b o hb hn=>(h'.Ag b o (Nat.lt_of_lt_of_le hb h.size) fun ho=>hn (h2 b o hb ho)).trans (h.Ag b o hb fun ho=>hn (h1 b o ho))⟩
theorem cell_of_heap {w w':World} {b o:Nat} (h:w'.heap[b]? =w.heap[b]?):w'.cell? ⟨b,o,none⟩=w.cell? ⟨b,o,none⟩:=by
 simp [World.cell?,h]
theorem Ah {w w':World} {b o:Nat} (h:w'.heap[b]? =w.heap[b]?):w'.frozen? ⟨b,o,none⟩=w.frozen? ⟨b,o,none⟩:=by
 simp [World.frozen?,h]
theorem br.drew (w:World) (T:St):br w w.drew T:=⟨rfl,rfl,rfl,Nat.le_refl _,fun _ _ _=>rfl,fun _ _ _ _=>rfl,fun _ _ _ h=>h,fun _ _ _ _=>rfl⟩
theorem heap_alloc (w:World) (o:Obj) (b:Nat) (h:b<w.heap.size):(w.alloc o).heap[b]? =w.heap[b]? :=RowKit.Below.heap_alloc w o b h
theorem br.alloc (w:World) (o:Obj) (T:St):br w (w.alloc o) T:=
 ⟨rfl,rfl,rfl,by simp,fun b hb _=>heap_alloc w o b hb,fun b o' hb _=>cell_of_heap (heap_alloc w o b hb),fun b o' hb h=>by rw [cell_of_heap (heap_alloc w o b hb)]; exact h,fun b o' hb _=>Ah (heap_alloc w o b hb)⟩
theorem os_setCells (b:Nat): ∀ (vs:List Value) (o:Nat) (w:World),(w.setCells b o vs).os=w.os∧(w.setCells b o vs).tape=w.tape∧(w.setCells b o vs).output=w.output∧(w.setCells b o vs).heap.size=w.heap.size
 | [],_,_=>⟨rfl,rfl,rfl,rfl⟩
 | v::r,o,w=>by
  obtain ⟨h1,h2,h3,h4⟩:=os_setCells b r (o+1) (w.setCell ⟨b,o,none⟩ v)
  exact ⟨h1,h2,h3,h4.trans (by simp)⟩
theorem KW (b:Nat): ∀ (vs:List Value) (o:Nat) (w:World) (k:Nat),k≠b→(w.setCells b o vs).heap[k]? =w.heap[k]?
 | [],_,_,_,_=>rfl
 | v::r,o,w,k,hk=>(KW b r (o+1) (w.setCell ⟨b,o,none⟩ v) k hk).trans (RowKit.Below.heap_setCell w _ v k hk)
theorem Zk (w:World) (b o:Nat):w.setCells b o []=w:=rfl
theorem br.setCells (w:World) (b o:Nat) (vs:List Value) (ht:w.there b o vs.length):br w (w.setCells b o vs) (fun b' o'=>b'=b∧o≤o'∧o'<o+vs.length):=by
 obtain ⟨h1,h2,h3,h4⟩:=os_setCells b vs o w
 refine ⟨h1,h2,h3,by omega,fun k hk hn=> ?_,fun k o' hk hn=> ?_,fun k o' hk hs=> ?_,fun k o' hk _=> ?_⟩
 · by_cases e:k=b
   · subst e
     cases vs with
     | nil=>rfl
     | cons v r=>exact absurd ⟨rfl,Nat.le_refl _,by simp⟩ (hn o)
   · exact KW b vs o w k e
 · exact World.cell?_setCells_out b vs o w ⟨k,o',none⟩ fun hb _=>by
    have hb:k=b:=hb
    by_cases e:o≤o'∧o'<o+vs.length
    · exact absurd ⟨hb,e⟩ hn
    · show o'<o∨o+vs.length≤o'
      omega
 · by_cases e:k=b∧o≤o'∧o'<o+vs.length
   · obtain ⟨rfl,e1,e2⟩:=e
     have :=World.cell?_setCells_in k vs o w (fun i hi=>(ht i hi).1) (o' - o) (by omega)
     rw [show o+(o' - o)=o' from by omega] at this
     rw [this]; rfl
   · rw [World.cell?_setCells_out b vs o w ⟨k,o',none⟩ fun hb _=>by
      have hb:k=b:=hb
      show o'<o∨o+vs.length≤o'
      omega]
     exact hs
 · exact World.frozen?_setCells ..
structure Loc where
 b:Nat
 o:Nat
 n:Nat
 cap:Nat
 nil:Bool
def Loc.aM (L:Loc):St:=fun b o=>b=L.b∧L.o≤o∧o<L.o+L.n
def IM (L:Loc) (a:Option Addr) (len cap sz:Nat):Prop:=
 (a=none∧cap=0∧L.n=0)∨ ∃ b o,a=some ⟨b,o,none⟩∧L.n=(cap - len)*sz∧(len<cap→L.b=b∧L.o=o+len*sz)
structure p7 (L:Loc) (a:Option Addr) (len cap sz:Nat):Prop where
 addr:a=if L.nil then none else some ⟨L.b,L.o,none⟩
 mH:cap=L.cap
 cells:L.n=L.cap*sz
 isNil:L.nil=true→L.cap=0
 fits:len≤cap
def jZ (P:Program) (f:Nat):Prop:= ∃ fn,P.funcs[f]? =some fn∧(fn.name == "runtime.NumGoroutine")=false∧fn.body.isNone=false
def l7:List Value→Value
 | [v]=>v
 | vs=> .tuple vs.toArray
def grown (s:St) (w w':World):St:=fun b o=>s b o∨(w.heap.size≤b∧b<w'.heap.size)
section
variable (P:Program) (S:bf)
def gk (w:World) (s:St):(ts:List Ty)→av S.C ts→List Value→Prop
 | [],_,vs=>vs= []
 | t::ts,x,vs=> ∃ v r,vs=v::r∧cz S w s t (av.head x) v∧gk w s ts (av.tail x) r
theorem gk.mono {w w':World} {s s':St} (hl:b7 w s w' s'): ∀ (ts:List Ty) (x:av S.C ts) (vs:List Value),gk S w s ts x vs→gk S w' s' ts x vs
 | [],_,_,h=>h
 | _::ts,_,_,⟨v,r,h1,h2,h3⟩=>⟨v,r,h1,h2.mono S hl,gk.mono hl ts _ _ h3⟩
def jx (S:bf) (w:World) (M:St):Prop:=(∀ g ∈ S.gl,g.1.1<w.heap.size∧ ¬ M g.1.1 g.1.2∧ ∃ v,w.cell? ⟨g.1.1,g.1.2,none⟩=some v∧g.2 v)∧
 ∀ g ∈ S.gb,g.1<w.heap.size∧(∀ o, ¬ M g.1 o)∧ ∃ ob,w.heap[g.1]? =some ob∧g.2 ob
theorem jx.at {S:bf} {w0 w:World} {M0 M:St} (hG:jx S w0 M0) (hc:br w0 w M0) (hM: ∀ b o,M b o→w0.heap.size≤b∨M0 b o):jx S w M:=
 ⟨fun g hg=>by
  obtain ⟨g1,g2,v,g3,g4⟩:=hG.1 g hg
  refine ⟨Nat.lt_of_lt_of_le g1 hc.size,fun hm=> ?_,v,(hc.cell g.1.1 g.1.2 g1 g2).trans g3,g4⟩
  rcases hM _ _ hm with h1 | h1
  · exact absurd g1 (Nat.not_lt.2 h1)
  · exact g2 h1,fun g hg=>by
  obtain ⟨g1,g2,v,g3,g4⟩:=hG.2 g hg
  refine ⟨Nat.lt_of_lt_of_le g1 hc.size,fun o hm=> ?_,v,(hc.same g.1 g1 g2).trans g3,g4⟩
  rcases hM _ _ hm with h1 | h1
  · exact absurd g1 (Nat.not_lt.2 h1)
  · exact g2 o h1⟩
def IE (w:World):Prop:=jx S w (fun _ _=>False)
def nE (w:World) (s:St) (a r:List Ty) (g:av S.C a→Option (av S.C r)) (v:Value):Prop:=
 ∃ f first cap,v= .func (.func f) first cap∧jZ P f∧ ∀ w1 s1,b7 w s w1 s1→IE S w1→ ∀ x args y,gk S w1 s1 a x args→g x=some y→
  Calls P f (first++args.toArray++cap) w1 fun e w'=> ∃ us,e= .returned (l7 us)∧br w1 w' (fun _ _=>False)∧gk S w' (grown s1 w1 w') r y us
theorem nE.mono {w w':World} {s s':St} (hl:b7 w s w' s') {a r:List Ty} {g:av S.C a→Option (av S.C r)} {v:Value} (h:nE P S w s a r g v):nE P S w' s' a r g v:=by
 obtain ⟨f,first,cap,hv,hf,h⟩:=h
 exact ⟨f,first,cap,hv,hf,fun w1 s1 cv=>h w1 s1 (hl.trans cv)⟩
def nG (w:World) (s:St) (t:Ty) (x:t.den S.C) (v:Value):Prop:=
 ∃ b o ds,v= .pointer (some ⟨b,o,none⟩)∧At w s b o ds∧ds.length=Ty.sz S t∧ ∃ n,aJ S w s n t x ds
theorem nG.mono {w w':World} {s s':St} (hl:b7 w s w' s') {t:Ty} {x:t.den S.C} {v:Value} (h:nG S w s t x v):nG S w' s' t x v:=by
 obtain ⟨b,o,ds,hv,cN,hd,n,hr⟩:=h
 exact ⟨b,o,ds,hv,cN.later hl,hd,n,hr.mono S hl (Nat.le_refl _)⟩
def wB:Bool→Value→Prop
 | true,v=>v= .nilIface
 | false,v=> ∃ t p,v= .iface t p
def bP (w:World) (s:St) (μ:Nat→Loc) (bx:Bx S.C):V S.C→Value→Prop
 | .undef,_=>True
 | .skip,v=>v=Go.undef
 | .d t x,v=>cz S w s t x v
 | .pr p i,v=>v= .bool (@decide p i)
 | .bu b e l,v=>cz S w s (.sl e) l v∧(bx b=some .tail→ ∃ a cap,v= .slice a l.length cap∧IM (μ b) a l.length cap (Ty.sz S e))
 | .aY b,v=>(∃ a n c,v= .slice a n c)∧ ∀ e (l:List (e.den S.C)),(bx b=some (.arr e l)∨bx b=some (.bR e l))→ ∃ a cap,v= .slice a l.length cap∧p7 (μ b) a l.length cap (Ty.sz S e)
 | .pre b n,v=>(∃ a n c,v= .slice a n c)∧ ∀ e (l:List (e.den S.C)),bx b=some (.arr e l)→0≤n∧n.toNat≤l.length∧ ∃ a cap,v= .slice a n.toNat cap∧p7 (μ b) a n.toNat cap (Ty.sz S e)
 | .win b i n,v=>(∃ a n c,v= .slice a n c)∧ ∀ e (l:List (e.den S.C)),bx b=some (.arr e l)→0≤i∧0≤n∧i.toNat+n.toNat≤l.length∧ ∃ a cap,v= .slice a n.toNat cap∧n.toNat≤cap∧(n.toNat=0∨a=some ⟨(μ b).b,(μ b).o+i.toNat*Ty.sz S e,none⟩)
 | .ptr b off,v=>v= .pointer (some ⟨(μ b).b,(μ b).o+off,none⟩)
 | .split b c,v=> ∃ k q,v= .pointer (some ⟨k,q,none⟩)∧At w s k q [.pointer (some ⟨(μ c).b,(μ c).o,none⟩)]∧(μ b).b=k∧(μ b).o=q+1
 | .mY c,v=> ∃ k q,v= .pointer (some ⟨k,q,none⟩)∧At w s k q [.pointer (some ⟨(μ c).b,(μ c).o,none⟩)]
 | .cD b n,v=>v= .slice (some ⟨(μ b).b,(μ b).o,none⟩) n n
 | .fH b i off,v=>(∃ p,v= .pointer (some p))∧ ∀ e (l:List (e.den S.C)),(bx b=some (.arr e l)∨bx b=some (.bR e l))→0≤i∧i.toNat<l.length∧v= .pointer (some ⟨(μ b).b,(μ b).o+i.toNat*Ty.sz S e+off,none⟩)
 | .dF t x,v=>nG S w s t x v
 | .nil,v=>v= .pointer none
 | .err b,v=>wB b v
 | .cH,v=>v= .slice none 0 0
 | .fv a r g,v=>nE P S w s a r g v
 | .fT _ _,_=>False
 | .agg _ _,_=>False
 | .jw _,_=>False
def aO (w:World) (s:St) (μ:Nat→Loc) (bx:Bx S.C):List (V S.C)→List Value→Prop
 | [],cs=>cs= []
 | v::vs,cs=> ∃ c r,cs=c::r∧bP P S w s μ bx v c∧aO w s μ bx vs r
def RV (w:World) (s:St) (μ:Nat→Loc) (bx:Bx S.C):V S.C→Value→Prop
 | .agg u vs,v=> ∃ cs:Array Value,v= .agg cs∧vs.length=(S.F u).length∧vs.all (bW S)=true∧aO P S w s μ bx vs cs.toList
 | .jw vs,v=> ∃ us,v= .tuple us∧aO P S w s μ bx vs us.toList
 | .fT f vs,v=> ∃ cs:Array Value,v= .func (.func f) #[] cs∧aO P S w s μ bx vs cs.toList
 | v,c=>bP P S w s μ bx v c
def live (bx:Bx S.C) (i:Nat):Prop:=match bx i with
 | some (.cells _) | some (.arr _ _) | some .tail | some (.bn _) | some (.buf _)=>True
 | _=>False
def fG (L:Loc) (n:Nat):Value:= .slice (if L.nil then none else some ⟨L.b,0,none⟩) n L.cap
def wk (w:World) (b:Nat) (v:Value):Prop:=
 ∃ T e p,S.bt=some (T,e)∧w.heap[b]? =some (.cells #[p,v] T (0,0))∧(p= .pointer none∨p= .pointer (some ⟨b,0,none⟩))
def nD (w:World) (L:Loc) (l:List UInt8):Prop:=
 L.o=0∧L.n=L.cap∧(L.nil=true→L.cap=0)∧ ∃ T e,S.bt=some (T,e)∧w.ownsRowF 0 e 1 (fG L l.length) l.length (Lib.byteCells l)
def RB (w:World) (s:St) (μ:Nat→Loc) (bx:Bx S.C) (L:Loc):dX S.C→Prop
 | .cells vs=>vs.all (bW S)=true∧L.n=vs.length∧w.there L.b L.o L.n∧ ∃ cs,w.rangeAt L.b L.o cs∧aO P S w s μ bx vs cs
 | .bX vs=>vs.all (bW S)=true∧ ∃ cs,At w s L.b L.o cs∧aO P S w s μ bx vs cs
 | .arr e l=>L.n=L.cap*Ty.sz S e∧(L.nil=true→L.cap=0)∧l.length≤L.cap∧w.there L.b L.o L.n∧
  ∀ i x,l[i]? =some x→ ∃ ds,ds.length=Ty.sz S e∧w.rangeAt L.b (L.o+i*Ty.sz S e) ds∧ ∃ n,aJ S w s n e x ds
 | .bR e l=>(L.nil=true→L.cap=0)∧l.length≤L.cap∧
  ∀ i x,l[i]? =some x→ ∃ ds,ds.length=Ty.sz S e∧At w s L.b (L.o+i*Ty.sz S e) ds∧ ∃ n,aJ S w s n e x ds
 | .tail=>w.there L.b L.o L.n
 | .dead=>True
 | .bn j=>L.o=0∧L.n=2∧bx j≠none∧ ∃ v,wk S w L.b v∧ ∀ l,bx j=some (.buf l)→v=fG (μ j) l.length
 | .buf l=>nD S w L l
end
end Go.Sy
namespace Go.Sy
section
variable (P:Program) (S:bf)
theorem aZ {α:Type} (f:Nat→α) (k:Nat) (v:α):az f k v k=v:=by
 unfold az
 rw [show Nat.beq k k=true from Nat.beq_refl k]; rfl
theorem bA {α:Type} (f:Nat→α) {k i:Nat} (v:α) (h:i≠k):az f k v i=f i:=by
 unfold az
 cases e:Nat.beq i k with
 | true=>exact absurd (Nat.eq_of_beq_eq_true e) h
 | false=>rfl
def cL (m m':Loc):dX S.C→dX S.C→Prop
 | .cells _, .cells _=>m'=m
 | .cells _, .bX _=>m'=m
 | .bX _, .bX _=>m'=m
 | .arr e l, .arr e' l'=>m'=m∧e'=e∧l'.length=l.length
 | .arr e l, .bR e' l'=>m'=m∧e'=e∧l'.length=l.length
 | .bR e l, .bR e' l'=>m'=m∧e'=e∧l'.length=l.length
 | .tail, .tail=>m'=m
 | .bn _, .bn _=>m'=m
 | .cells _, .bn _=>m'=m
 | .bn _, .cells _=>m'=m
 | .buf l, .buf l'=>m'=m∧l'.length=l.length
 | _, .dead=>m'=m
 | _,_=>False
def sQ:dX S.C→Prop
 | .cells _ | .bn _=>True
 | _=>False
theorem Rq {m m':Loc} {B B':dX S.C} (h:sQ S B) (h':sQ S B') (e:m'=m):cL S m m' B B':=by
 cases B <;> first | exact h.elim | (cases B' <;> first | exact h'.elim | exact e)
theorem cL.refl (m:Loc) (B:dX S.C):cL S m m B B:=by cases B <;> simp [cL]
def aN (w0:World) (M0 s0:St) (bx:Bx S.C) (μ:Nat→Loc) (w:World):St:=
 fun b o=>b<w.heap.size∧(s0 b o∨M0 b o∨w0.heap.size≤b)∧ ∀ i,live S bx i→ ¬ (μ i).aM b o
structure Inv (w0:World) (M0 s0:St) (dq:List Deferred) (env:Env S.C) (a:Act) (w:World) (μ:Nat→Loc):Prop where
 kJ: ∀ t,RV P S w (aN S w0 M0 s0 env.bx μ w) μ env.bx (env.tm t) (a.tmps.getD t Go.undef)
 cm: ∀ i B,env.bx i=some B→RB P S w (aN S w0 M0 s0 env.bx μ w) μ env.bx (μ i) B
 dB: ∀ i j,i≠j→live S env.bx i→live S env.bx j→ ∀ b o,(μ i).aM b o→(μ j).aM b o→False
 own: ∀ i,live S env.bx i→ ∀ b o,(μ i).aM b o→w0.heap.size≤b∨M0 b o
 ref: ∀ t i,i ∈ aH S (env.tm t)→env.bx i≠none
 l5: ∀ i vs,(env.bx i=some (.cells vs)∨env.bx i=some (.bX vs))→ ∀ v ∈ vs, ∀ j ∈ aF S v,env.bx j≠none
 i_:br w0 w M0
 ue:a.defers=cond env.df dq []
 rV:jx S w0 M0
theorem bP.step {w w':World} {s s':St} {μ μ':Nat→Loc} {bx aq:Bx S.C} (hl:b7 w s w' s')
 (hc: ∀ i B0,bx i=some B0→ ∃ B,aq i=some B∧cL S (μ i) (μ' i) B0 B) {V:V S.C} {v:Value}
 (hr: ∀ i ∈ aF S V,bx i≠none) (h:bP P S w s μ bx V v):bP P S w' s' μ' aq V v:=by
 cases V with
 | undef=>trivial
 | skip=>exact h
 | d t x=>exact cz.mono S hl h
 | pr p i=>exact h
 | bu b e l=>
  refine ⟨cz.mono S hl h.1,fun hb=> ?_⟩
  obtain ⟨B0,bV⟩:=Option.ne_none_iff_exists'.1 (hr b (by simp [aF]))
  obtain ⟨B,hB,cG⟩:=hc b B0 bV
  rw [hb] at hB
  obtain rfl:=Option.some.inj hB
  cases B0 <;> simp only [cL] at cG
  rw [cG]
  exact h.2 bV
 | aY b=>
  refine ⟨h.1,fun e l hb=> ?_⟩
  replace h:=h.2
  obtain ⟨B0,bV⟩:=Option.ne_none_iff_exists'.1 (hr b (by simp [aF]))
  obtain ⟨B,hB,cG⟩:=hc b B0 bV
  rcases hb with hb | hb <;>
  · rw [hb] at hB
    obtain rfl:=Option.some.inj hB
    cases B0 <;> simp only [cL] at cG
    all_goals
     obtain ⟨hm,rfl,hlen⟩:=cG
     rw [hm,hlen]
     first
     | exact h _ _ (.inl bV)
     | exact h _ _ (.inr bV)
 | pre b n=>
  refine ⟨h.1,fun e l hb=> ?_⟩
  replace h:=h.2
  obtain ⟨B0,bV⟩:=Option.ne_none_iff_exists'.1 (hr b (by simp [aF]))
  obtain ⟨B,hB,cG⟩:=hc b B0 bV
  rw [hb] at hB
  obtain rfl:=Option.some.inj hB
  cases B0 <;> simp only [cL] at cG
  obtain ⟨hm,rfl,hlen⟩:=cG
  rw [hm,hlen]
  exact h _ _ bV
 | win b i n=>
  refine ⟨h.1,fun e l hb=> ?_⟩
  replace h:=h.2
  obtain ⟨B0,bV⟩:=Option.ne_none_iff_exists'.1 (hr b (by simp [aF]))
  obtain ⟨B,hB,cG⟩:=hc b B0 bV
  rw [hb] at hB
  obtain rfl:=Option.some.inj hB
  cases B0 <;> simp only [cL] at cG
  obtain ⟨hm,rfl,hlen⟩:=cG
  rw [hm,hlen]
  exact h _ _ bV
 | ptr b off=>
  obtain ⟨B0,bV⟩:=Option.ne_none_iff_exists'.1 (hr b (by simp [aF]))
  obtain ⟨B,hB,cG⟩:=hc b B0 bV
  have hm:μ' b=μ b:=by
   cases B0 <;> cases B <;> simp only [cL] at cG <;> first | exact cG | exact cG.1
  show v=_
  rw [hm]
  exact h
 | cD b n=>
  obtain ⟨B0,bV⟩:=Option.ne_none_iff_exists'.1 (hr b (by simp [aF]))
  obtain ⟨B,hB,cG⟩:=hc b B0 bV
  have hm:μ' b=μ b:=by
   cases B0 <;> cases B <;> simp only [cL] at cG <;> first | exact cG | exact cG.1
  show v=_
  rw [hm]
  exact h
 | split b c=>
  have hm: ∀ i ∈ [b,c],μ' i=μ i:=fun i hb=>by
   obtain ⟨B0,bV⟩:=Option.ne_none_iff_exists'.1 (hr i hb)
   obtain ⟨B,hB,cG⟩:=hc i B0 bV
   cases B0 <;> cases B <;> simp only [cL] at cG <;> first | exact cG | exact cG.1
  obtain ⟨k,q,h1,h2,h3,h4⟩:=h
  rw [← hm c (by simp)] at h2
  rw [← hm b (by simp)] at h3 h4
  exact ⟨k,q,h1,h2.later hl,h3,h4⟩
 | mY c=>
  have hm:μ' c=μ c:=by
   obtain ⟨B0,bV⟩:=Option.ne_none_iff_exists'.1 (hr c (by simp [aF]))
   obtain ⟨B,hB,cG⟩:=hc c B0 bV
   cases B0 <;> cases B <;> simp only [cL] at cG <;> first | exact cG | exact cG.1
  obtain ⟨k,q,h1,h2⟩:=h
  rw [← hm] at h2
  exact ⟨k,q,h1,h2.later hl⟩
 | fH b i off=>
  refine ⟨h.1,fun e l hb=> ?_⟩
  replace h:=h.2
  obtain ⟨B0,bV⟩:=Option.ne_none_iff_exists'.1 (hr b (by simp [aF]))
  obtain ⟨B,hB,cG⟩:=hc b B0 bV
  rcases hb with hb | hb <;>
  · rw [hb] at hB
    obtain rfl:=Option.some.inj hB
    cases B0 <;> simp only [cL] at cG
    all_goals
     obtain ⟨hm,rfl,hlen⟩:=cG
     rw [hm,hlen]
     first
     | exact h _ _ (.inl bV)
     | exact h _ _ (.inr bV)
 | dF t x=>exact nG.mono S hl h
 | nil=>exact h
 | err b=>exact h
 | cH=>exact h
 | fv a r g=>exact nE.mono P S hl h
 | fT f vs=>exact h.elim
 | agg u vs=>exact h.elim
 | jw vs=>exact h.elim
theorem aO.step {w w':World} {s s':St} {μ μ':Nat→Loc} {bx aq:Bx S.C} (hl:b7 w s w' s')
 (hc: ∀ i B0,bx i=some B0→ ∃ B,aq i=some B∧cL S (μ i) (μ' i) B0 B): ∀ {vs:List (V S.C)} {cs:List Value},
 (∀ v ∈ vs, ∀ i ∈ aF S v,bx i≠none)→aO P S w s μ bx vs cs→aO P S w' s' μ' aq vs cs
 | [],_,_,h=>h
 | v::vs,_,hr,⟨c,r,h1,h2,h3⟩=>⟨c,r,h1,bP.step P S hl hc (hr v (by simp)) h2,aO.step hl hc (fun v hv=>hr v (by simp [hv])) h3⟩
theorem RV.step {w w':World} {s s':St} {μ μ':Nat→Loc} {bx aq:Bx S.C} (hl:b7 w s w' s')
 (hc: ∀ i B0,bx i=some B0→ ∃ B,aq i=some B∧cL S (μ i) (μ' i) B0 B) {V:V S.C} {v:Value}
 (hr: ∀ i ∈ aH S V,bx i≠none) (h:RV P S w s μ bx V v):RV P S w' s' μ' aq V v:=by
 cases V with
 | agg u vs=>
  obtain ⟨cs,h1,h2,h3,h4⟩:=h
  exact ⟨cs,h1,h2,h3,aO.step P S hl hc (fun v hv i hi=>hr i (by simp only [aH,List.mem_flatMap]; exact ⟨v,hv,hi⟩)) h4⟩
 | jw vs=>
  obtain ⟨cs,h1,h4⟩:=h
  exact ⟨cs,h1,aO.step P S hl hc (fun v hv i hi=>hr i (by simp only [aH,List.mem_flatMap]; exact ⟨v,hv,hi⟩)) h4⟩
 | fT f vs=>
  obtain ⟨cs,h1,h4⟩:=h
  exact ⟨cs,h1,aO.step P S hl hc (fun v hv i hi=>hr i (by simp only [aH,List.mem_flatMap]; exact ⟨v,hv,hi⟩)) h4⟩
 | undef=>exact trivial
 | skip=>exact bP.step P S hl hc (V:= .skip) hr h
 | d t x=>exact bP.step P S hl hc (V:= .d t x) hr h
 | pr p i=>exact bP.step P S hl hc (V:= .pr p i) hr h
 | bu b e l=>exact bP.step P S hl hc (V:= .bu b e l) hr h
 | aY b=>exact bP.step P S hl hc (V:= .aY b) hr h
 | pre b n=>exact bP.step P S hl hc (V:= .pre b n) hr h
 | win b i n=>exact bP.step P S hl hc (V:= .win b i n) hr h
 | ptr b off=>exact bP.step P S hl hc (V:= .ptr b off) hr h
 | cD b n=>exact bP.step P S hl hc (V:= .cD b n) hr h
 | split b c=>exact bP.step P S hl hc (V:= .split b c) hr h
 | mY c=>exact bP.step P S hl hc (V:= .mY c) hr h
 | fH b i off=>exact bP.step P S hl hc (V:= .fH b i off) hr h
 | dF t x=>exact bP.step P S hl hc (V:= .dF t x) hr h
 | nil=>exact bP.step P S hl hc (V:= .nil) hr h
 | err b=>exact bP.step P S hl hc (V:= .err b) hr h
 | cH=>exact bP.step P S hl hc (V:= .cH) hr h
 | fv a r g=>exact bP.step P S hl hc (V:= .fv a r g) hr h
theorem aO.length {w:World} {s:St} {μ:Nat→Loc} {bx:Bx S.C} : ∀ {vs:List (V S.C)} {cs:List Value},aO P S w s μ bx vs cs→cs.length=vs.length
 | [],_,h=>by cases h; rfl
 | _::_,_,⟨c,r,h1,_,h3⟩=>by subst h1; simp [aO.length h3]
theorem aO.append {w:World} {s:St} {μ:Nat→Loc} {bx:Bx S.C} : ∀ {vs ws:List (V S.C)} {cs ds:List Value},aO P S w s μ bx vs cs→aO P S w s μ bx ws ds→aO P S w s μ bx (vs++ws) (cs++ds)
 | [],_,_,_,h,h'=>by cases h; exact h'
 | _::_,_,_,ds,⟨c,r,h1,h2,h3⟩,h'=>⟨c,r++ds,by simp [h1],h2,aO.append h3 h'⟩
theorem aO.take {w:World} {s:St} {μ:Nat→Loc} {bx:Bx S.C} : ∀ (n:Nat) {vs:List (V S.C)} {cs:List Value},aO P S w s μ bx vs cs→aO P S w s μ bx (vs.take n) (cs.take n)
 | 0,_,_,_=>by simp [aO]
 | _+1,[],_,h=>by cases h; simp [aO]
 | n+1,_::_,_,⟨c,r,h1,h2,h3⟩=>⟨c,r.take n,by simp [h1],h2,aO.take n h3⟩
theorem aO.drop {w:World} {s:St} {μ:Nat→Loc} {bx:Bx S.C} : ∀ (n:Nat) {vs:List (V S.C)} {cs:List Value},aO P S w s μ bx vs cs→aO P S w s μ bx (vs.drop n) (cs.drop n)
 | 0,_,_,h=>h
 | _+1,[],_,h=>by cases h; simp [aO]
 | n+1,_::_,_,⟨c,r,h1,h2,h3⟩=>by subst h1; exact aO.drop n h3
theorem aO.get {w:World} {s:St} {μ:Nat→Loc} {bx:Bx S.C} : ∀ {vs:List (V S.C)} {cs:List Value} (n:Nat) {v:V S.C},aO P S w s μ bx vs cs→vs[n]? =some v→ ∃ c,cs[n]? =some c∧bP P S w s μ bx v c
 | [],_,_,_,_,hv=>by simp at hv
 | _::_,_,0,_,⟨c,r,h1,h2,h3⟩,hv=>by subst h1; simp at hv; subst hv; exact ⟨c,by simp,h2⟩
 | _::_,_,n+1,_,⟨c,r,h1,h2,h3⟩,hv=>by
  subst h1
  obtain ⟨c',iH,hr⟩:=aO.get n h3 (by simpa using hv)
  exact ⟨c',by simpa using iH,hr⟩
theorem rN {w:World} {b o:Nat} {cs:Array Value} {T:TypeId} {fz:Nat×Nat} (h:w.heap[b]? =some (.cells cs T fz)):(w.cell? ⟨b,o,none⟩).isSome=true↔o<cs.size:=by
 rw [Lib.cell_of_heap h]; simp
theorem wk.cells {w:World} {b:Nat} {v:Value} (h:wk S w b v) {o:Nat} :(w.cell? ⟨b,o,none⟩).isSome=true↔o<2:=by
 obtain ⟨T,e,p,_,h,_⟩:=h
 exact rN h
theorem nD.row {w:World} {L:Loc} {l:List UInt8} (h:nD S w L l):L.n=0∧L.nil=true∧l= []∨ ∃ T e cur fz,S.bt=some (T,e)∧w.heap[L.b]? =some (.cells cur e fz)∧cur.size=L.n∧L.nil=false:=by
 obtain ⟨h1,h2,h3,T,e,h4,h5,h6⟩:=h
 rcases h6 with ⟨h6,h7⟩ | ⟨g,cap,cur,fz,h6, -,h7, -, -, -,h8, -⟩
 · unfold fG at h6
   simp only [Value.slice.injEq] at h6
   obtain ⟨h6,_,h8⟩:=h6
   refine .inl ⟨by omega, ?_,List.length_eq_zero_iff.1 h7⟩
   cases hn:L.nil with
   | true=>rfl
   | false=>rw [hn] at h6; simp at h6
 · unfold fG at h6
   simp only [Value.slice.injEq] at h6
   obtain ⟨h6,_,h9⟩:=h6
   cases hn:L.nil with
   | true=>rw [hn] at h6; simp at h6
   | false=>
    rw [hn] at h6
    simp at h6
    subst h6
    exact .inr ⟨T,e,cur,fz,h4,h7,by omega,rfl⟩
theorem mW {w:World} {s:St} {μ:Nat→Loc} {bx:Bx S.C} {i:Nat} (h: ∀ B,bx i=some B→RB P S w s μ bx (μ i) B) (hi:live S bx i) {b o:Nat} (hf:(μ i).aM b o):
 b<w.heap.size∧(w.cell? ⟨b,o,none⟩).isSome=true:=by
 have key:w.there (μ i).b (μ i).o (μ i).n→b<w.heap.size∧(w.cell? ⟨b,o,none⟩).isSome=true:=fun ht=>by
  obtain ⟨rfl,h1,h2⟩:=hf
  have :=(ht (o - (μ i).o) (by omega)).1
  rw [show (μ i).o+(o - (μ i).o)=o from by omega] at this
  obtain ⟨v,hv⟩:=Option.isSome_iff_exists.1 this
  exact ⟨World.block_lt_of_cell? w _ hv,this⟩
 unfold live at hi
 split at hi
 · rename_i vs hb; exact key (h _ hb).2.2.1
 · rename_i e l hb; exact key (h _ hb).2.2.2.1
 · rename_i hb; exact key (h _ hb)
 · rename_i j hb
   obtain ⟨h1,h2,_,v,h3,_⟩:=h _ hb
   obtain ⟨rfl,h4,h5⟩:=hf
   have :=(h3.cells S (o:=o)).2 (by omega)
   obtain ⟨v,hv⟩:=Option.isSome_iff_exists.1 this
   exact ⟨World.block_lt_of_cell? w _ hv,this⟩
 · rename_i l hb
   obtain ⟨rfl,h4,h5⟩:=hf
   have h1:nD S w (μ i) l:=h _ hb
   rcases h1.row with ⟨h2, -⟩ | ⟨T,e,cur,fz, -,h2,h3, -⟩
   · omega
   · have :=(rN (o:=o) h2).2 (by have :=h1.1; omega)
     obtain ⟨v,hv⟩:=Option.isSome_iff_exists.1 this
     exact ⟨World.block_lt_of_cell? w _ hv,this⟩
 · exact hi.elim
theorem eM {bx aq:Bx S.C} {i:Nat} (h:aq i=bx i):live S aq i↔live S bx i:=by unfold live; rw [h]
variable {P S}
theorem Inv.later {w0:World} {M0 s0:St} {dq:List Deferred} {env:Env S.C} {a:Act} {w:World} {μ:Nat→Loc} (h:Inv P S w0 M0 s0 dq env a w μ)
 {w':World} {T:St} {aq:Bx S.C} {μ':Nat→Loc} {U:Nat→Prop} (hw:br w w' T)
 (hT: ∀ b o,T b o→b<w.heap.size→ ∃ i,U i∧live S env.bx i∧(μ i).aM b o)
 (hU: ∀ i, ¬ U i→aq i=env.bx i∧μ' i=μ i)
 (hf: ∀ i,U i→live S aq i→ ∀ b o,(μ' i).aM b o→w.heap.size≤b∨ ∃ j,U j∧live S env.bx j∧(μ j).aM b o):
 b7 w (aN S w0 M0 s0 env.bx μ w) w' (aN S w0 M0 s0 aq μ' w'):=by
 intro b o ⟨h1,h2,h3⟩
 refine ⟨⟨Nat.lt_of_lt_of_le h1 hw.size,h2,fun i hi hfo=> ?_⟩, ?_⟩
 · by_cases hu:U i
   · rcases hf i hu hi b o hfo with hlt | ⟨j,_,hj,Tw⟩
     · omega
     · exact h3 j hj Tw
   · rw [eM S (hU i hu).1] at hi
     rw [(hU i hu).2] at hfo
     exact h3 i hi hfo
 · exact hw.cell b o h1 fun ht=>by
    obtain ⟨i,_,hi,hfo⟩:=hT b o ht h1
    exact h3 i hi hfo
theorem Inv.step {w0:World} {M0 s0:St} {dq:List Deferred} {env:Env S.C} {a:Act} {w:World} {μ:Nat→Loc} (h:Inv P S w0 M0 s0 dq env a w μ)
 {w':World} {T:St} {aq:Bx S.C} {μ':Nat→Loc} {U:Nat→Prop} (hw:br w w' T)
 (hT: ∀ b o,T b o→b<w.heap.size→ ∃ i,U i∧live S env.bx i∧(μ i).aM b o)
 (hU: ∀ i, ¬ U i→aq i=env.bx i∧μ' i=μ i)
 (hf: ∀ i,U i→live S aq i→ ∀ b o,(μ' i).aM b o→w.heap.size≤b∨ ∃ j,U j∧live S env.bx j∧(μ j).aM b o)
 (hc: ∀ i B0,env.bx i=some B0→ ∃ B,aq i=some B∧cL S (μ i) (μ' i) B0 B)
 (hd: ∀ i j,U i→U j→i≠j→live S aq i→live S aq j→ ∀ b o,(μ' i).aM b o→(μ' j).aM b o→False)
 (hb: ∀ i B,U i→aq i=some B→RB P S w' (aN S w0 M0 s0 aq μ' w') μ' aq (μ' i) B)
 (hr: ∀ i vs,U i→(aq i=some (.cells vs)∨aq i=some (.bX vs))→ ∀ v ∈ vs, ∀ j ∈ aF S v,aq j≠none):
 Inv P S w0 M0 s0 dq { env with bx:=aq } a w' μ':=by
 have hl:=h.later hw hT hU hf
 have hne: ∀ i,env.bx i≠none→aq i≠none:=fun i hi=>by
  obtain ⟨B0,bV⟩:=Option.ne_none_iff_exists'.1 hi
  obtain ⟨B,hB,_⟩:=hc i B0 bV
  rw [hB]; simp
 have KS: ∀ i j, ¬ U i→U j→live S aq i→live S aq j→ ∀ b o,(μ' i).aM b o→(μ' j).aM b o→False:=by
  intro i j hi hj li lj b o fi fj
  rw [eM S (hU i hi).1] at li
  rw [(hU i hi).2] at fi
  rcases hf j hj lj b o fj with hlt | ⟨k,hk,lk,fk⟩
  · exact absurd (mW P S (h.cm i) li fi).1 (by omega)
  · exact h.dB i k (fun e=>hi (e▸hk)) li lk b o fi fk
 refine ⟨fun t=>RV.step P S hl hc (h.ref t) (h.kJ t), ?_, ?_, ?_,fun t i hi=>hne i (h.ref t i hi), ?_, ?_,h.ue,h.rV⟩
 · intro i B hB
   by_cases hu:U i
   · exact hb i B hu hB
   · have iF:env.bx i=some B:=(hU i hu).1▸hB
     have hold:=h.cm i B iF
     rw [(hU i hu).2]
     have hcell:live S env.bx i→ ∀ o,(μ i).aM (μ i).b o→w'.cell? ⟨(μ i).b,o,none⟩=w.cell? ⟨(μ i).b,o,none⟩∧w'.frozen? ⟨(μ i).b,o,none⟩=w.frozen? ⟨(μ i).b,o,none⟩:=fun li o fo=>by
      have hlt:=(mW P S (h.cm i) li fo).1
      exact ⟨hw.cell _ _ hlt fun ht=>by
       obtain ⟨j,uj,lj,fj⟩:=hT _ _ ht hlt
       exact h.dB i j (fun e=>hu (e▸uj)) li lj _ _ fo fj,hw.Ag _ _ hlt fun ht=>by
       obtain ⟨j,uj,lj,fj⟩:=hT _ _ ht hlt
       exact h.dB i j (fun e=>hu (e▸uj)) li lj _ _ fo fj⟩
     have mQ:live S env.bx i→(∀ o,(w.cell? ⟨(μ i).b,o,none⟩).isSome=true→(μ i).aM (μ i).b o)→(μ i).b<w.heap.size→w'.heap[(μ i).b]? =w.heap[(μ i).b]? :=fun li hin hlt=>
      hw.same _ hlt fun o ht=>by
       obtain ⟨j,uj,lj,fj⟩:=hT _ _ ht hlt
       exact h.dB i j (fun e=>hu (e▸uj)) li lj _ _ (hin o (mW P S (h.cm j) lj fj).2) fj
     have xG:live S env.bx i→w.there (μ i).b (μ i).o (μ i).n→w'.there (μ i).b (μ i).o (μ i).n:=fun li ht j hj=>by
      obtain ⟨c1,c2⟩:=hcell li ((μ i).o+j) ⟨rfl,by omega,by omega⟩
      rw [c1,c2]; exact ht j hj
     have Ln:live S env.bx i→ ∀ o cs,(μ i).o≤o→o+cs.length≤(μ i).o+(μ i).n→w.rangeAt (μ i).b o cs→w'.rangeAt (μ i).b o cs:=fun li o cs h1 h2 dG j v hj=>by
      have hjl:=(List.getElem?_eq_some_iff.1 hj).1
      rw [(hcell li (o+j) ⟨rfl,by omega,by omega⟩).1]
      exact dG j v hj
     cases B with
     | cells vs=>
      have li:live S env.bx i:=by unfold live; rw [iF]; trivial
      obtain ⟨h1,h2,h3,cs,h4,h5⟩:=hold
      have hlen:=aO.length P S h5
      exact ⟨h1,h2,xG li h3,cs,Ln li _ _ (Nat.le_refl _) (by omega) h4,aO.step P S hl hc (h.l5 i vs (.inl iF)) h5⟩
     | bX vs=>
      obtain ⟨h1,cs,h4,h5⟩:=hold
      exact ⟨h1,cs,h4.later hl,aO.step P S hl hc (h.l5 i vs (.inr iF)) h5⟩
     | arr e l=>
      have li:live S env.bx i:=by unfold live; rw [iF]; trivial
      obtain ⟨h1,h2,h3,h4,h5⟩:=hold
      refine ⟨h1,h2,h3,xG li h4,fun k x hk=> ?_⟩
      obtain ⟨ds,hds,dG,n,gw⟩:=h5 k x hk
      have hkl:=(List.getElem?_eq_some_iff.1 hk).1
      refine ⟨ds,hds,Ln li _ _ (by omega) ?_ dG,n,gw.mono S hl (Nat.le_refl _)⟩
      have :(k+1)*Ty.sz S e≤(μ i).cap*Ty.sz S e:=Nat.mul_le_mul_right _ (by omega)
      rw [Nat.add_mul,Nat.one_mul] at this
      omega
     | bR e l=>
      obtain ⟨h2,h3,h5⟩:=hold
      refine ⟨h2,h3,fun k x hk=> ?_⟩
      obtain ⟨ds,hds,dG,n,gw⟩:=h5 k x hk
      exact ⟨ds,hds,dG.later hl,n,gw.mono S hl (Nat.le_refl _)⟩
     | tail=>
      have li:live S env.bx i:=by unfold live; rw [iF]; trivial
      exact xG li hold
     | dead=>trivial
     | bn k=>
      have li:live S env.bx i:=by unfold live; rw [iF]; trivial
      obtain ⟨h1,h2,h3,v,h4,h5⟩:=hold
      have hlt:(μ i).b<w.heap.size:=by
       obtain ⟨v,hv⟩:=Option.isSome_iff_exists.1 ((h4.cells S (o:=0)).2 (by omega))
       exact World.block_lt_of_cell? w _ hv
      have hb:=mQ li (fun o ho=>by have :=(h4.cells S).1 ho; exact ⟨rfl,by omega,by omega⟩) hlt
      refine ⟨h1,h2,hne k h3,v, ?_,fun l hl'=> ?_⟩
      · obtain ⟨T,e,p,q1,q2,q3⟩:=h4
        exact ⟨T,e,p,q1,hb.trans q2,q3⟩
      · obtain ⟨B0,bV⟩:=Option.ne_none_iff_exists'.1 h3
        obtain ⟨B1,lG,cG⟩:=hc k B0 bV
        have hl':aq k=some (.buf l):=hl'
        rw [hl'] at lG
        cases lG
        cases B0 <;> simp only [cL] at cG
        obtain ⟨hm,hlen⟩:=cG
        rw [hm,hlen]
        exact h5 _ bV
     | buf l=>
      have li:live S env.bx i:=by unfold live; rw [iF]; trivial
      have hold:nD S w (μ i) l:=hold
      rcases hold.row with ⟨q1,q2,q3⟩ | ⟨T,e,cur,fz,q1,q2,q3,q4⟩
      · obtain ⟨r1,r2,r3,T,e,r4,r5⟩:=hold
        refine ⟨r1,r2,r3,T,e,r4, ?_⟩
        subst q3
        have hv:fG (μ i) ([]:List UInt8).length= .slice none 0 0:=by unfold fG; rw [q2,r3 q2]; rfl
        rw [hv]
        exact World.ownsRowF_nil ..
      · have hlt:(μ i).b<w.heap.size:=(Array.getElem?_eq_some_iff.1 q2).1
        have hb:=mQ li (fun o ho=>by have :=(rN q2).1 ho; exact ⟨rfl,by have :=hold.1; omega,by have :=hold.1; omega⟩) hlt
        obtain ⟨r1,r2,r3,T',e',r4,r5,r6⟩:=hold
        refine ⟨r1,r2,r3,T',e',r4,r5, ?_⟩
        rcases r6 with r6 | ⟨g,cap,cur',mP,r6,r7,r8,r9⟩
        · exact .inl r6
        · have hg:g=(μ i).b:=by
           unfold fG at r6
           rw [q4] at r6
           simp at r6
           exact r6.1.symm
          subst hg
          exact .inr ⟨_,cap,cur',mP,r6,r7,hb.trans r8,r9⟩
 · intro i j hij li lj b o fi fj
   by_cases hi:U i
   · by_cases hj:U j
     · exact hd i j hi hj hij li lj b o fi fj
     · exact KS j i hj hi lj li b o fj fi
   · by_cases hj:U j
     · exact KS i j hi hj li lj b o fi fj
     · have l1:=(eM S (hU i hi).1).1 li
       have l2:=(eM S (hU j hj).1).1 lj
       rw [(hU i hi).2] at fi
       rw [(hU j hj).2] at fj
       exact h.dB i j hij l1 l2 b o fi fj
 · intro i li b o fi
   by_cases hi:U i
   · rcases hf i hi li b o fi with hlt | ⟨j,_,lj,fj⟩
     · exact .inl (Nat.le_trans h.i_.size hlt)
     · exact h.own j lj b o fj
   · have l1:=(eM S (hU i hi).1).1 li
     rw [(hU i hi).2] at fi
     exact h.own i l1 b o fi
 · intro i vs hvs v hv j hj
   by_cases hu:U i
   · exact hr i vs hu hvs v hv j hj
   · have xK:aq i=some (.cells vs)∨aq i=some (.bX vs):=hvs
     rw [(hU i hu).1] at xK
     exact hne j (h.l5 i vs xK v hv j hj)
 · refine h.i_.trans hw (fun _ _ h=>h) fun b o hb ht=> ?_
   obtain ⟨i,_,li,fi⟩:=hT b o ht (Nat.lt_of_lt_of_le hb h.i_.size)
   rcases h.own i li b o fi with hlt | hm
   · omega
   · exact hm
theorem Inv.put {w0:World} {M0 s0:St} {dq:List Deferred} {env:Env S.C} {a:Act} {w:World} {μ:Nat→Loc} (h:Inv P S w0 M0 s0 dq env a w μ) {dst:Option Nat} {V:V S.C} {v:Value}
 (hd: ∀ d,dst=some d→d<a.tmps.size) (hv:RV P S w (aN S w0 M0 s0 env.bx μ w) μ env.bx V v) (hr: ∀ i ∈ aH S V,env.bx i≠none):
 Inv P S w0 M0 s0 dq { env with tm:=vQ env.tm dst V } (a.put dst v) w μ:=by
 cases dst with
 | none=>exact h
 | some d=>
  have hlt:=hd d rfl
  refine ⟨fun t=> ?_,h.cm,h.dB,h.own,fun t i hi=> ?_,h.l5,h.i_,h.ue,h.rV⟩
  · show RV P S w _ μ env.bx (az env.tm d V t) ((a.tmps.setIfInBounds d v).getD t Go.undef)
    by_cases e:t=d
    · subst e
      have :(a.tmps.setIfInBounds t v).getD t Go.undef=v:=by simp [Array.getD,hlt]
      rw [this,show az env.tm t V t=V from aZ _ _ _]
      exact hv
    · have :(a.tmps.setIfInBounds d v).getD t Go.undef=a.tmps.getD t Go.undef:=by
       simp [Array.getElem?_setIfInBounds_ne (Ne.symm e)]
      rw [this,show az env.tm d V t=env.tm t from bA _ _ e]
      exact h.kJ t
  · have hi':i ∈ aH S (az env.tm d V t):=hi
    by_cases e:t=d
    · subst e
      rw [show az env.tm t V t=V from aZ _ _ _] at hi'
      exact hr i hi'
    · rw [show az env.tm d V t=env.tm t from bA _ _ e] at hi'
      exact h.ref t i hi'
end
end Go.Sy
namespace Go.Sy
structure cU (S:bf):Prop where
  flat: ∀ u,(S.F u).all (fun t=> !bG t)=true
  ug: ∀ u y,S.ex u (S.im u y)=y
section
variable (P:Program) (S:bf)
def Ph (w:World) (s M:St) (e:Ty) (l:List (e.den S.C)) (cs:List Value):Prop:=
  ∃ a cap L,cs= [.slice a l.length cap]∧p7 L a l.length cap (Ty.sz S e)∧w.there L.b L.o L.n∧(∀ b o,M b o↔L.aM b o)∧
    ∀ (i:Nat) (x:e.den S.C),l[i]? =some x→ ∃ ds,ds.length=Ty.sz S e∧w.rangeAt L.b (L.o+i*Ty.sz S e) ds∧ ∃ n,aJ S w s n e x ds
def PA (w:World) (s M:St) (e:Ty) (l:List (e.den S.C)) (cs:List Value):Prop:=
  ∃ a cap L,cs= [.slice a l.length cap]∧(∃ n,aJ S w s n (.sl e) l cs)∧IM L a l.length cap (Ty.sz S e)∧w.there L.b L.o L.n∧ ∀ b o,M b o↔L.aM b o
def mA (w:World) (s M:St):(c:CK)→c.den S.C→List Value→Prop
  | .data t,x,cs=>iU M∧ ∃ n,aJ S w s n t x cs
  | .bu e,l,cs=>PA S w s M e l cs
  | .aY e,l,cs=>Ph S w s M e l cs
def iT (w:World) (s:St):(M:St)→(cs:List CK)→bO S.C cs→List Value→Prop
  | M,[],_,vs=>iU M∧vs= []
  | M,c::cs,x,vs=> ∃ M1 M2 Dn O0,iV M M1 M2∧vs=Dn++O0∧Dn.length=CK.sz S c∧mA S w s M1 c (bO.head x) Dn∧iT w s M2 cs (bO.tail x) O0
def eH (w:World) (s M:St) (cs:List CK) (x:bO S.C cs) (v:Value):Prop:=
  ∃ b o ds M',v= .pointer (some ⟨b,o,none⟩)∧w.there b o ds.length∧w.rangeAt b o ds∧
    iV M (fun b' o'=>b'=b∧o≤o'∧o'<o+ds.length) M'∧iT S w s M' cs x ds
def Pe (w:World) (s M:St) (cs:List CK) (x:bO S.C cs) (v:Value):Prop:=
  ∃ p,v= .slice (some p) (CK.cB S cs) (CK.cB S cs)∧eH S w s M cs x (.pointer (some p))
def oP (w:World) (M:St) (l:List UInt8) (v:Value):Prop:=
  ∃ b L,v= .pointer (some ⟨b,0,none⟩)∧wk S w b (fG L l.length)∧nD S w L l∧iV M (Loc.mk b 0 2 0 false).aM L.aM
def Pq (w:World) (s M:St) (t:Ty) (cs:List CK) (x:t.den S.C×bO S.C cs) (v:Value):Prop:=
  ∃ b o p M1 M2,v= .pointer (some ⟨b,o,none⟩)∧At w s b o [.pointer (some p)]∧iV M M1 M2∧eH S w s M1 [.data t] x.1 (.pointer (some p))∧eH S w s M2 cs x.2 (.pointer (some ⟨b,o+1,none⟩))
def nF (w:World) (s M:St):(k:K)→k.den S.C→Value→Prop
  | .val c,x,v=>mA S w s M c x v.cells.toList∧isAgg v=(match c with | .data t=>bG t | _=>false)
  | .obj cs,x,v=>eH S w s M cs x v
  | .opt cs,x,v=>match (x:Option (bO S.C cs)) with
    | none=>iU M∧v= .pointer none
    | some y=>eH S w s M cs y v
  | .nil,_,v=>iU M∧v= .pointer none
  | .ro t,x,v=>iU M∧nG S w s t x v
  | .fn a r,g,v=>iU M∧nE P S w s a r g v
  | .cD cs,x,v=>Pe S w s M cs x v
  | .err,x,v=>iU M∧wB x v
  | .bn,x,v=>oP S w M x v
  | .cc t cs,x,v=>Pq S w s M t cs x v
def cl (w:World) (s:St):(M:St)→(ks:List K)→Ks S.C ks→List Value→Prop
  | M,[],_,vs=>iU M∧vs= []
  | M,k::ks,x,vs=> ∃ M1 M2 v r,iV M M1 M2∧vs=v::r∧nF P S w s M1 k (Ks.head x) v∧cl w s M2 ks (Ks.tail x) r
theorem mA.mono {w:World} {s s' M:St} (hl:b7 w s w s') {c:CK} {x:c.den S.C} {cs:List Value} (h:mA S w s M c x cs):mA S w s' M c x cs:=by
  cases c with
  | data t=>exact ⟨h.1,h.2.imp fun _ hn=>hn.mono S hl (Nat.le_refl _)⟩
  | bu e=>
    obtain ⟨a,cap,L,h1,⟨n,h2⟩,h3,h4,h5⟩:=h
    exact ⟨a,cap,L,h1,⟨n,h2.mono S hl (Nat.le_refl _)⟩,h3,h4,h5⟩
  | aY e=>
    obtain ⟨a,cap,L,h1,h2,h3,h4,h5⟩:=h
    refine ⟨a,cap,L,h1,h2,h3,h4,fun i y hi=> ?_⟩
    obtain ⟨ds,d1,d2,n,d3⟩:=h5 i y hi
    exact ⟨ds,d1,d2,n,d3.mono S hl (Nat.le_refl _)⟩
theorem iT.mono {w:World} {s s':St} (hl:b7 w s w s'): ∀ {M:St} {cs:List CK} {x:bO S.C cs} {vs:List Value},iT S w s M cs x vs→iT S w s' M cs x vs
  | _,[],_,_,h=>h
  | _,_::_,_,_,⟨M1,M2,v1,v2,h1,h2,h3,h4,h5⟩=>⟨M1,M2,v1,v2,h1,h2,h3,h4.mono S hl,iT.mono hl h5⟩
theorem eH.mono {w:World} {s s' M:St} (hl:b7 w s w s') {cs:List CK} {x:bO S.C cs} {v:Value} (h:eH S w s M cs x v):eH S w s' M cs x v:=by
  obtain ⟨b,o,ds,M',h1,h2,h3,h4,h5⟩:=h
  exact ⟨b,o,ds,M',h1,h2,h3,h4,h5.mono S hl⟩
theorem nF.mono {w:World} {s s' M:St} (hl:b7 w s w s') {k:K} {x:k.den S.C} {v:Value} (h:nF P S w s M k x v):nF P S w s' M k x v:=by
  cases k with
  | val c=>exact ⟨h.1.mono S hl,h.2⟩
  | obj cs=>exact eH.mono S hl h
  | opt cs=>
    cases x with
    | none=>exact h
    | some y=>exact eH.mono S hl h
  | nil=>exact h
  | ro t=>exact ⟨h.1,h.2.mono S hl⟩
  | fn a r=>exact ⟨h.1,h.2.mono P S hl⟩
  | cD cs=>
    obtain ⟨p,h1,h2⟩:=h
    exact ⟨p,h1,eH.mono S hl h2⟩
  | err=>exact h
  | bn=>exact h
  | cc t cs=>
    obtain ⟨b,o,p,M1,M2,h1,h2,h3,h4,h5⟩:=h
    exact ⟨b,o,p,M1,M2,h1,h2.later hl,h3,eH.mono S hl h4,eH.mono S hl h5⟩
theorem cl.mono {w:World} {s s':St} (hl:b7 w s w s'): ∀ {M:St} {ks:List K} {x:Ks S.C ks} {vs:List Value},cl P S w s M ks x vs→cl P S w s' M ks x vs
  | _,[],_,_,h=>h
  | _,_::_,_,_,⟨M1,M2,v,r,h1,h2,h3,h4⟩=>⟨M1,M2,v,r,h1,h2,h3.mono P S hl,cl.mono hl h4⟩
def iu (w:World) (s:St):(ts:List Ty)→av S.C ts→List Value→Prop
  | [],_,vs=>vs= []
  | t::ts,x,vs=> ∃ v r,vs=v::r∧nG S w s t (av.head x) v∧iu w s ts (av.tail x) r
def gM (e:iw S):Prop:=jZ P e.f∧ ∀ (w:World) (s:St) (x:av S.C e.a) (c:av S.C e.c) (y:av S.C e.r) (args caps:List Value),
  IE S w→gk S w s e.a x args→iu S w s e.c c caps→e.sp x c=some y→
  Calls P e.f (args++caps).toArray w fun en w'=> ∃ us,en= .returned (l7 us)∧br w w' (fun _ _=>False)∧gk S w' (grown s w w') e.r y us
def Tk (bx aq:Bx S.C):Prop:= ∀ i,aq i=bx i∨(aq i=some .dead∧live S bx i)∨ ∃ e l,bx i=some (.arr e l)∧aq i=some (.bR e l)
theorem Tk.refl (bx:Bx S.C):Tk S bx bx:=fun _=> .inl rfl
theorem Tk.trans {bx aq ke:Bx S.C} (h:Tk S bx aq) (h':Tk S aq ke):Tk S bx ke:=by
  intro i
  rcases h' i with e | ⟨e,l⟩ | ⟨e,l,h1,h2⟩
  · rw [e]; exact h i
  · rcases h i with e' | ⟨e',l'⟩ | ⟨e',l',h1,h2⟩
    · exact .inr (.inl ⟨e,(eM S e').1 l⟩)
    · exact .inr (.inl ⟨e,l'⟩)
    · exact .inr (.inl ⟨e,by unfold live; rw [h1]; trivial⟩)
  · rcases h i with e' | ⟨e',l'⟩ | ⟨e',l',h3,h4⟩
    · exact .inr (.inr ⟨e,l,e'▸h1,h2⟩)
    · rw [e'] at h1; cases h1
    · rw [h4] at h1; cases h1
def cC (w0:World) (M0 s0:St) (gp bx:Bx S.C) (μ:Nat→Loc) (w:World):St:=
  fun b o=>b<w.heap.size∧(s0 b o∨M0 b o∨w0.heap.size≤b)∧ ∀ i,live S gp i→(∃ e l,bx i=some (.bR e l))∨ ¬ (μ i).aM b o
theorem oF (w0:World) (M0 s0:St) (gp bx:Bx S.C) (μ:Nat→Loc) (w:World):b7 w (aN S w0 M0 s0 gp μ w) w (cC S w0 M0 s0 gp bx μ w):=
  fun b o ⟨h1,h2,h3⟩=>⟨⟨h1,h2,fun i hi=> .inr (h3 i hi)⟩,rfl⟩
theorem vV {w0:World} {M0 s0:St} {gp bx aq:Bx S.C} {μ:Nat→Loc} {w:World} (h:Tk S bx aq):b7 w (cC S w0 M0 s0 gp bx μ w) w (cC S w0 M0 s0 gp aq μ w):=
  fun b o ⟨h1,h2,h3⟩=>⟨⟨h1,h2,fun i hi=>(h3 i hi).imp (fun ⟨e,l,hb⟩=>by
    rcases h i with e' | ⟨_,l'⟩ | ⟨e',l',h1,_⟩
    · exact ⟨e,l,e'.trans hb⟩
    · unfold live at l'; rw [hb] at l'; exact l'.elim
    · rw [hb] at h1; cases h1) id⟩,rfl⟩
variable {P S}
theorem iu.mono {w w':World} {s s':St} (hl:b7 w s w' s'): ∀ (ts:List Ty) (x:av S.C ts) (vs:List Value),iu S w s ts x vs→iu S w' s' ts x vs
  | [],_,_,h=>h
  | _::ts,_,_,⟨v,r,h1,h2,h3⟩=>⟨v,r,h1,h2.mono S hl,iu.mono hl ts _ _ h3⟩
theorem eK {t u:Ty} {x:t.den S.C} {y:u.den S.C} (h:eP S t u x=some y): ∃ e:t=u,e▸x=y:=by
  unfold eP at h
  split at h
  · rename_i e; exact ⟨e,Option.some.inj h⟩
  · cases h
theorem aJ.mI {t:Ty} {v:Value} (h:isAgg v=bG t) (ht:bG t=false):v.cells.toList= [v]:=by
  rw [ht] at h
  cases v <;> first | rfl | simp [isAgg] at h
theorem Tk.OX {bx:Bx S.C} {b:Nat} {e:Ty} {l:List (e.den S.C)} (h:bx b=some (.arr e l)):Tk S bx (az bx b (some (.bR e l))):=fun i=>by
  by_cases hi:i=b
  · subst hi; exact .inr (.inr ⟨e,l,h,aZ _ _ _⟩)
  · exact .inl (bA _ _ hi)
theorem Tk.v8 {bx:Bx S.C} {b:Nat} (h:live S bx b):Tk S bx (az bx b (some .dead)):=fun i=>by
  by_cases hi:i=b
  · subst hi; exact .inr (.inl ⟨aZ _ _ _,h⟩)
  · exact .inl (bA _ _ hi)
theorem Tk.cM (bx:Bx S.C) (v:V S.C):Tk S bx (aA bx (cM S bx v)):=by
  cases v with
  | aY b=>
    unfold Sy.cM
    dsimp only
    split
    · rename_i e l hb; exact Tk.OX hb
    · exact Tk.refl S bx
  | _=>exact Tk.refl S bx
theorem jX (bx:Bx S.C) (us vs:aP S.C):aA bx (us++vs)=aA (aA bx us) vs:=by
  induction us generalizing bx with
  | nil=>rfl
  | cons u us ih=>exact ih _
theorem Kn (bx aq:Bx S.C) (h: ∀ i,aq i=bx i∨ ∃ e l,bx i=some (.arr e l)∧aq i=some (.bR e l)) (v:V S.C):
    (∀ i,aA aq (cM S bx v) i=bx i∨ ∃ e l,bx i=some (.arr e l)∧aA aq (cM S bx v) i=some (.bR e l))∧Tk S aq (aA aq (cM S bx v)):=by
  have pW:(∀ i,aA aq [] i=bx i∨ ∃ e l,bx i=some (.arr e l)∧aA aq [] i=some (.bR e l))∧Tk S aq (aA aq []):=⟨h,Tk.refl S aq⟩
  cases v with
  | aY b=>
    unfold Sy.cM
    dsimp only
    split
    · rename_i e l hb
      refine ⟨fun i=> ?_,fun i=> ?_⟩ <;>
      · show _∨_
        by_cases hi:i=b
        · subst hi
          have e1:aA aq [(i, .bR e l)] i=some (.bR e l):=aZ _ _ _
          first
          | exact .inr ⟨e,l,hb,e1⟩
          | (rcases h i with h1 | ⟨e',l',h1,h2⟩
             · exact .inr (.inr ⟨e,l,h1.trans hb,e1⟩)
             · rw [hb] at h1
               cases h1
               exact .inl (e1.trans h2.symm))
        · have e1:aA aq [(b, .bR e l)] i=aq i:=bA _ _ hi
          first
          | (rw [e1]; exact h i)
          | exact .inl e1
    · exact pW
  | _=>exact pW
theorem xg (bx:Bx S.C): ∀ (vs:List (V S.C)) (aq:Bx S.C),(∀ i,aq i=bx i∨ ∃ e l,bx i=some (.arr e l)∧aq i=some (.bR e l))→
    (∀ i,aA aq (vs.flatMap (cM S bx)) i=bx i∨ ∃ e l,bx i=some (.arr e l)∧aA aq (vs.flatMap (cM S bx)) i=some (.bR e l))∧Tk S aq (aA aq (vs.flatMap (cM S bx)))
  | [],aq,h=>⟨h,Tk.refl S aq⟩
  | v::vs,aq,h=>by
    simp only [List.flatMap_cons,jX]
    obtain ⟨h1,h2⟩:=Kn bx aq h v
    obtain ⟨h3,h4⟩:=xg bx vs _ h1
    exact ⟨h3,h2.trans S h4⟩
end
end Go.Sy
namespace Go.Sy
section
variable {P:Program} {S:bf}
variable {w0:World} {M0 s0:St} {dq:List Deferred} {env:Env S.C} {a:Act} {w:World} {μ:Nat→Loc}
theorem Tk.eg {bx aq:Bx S.C} (h:Tk S bx aq) {i:Nat} (hl:live S aq i):aq i=bx i:=by
 rcases h i with e | ⟨e,_⟩ | ⟨e,l,_,e'⟩
 · exact e
 · unfold live at hl; rw [e] at hl; exact hl.elim
 · unfold live at hl; rw [e'] at hl; exact hl.elim
theorem EI (h:Inv P S w0 M0 s0 dq env a w μ) {bx:Bx S.C} (hk:Tk S env.bx bx) {b:Nat} {e:Ty} {l:List (e.den S.C)} (hb:bx b=some (.bR e l)) {v:Value}
 (hv:bP P S w (aN S w0 M0 s0 env.bx μ w) μ env.bx (.aY b) v): ∃ n,aJ S w (cC S w0 M0 s0 env.bx bx μ w) n (.sl e) l [v]:=by
 have hl:=oF S w0 M0 s0 env.bx bx μ w
 have key:(∃ n, ∀ (i:Nat) (x:e.den S.C),l[i]? =some x→ ∃ ds,ds.length=Ty.sz S e∧At w (cC S w0 M0 s0 env.bx bx μ w) (μ b).b ((μ b).o+i*Ty.sz S e) ds∧aJ S w (cC S w0 M0 s0 env.bx bx μ w) n e x ds)→
  (∃ a cap,v= .slice a l.length cap∧p7 (μ b) a l.length cap (Ty.sz S e))→ ∃ n,aJ S w (cC S w0 M0 s0 env.bx bx μ w) n (.sl e) l [v]:=by
  rintro ⟨n,hel⟩ ⟨a,cap,rfl,ha⟩
  refine ⟨n+1,a,cap,rfl,ha.fits, ?_⟩
  by_cases hn:(μ b).nil=true
  · exact .inl (by have :=ha.isNil hn; have :=ha.mH; have :=ha.fits; show l.length=0; omega)
  · refine .inr ⟨(μ b).b,(μ b).o,by rw [ha.addr]; simp [hn],fun i x hi=> ?_⟩
    exact hel i x hi
 have bound:(∀ (i:Nat) (x:e.den S.C),l[i]? =some x→ ∃ ds,ds.length=Ty.sz S e∧At w (cC S w0 M0 s0 env.bx bx μ w) (μ b).b ((μ b).o+i*Ty.sz S e) ds∧ ∃ n,aJ S w (cC S w0 M0 s0 env.bx bx μ w) n e x ds)→
  ∃ n, ∀ (i:Nat) (x:e.den S.C),l[i]? =some x→ ∃ ds,ds.length=Ty.sz S e∧At w (cC S w0 M0 s0 env.bx bx μ w) (μ b).b ((μ b).o+i*Ty.sz S e) ds∧aJ S w (cC S w0 M0 s0 env.bx bx μ w) n e x ds:=by
  intro hall
  have : ∀ m,m≤l.length→ ∃ n, ∀ (i:Nat) (x:e.den S.C),i<m→l[i]? =some x→ ∃ ds,ds.length=Ty.sz S e∧At w (cC S w0 M0 s0 env.bx bx μ w) (μ b).b ((μ b).o+i*Ty.sz S e) ds∧aJ S w (cC S w0 M0 s0 env.bx bx μ w) n e x ds:=by
   intro m
   induction m with
   | zero=>exact fun _=>⟨0,fun i x hi=>by omega⟩
   | succ m ih=>
    intro hm
    obtain ⟨n,hn⟩:=ih (by omega)
    obtain ⟨ds,h1,h2,n',h3⟩:=hall m l[m] (by simp)
    refine ⟨max n n',fun i x hi hx=> ?_⟩
    by_cases e:i=m
    · subst e
      have :x=l[i]:=by simpa [List.getElem?_eq_getElem (show i<l.length by omega)] using hx.symm
      subst this
      exact ⟨ds,h1,h2,h3.up S (by omega)⟩
    · obtain ⟨ds,h1,h2,h3⟩:=hn i x (by omega) hx
      exact ⟨ds,h1,h2,h3.up S (by omega)⟩
  obtain ⟨n,hn⟩:=this l.length (Nat.le_refl _)
  exact ⟨n,fun i x hx=>hn i x (List.getElem?_eq_some_iff.1 hx).1 hx⟩
 rcases hk b with e1 | ⟨e1,_⟩ | ⟨e',l',e1,e2⟩
 · rw [hb] at e1
   obtain ⟨_,_,h3⟩:=h.cm b _ e1.symm
   refine key (bound fun i x hi=> ?_) (hv.2 e l (.inr e1.symm))
   obtain ⟨ds,d1,d2,n,d3⟩:=h3 i x hi
   exact ⟨ds,d1,d2.later hl,n,d3.mono S hl (Nat.le_refl _)⟩
 · rw [hb] at e1; cases e1
 · rw [hb] at e2
   cases e2
   have cn:live S env.bx b:=by unfold live; rw [e1]; trivial
   obtain ⟨g1,g2,g3,g4,h3⟩:=h.cm b _ e1
   refine key (bound fun i x hi=> ?_) (hv.2 e l (.inl e1))
   obtain ⟨ds,d1,d2,n,d3⟩:=h3 i x hi
   refine ⟨ds,d1,fun j u hj=>⟨d2 j u hj, ?_⟩,n,d3.mono S hl (Nat.le_refl _)⟩
   have hj':=(List.getElem?_eq_some_iff.1 hj).1
   have uD:=(List.getElem?_eq_some_iff.1 hi).1
   have je:(μ b).aM (μ b).b ((μ b).o+i*Ty.sz S e+j):=by
    refine ⟨rfl,by omega, ?_⟩
    have :(i+1)*Ty.sz S e≤(μ b).cap*Ty.sz S e:=Nat.mul_le_mul_right _ (by omega)
    rw [Nat.add_mul,Nat.one_mul] at this
    omega
   refine ⟨(mW P S (h.cm b) cn je).1,(h.own b cn _ _ je).elim (fun h=> .inr (.inr h)) (fun h=> .inr (.inl h)),fun k hk'=> ?_⟩
   by_cases ek:k=b
   · subst ek; exact .inl ⟨e,l,hb⟩
   · exact .inr fun hf=>h.dB k b ek hk' cn _ _ hf je
theorem D1 (h:Inv P S w0 M0 s0 dq env a w μ) {bx aq:Bx S.C} (hk:Tk S env.bx bx) (hk':Tk S bx aq) {t:Ty} (ht:bG t=false) {V:V S.C} {v:Value} {x:t.den S.C}
 (hf: ∀ b e (l:List (e.den S.C)),V= .aY b→bx b=some (.arr e l)→aq b=some (.bR e l))
 (hv:bP P S w (aN S w0 M0 s0 env.bx μ w) μ env.bx V v) (hx:cV S bx t V=some x): ∃ n,aJ S w (cC S w0 M0 s0 env.bx aq μ w) n t x [v]:=by
 have hl:=oF S w0 M0 s0 env.bx aq μ w
 have hd: ∀ (u:Ty) (y:u.den S.C),cz S w (aN S w0 M0 s0 env.bx μ w) u y v→eP S u t y=some x→ ∃ n,aJ S w (cC S w0 M0 s0 env.bx aq μ w) n t x [v]:=by
  intro u y hr hc
  obtain ⟨rfl,rfl⟩:=eK hc
  obtain ⟨h1,n,hn⟩:=hr
  rw [aJ.mI h1 ht] at hn
  exact ⟨n,hn.mono S hl (Nat.le_refl _)⟩
 cases V with
 | d u y=>exact hd u y hv hx
 | pr p i=>
  obtain ⟨rfl,rfl⟩:=eK hx
  cases hv
  exact ⟨1,rfl⟩
 | bu b e l=>exact hd (.sl e) l hv.1 hx
 | cH=>
  cases t with
  | sl e=>
   cases hx
   cases hv
   exact ⟨1,none,0,rfl,Nat.le_refl _, .inl rfl⟩
  | _=>cases hx
 | aY b=>
  have ok: ∀ (e:Ty) (l:List (e.den S.C)),aq b=some (.bR e l)→eP S (.sl e) t l=some x→ ∃ n,aJ S w (cC S w0 M0 s0 env.bx aq μ w) n t x [v]:=by
   intro e l hb hc
   obtain ⟨rfl,rfl⟩:=eK hc
   exact EI h (hk.trans S hk') hb hv
  simp only [cV] at hx
  split at hx
  · rename_i e l hb; exact ok e l (hf b e l rfl hb) hx
  · rename_i e l hb
    refine ok e l ?_ hx
    rcases hk' b with e1 | ⟨_,e1⟩ | ⟨_,_,e1,_⟩
    · exact e1.trans hb
    · unfold live at e1; rw [hb] at e1; exact e1.elim
    · rw [hb] at e1; cases e1
  · cases hx
 | _=>cases hx
theorem ON (h:Inv P S w0 M0 s0 dq env a w μ) {bx aq:Bx S.C} (hk:Tk S env.bx bx) (hk':Tk S bx aq): ∀ (ts:List Ty) (hts:ts.all (fun t=> !bG t)=true) {vs:List (V S.C)} {cs:List Value} {x:av S.C ts},
 (∀ V ∈ vs.take ts.length, ∀ b e (l:List (e.den S.C)),V= .aY b→bx b=some (.arr e l)→aq b=some (.bR e l))→
 aO P S w (aN S w0 M0 s0 env.bx μ w) μ env.bx vs cs→iS S bx ts vs=some x→
 ∃ n,bN S (fun t x cs=>aJ S w (cC S w0 M0 s0 env.bx aq μ w) n t x cs) ts x (cs.take ts.length)
 | [],_,_,cs,_,_,_,_=>⟨0,by simp [bN]⟩
 | t::ts,hts,[],_,_,_,_,hx=>by simp [iS] at hx
 | t::ts,hts,V::vs,cs,x,hf,⟨c,r,hcs,hv,hr⟩,hx=>by
  simp only [List.all_cons,Bool.and_eq_true,Bool.not_eq_true'] at hts
  simp only [iS] at hx
  obtain ⟨y,hy,hx⟩:=Option.bind_eq_some_iff.1 hx
  obtain ⟨z,hz,hx⟩:=Option.bind_eq_some_iff.1 hx
  cases hx
  obtain ⟨n,hn⟩:=D1 h hk hk' hts.1 (hf V (by simp)) hv hy
  obtain ⟨m,hm⟩:=ON h hk hk' ts hts.2 (fun V hV=>hf V (by simp [hV])) hr hz
  refine ⟨max n m,c,r.take ts.length,by simp [hcs], ?_, ?_⟩
  · rw [show av.head (av.cons y z)=y from by cases ts <;> rfl]
    exact hn.up S (by omega)
  · rw [show av.tail (av.cons y z)=z from by cases ts <;> rfl]
    exact bN.mono S (fun t x cs hr=>hr.up S (by omega)) _ _ _ hm
theorem FJ (hS:cU S) (h:Inv P S w0 M0 s0 dq env a w μ) {bx aq:Bx S.C} (hk:Tk S env.bx bx) (hk':Tk S bx aq) {t:Ty} {vs:List (V S.C)} {cs:List Value} {x:t.den S.C}
 (hf: ∀ V ∈ vs.take (Ty.sz S t), ∀ b e (l:List (e.den S.C)),V= .aY b→bx b=some (.arr e l)→aq b=some (.bR e l))
 (hv:aO P S w (aN S w0 M0 s0 env.bx μ w) μ env.bx vs cs) (hx:jh S bx t vs=some x):
 ∃ n,aJ S w (cC S w0 M0 s0 env.bx aq μ w) n t x (cs.take (Ty.sz S t)):=by
 have one:bG t=false→Ty.sz S t=1→(∃ V r,vs=V::r∧cV S bx t V=some x)→ ∃ n,aJ S w (cC S w0 M0 s0 env.bx aq μ w) n t x (cs.take (Ty.sz S t)):=by
  rintro ht h1 ⟨V,vs',rfl,hx1⟩
  rw [h1]
  rw [h1] at hf
  obtain ⟨c,r,hcs,hv,hr⟩:=hv
  subst hcs
  exact D1 h hk hk' ht (hf V (by simp)) hv hx1
 cases t with
 | st u=>
  simp only [jh] at hx
  obtain ⟨y,hy,hx⟩:=Option.bind_eq_some_iff.1 hx
  cases hx
  obtain ⟨n,hn⟩:=ON h hk hk' (S.F u) (hS.flat u) hf hv hy
  refine ⟨n+1, ?_⟩
  show bN S _ (S.F u) (S.ex u (S.im u y)) _
  rw [hS.ug]
  exact hn
 | int k=>exact one rfl rfl (by cases vs with | nil=>cases hx | cons V r=>exact ⟨V,r,rfl,hx⟩)
 | bool=>exact one rfl rfl (by cases vs with | nil=>cases hx | cons V r=>exact ⟨V,r,rfl,hx⟩)
 | str=>exact one rfl rfl (by cases vs with | nil=>cases hx | cons V r=>exact ⟨V,r,rfl,hx⟩)
 | pt=>exact one rfl rfl (by cases vs with | nil=>cases hx | cons V r=>exact ⟨V,r,rfl,hx⟩)
 | sl e=>exact one rfl rfl (by cases vs with | nil=>cases hx | cons V r=>exact ⟨V,r,rfl,hx⟩)
theorem EG (bx gp:Bx S.C): ∀ (vs:List (V S.C)) (V:V S.C) (b:Nat) (e:Ty) (l:List (e.den S.C)),V ∈ vs→V= .aY b→bx b=some (.arr e l)→
 (∀ i,gp i=bx i∨ ∃ e l,bx i=some (.arr e l)∧gp i=some (.bR e l))→aA gp (vs.flatMap (cM S bx)) b=some (.bR e l)
 | [],_,_,_,_,h,_,_,_=>by simp at h
 | W::vs,V,b,e,l,h,hV,hb,h0=>by
  simp only [List.flatMap_cons,jX]
  obtain ⟨h1,_⟩:=Kn bx gp h0 W
  rcases List.mem_cons.1 h with rfl | h
  · subst hV
    have e1:aA gp (cM S bx (.aY b)) b=some (.bR e l):=by
     simp only [Sy.cM,hb]
     exact aZ _ _ _
    have :=(xg bx vs _ h1).1 b
    rcases this with e2 | ⟨e',l',e2,e3⟩
    · exfalso
      have :=(xg bx vs _ h1).2 b
      rw [e2,e1,hb] at this
      rcases this with h | ⟨h,_⟩ | ⟨_,_,h,_⟩ <;> cases h
    · rw [hb] at e2; cases e2; exact e3
  · exact EG bx _ vs V b e l h hV hb h1
theorem zS (hS:cU S) (h:Inv P S w0 M0 s0 dq env a w μ) {bx:Bx S.C} (hk:Tk S env.bx bx) {t:Ty} {V:V S.C} {v:Value} {x:t.den S.C}
 (hv:RV P S w (aN S w0 M0 s0 env.bx μ w) μ env.bx V v) (hx:datum S bx t V=some x):
 Tk S bx (aA bx (dr S bx V))∧cz S w (cC S w0 M0 s0 env.bx (aA bx (dr S bx V)) μ w) t x v:=by
 have hl:=oF S w0 M0 s0 env.bx (aA bx (dr S bx V)) μ w
 have one: ∀ (W:Sy.V S.C),V=W→dr S bx V=cM S bx W→bP P S w (aN S w0 M0 s0 env.bx μ w) μ env.bx W v→bG t=false→cV S bx t W=some x→
  Tk S bx (aA bx (dr S bx V))∧cz S w (cC S w0 M0 s0 env.bx (aA bx (dr S bx V)) μ w) t x v:=by
  intro W hW hfr hv ht hx
  have htk:Tk S bx (aA bx (dr S bx V)):=by rw [hfr]; exact Tk.cM bx W
  refine ⟨htk, ?_⟩
  obtain ⟨n,hn⟩:=D1 h hk htk ht (fun b e l hm hb=>by
   rw [hfr]
   subst hm
   simp only [Sy.cM,hb]
   exact aZ _ _ _) hv hx
  refine ⟨?_,n, ?_⟩
  · rw [ht]
    cases n with
    | zero=>exact hn.elim
    | succ n=>cases t with
     | int k=>simp [aJ] at hn; subst hn; rfl
     | bool=>simp [aJ] at hn; subst hn; rfl
     | str=>simp [aJ] at hn; subst hn; rfl
     | pt=>simp [aJ] at hn; subst hn; rfl
     | sl e=>obtain ⟨a,cap,h1,_⟩:=hn; simp at h1; subst h1; rfl
     | st u=>simp [bG] at ht
  · have :v.cells.toList= [v]:=by
     cases n with
     | zero=>exact hn.elim
     | succ n=>cases t with
      | int k=>simp [aJ] at hn; subst hn; rfl
      | bool=>simp [aJ] at hn; subst hn; rfl
      | str=>simp [aJ] at hn; subst hn; rfl
      | pt=>simp [aJ] at hn; subst hn; rfl
      | sl e=>obtain ⟨a,cap,h1,_⟩:=hn; simp at h1; subst h1; rfl
      | st u=>simp [bG] at ht
    rw [this]; exact hn
 cases V with
 | agg u vs=>
  obtain ⟨cs,rfl,hlen,_,hvs⟩:=hv
  cases t with
  | st u'=>
   simp only [datum] at hx
   split at hx
   · rename_i e
     subst e
     have hfz:=xg (S:=S) bx vs bx (fun i=> .inl rfl)
     obtain ⟨n,hn⟩:=FJ hS h hk hfz.2 (t:= .st u) (vs:=vs) (fun V hV b e l hm hb=>EG bx bx vs V b e l (List.mem_of_mem_take hV) hm hb (fun i=> .inl rfl)) hvs hx
     have hcl:=aO.length P S hvs
     refine ⟨hfz.2,rfl,n, ?_⟩
     rw [show Ty.sz S (.st u)=cs.toList.length from by show (S.F u).length=_; rw [hcl,hlen]] at hn
     rw [List.take_length] at hn
     exact hn
   · cases hx
  | _=>cases hx
 | d u y=>
  cases t with
  | st u'=>
   obtain ⟨rfl,rfl⟩:=eK (show eP S u (.st u') y=some x from hx)
   exact ⟨Tk.refl S bx,cz.mono S hl hv⟩
  | int k=>exact one _ rfl rfl hv rfl hx
  | bool=>exact one _ rfl rfl hv rfl hx
  | str=>exact one _ rfl rfl hv rfl hx
  | pt=>exact one _ rfl rfl hv rfl hx
  | sl e=>exact one _ rfl rfl hv rfl hx
 | jw vs=>cases t <;> simp [datum,cV] at hx
 | fT f vs=>cases t <;> simp [datum,cV] at hx
 | undef=>cases t <;> simp [datum,cV] at hx
 | skip=>cases t <;> simp [datum,cV] at hx
 | pre b n=>cases t <;> simp [datum,cV] at hx
 | split b c=>cases t <;> simp [datum,cV] at hx
 | mY c=>cases t <;> simp [datum,cV] at hx
 | win b i n=>cases t <;> simp [datum,cV] at hx
 | pr p i=>cases t with
  | st u'=>cases hx
  | _=>exact one _ rfl rfl hv rfl hx
 | bu b e l=>cases t with
  | st u'=>cases hx
  | _=>exact one _ rfl rfl hv rfl hx
 | aY b=>cases t with
  | st u'=>cases hx
  | _=>exact one _ rfl rfl hv rfl hx
 | ptr b o=>cases t <;> simp [datum,cV] at hx
 | cD b n=>cases t <;> simp [datum,cV] at hx
 | err b=>cases t <;> simp [datum,cV] at hx
 | fH b i o=>cases t <;> simp [datum,cV] at hx
 | dF t' y=>cases t <;> simp [datum,cV] at hx
 | nil=>cases t <;> simp [datum,cV] at hx
 | cH=>cases t with
  | st u'=>cases hx
  | _=>exact one _ rfl rfl hv rfl hx
 | fv a r g=>cases t <;> simp [datum,cV] at hx
end
end Go.Sy
namespace Go.Sy
section
variable {P:Program} {S:bf}
variable {w0:World} {M0 s0:St} {dq:List Deferred} {env:Env S.C} {a:Act} {w:World} {μ:Nat→Loc}
def cy (S:bf) (env:Env S.C) (μ:Nat→Loc) (bx aq:Bx S.C) (M:St):Prop:=
 ∀ b o,M b o→ ∃ i,live S env.bx i∧live S bx i∧aq i=some .dead∧(μ i).aM b o
theorem cy.none {bx aq:Bx S.C} {M:St} (h:iU M):cy S env μ bx aq M:=fun b o hm=>(h b o hm).elim
theorem qi {bx aq:Bx S.C} (h:Tk S bx aq) {i:Nat} (hd:bx i=some .dead):aq i=some .dead:=by
 rcases h i with e | ⟨e,_⟩ | ⟨e,l,e1,_⟩
 · exact e.trans hd
 · exact e
 · rw [hd] at e1; cases e1
theorem cy.later {bx aq ke:Bx S.C} {M:St} (h:cy S env μ bx aq M) (hk:Tk S aq ke):cy S env μ bx ke M:=
 fun b o hm=>let ⟨i,h1,h2,h3,h4⟩:=h b o hm; ⟨i,h1,h2,qi hk h3,h4⟩
theorem cy.JM {bx aq ke:Bx S.C} {M:St} (h:cy S env μ aq ke M) (hk:Tk S bx aq):cy S env μ bx ke M:=
 fun b o hm=>let ⟨i,h1,h2,h3,h4⟩:=h b o hm; ⟨i,h1,(eM S (hk.eg h2)).1 h2,h3,h4⟩
theorem cy.apart (h:Inv P S w0 M0 s0 dq env a w μ) {bx aq ke:Bx S.C} {M M':St} (h1:cy S env μ bx aq M) (h2:cy S env μ aq ke M'): ∀ b o,M b o→M' b o→False:=by
 intro b o hm hm'
 obtain ⟨i,a1,a2,a3,a4⟩:=h1 b o hm
 obtain ⟨j,b1,b2,b3,b4⟩:=h2 b o hm'
 refine h.dB i j (fun e=> ?_) a1 b1 b o a4 b4
 subst e
 unfold live at b2
 rw [a3] at b2
 exact b2
theorem cy.union {bx aq ke:Bx S.C} {M M':St} (h1:cy S env μ bx aq M) (h2:cy S env μ aq ke M') (hk:Tk S bx aq) (hk':Tk S aq ke):cy S env μ bx ke (fun b o=>M b o∨M' b o):=
 fun b o hm=>hm.elim (h1.later hk' b o) (h2.JM hk b o)
theorem Oy (hS:cU S) (h:Inv P S w0 M0 s0 dq env a w μ) {bx:Bx S.C} (hk:Tk S env.bx bx) {c:CK} {vs:List (V S.C)} {cs:List Value} {x:c.den S.C} {us:aP S.C}
 (hv:aO P S w (aN S w0 M0 s0 env.bx μ w) μ env.bx vs cs) (hx:ey S bx c vs=some (x,us)):
 Tk S bx (aA bx us)∧ ∃ M,mA S w (cC S w0 M0 s0 env.bx (aA bx us) μ w) M c x (cs.take (CK.sz S c))∧cy S env μ bx (aA bx us) M∧(cs.take (CK.sz S c)).length=CK.sz S c:=by
 cases c with
 | data t=>
  simp only [ey] at hx
  obtain ⟨y,hy,hx⟩:=Option.bind_eq_some_iff.1 hx
  cases hx
  have hfz:=xg (S:=S) bx (vs.take (Ty.sz S t)) bx (fun i=> .inl rfl)
  obtain ⟨n,hn⟩:=FJ hS h hk hfz.2 (fun V hV b e l hm hb=>EG bx bx _ V b e l hV hm hb (fun i=> .inl rfl)) hv hy
  exact ⟨hfz.2,fun _ _=>False,⟨fun _ _ h=>h,n,hn⟩,cy.none (fun _ _ h=>h),hn.length⟩
 | bu e=>
  simp only [ey] at hx
  split at hx
  · rename_i b e' l r
    split at hx
    · rename_i hb
      obtain ⟨y,hy,hx⟩:=Option.bind_eq_some_iff.1 hx
      cases hx
      obtain ⟨he,rfl⟩:=eK hy
      cases he
      obtain ⟨c,r',rfl,hv1,gZ⟩:=hv
      have hlb:live S bx b:=by unfold live; rw [hb]; trivial
      have hb0:env.bx b=some .tail:=(hk.eg hlb).symm.trans hb
      have htk:Tk S bx (aA bx [(b, .dead)]):=Tk.v8 hlb
      obtain ⟨a',cap,rfl,nX⟩:=hv1.2 hb0
      obtain ⟨_,n,hn⟩:=hv1.1
      refine ⟨htk,(μ b).aM,⟨a',cap,μ b,rfl,⟨n,hn.mono S (oF S w0 M0 s0 env.bx _ μ w) (Nat.le_refl _)⟩,nX,h.cm b _ hb0,fun _ _=>Iff.rfl⟩,fun b' o hm=>⟨b,(eM S (hk.eg hlb)).1 hlb,hlb,aZ _ _ _,hm⟩,rfl⟩
    · cases hx
  · rename_i r
    cases hx
    obtain ⟨c,r',rfl,hv1,gZ⟩:=hv
    cases hv1
    exact ⟨Tk.refl S bx,fun _ _=>False,⟨none,0,⟨0,0,0,0,true⟩,rfl,⟨1,none,0,rfl,Nat.le_refl _, .inl rfl⟩, .inl ⟨rfl,rfl,rfl⟩,fun j hj=>absurd hj (Nat.not_lt_zero j),fun b o=>⟨fun h=>h.elim,fun h=>by have h1:=h.2.1; have h2:=h.2.2; simp at h2⟩⟩,cy.none (fun _ _ h=>h),rfl⟩
  · cases hx
 | aY e=>
  simp only [ey] at hx
  split at hx
  · rename_i b r
    split at hx
    · rename_i e' l hb
      obtain ⟨y,hy,hx⟩:=Option.bind_eq_some_iff.1 hx
      cases hx
      obtain ⟨he,rfl⟩:=eK hy
      cases he
      obtain ⟨c,r',rfl,hv1,gZ⟩:=hv
      have hlb:live S bx b:=by unfold live; rw [hb]; trivial
      have hb0:env.bx b=some (.arr e l):=(hk.eg hlb).symm.trans hb
      have htk:Tk S bx (aA bx [(b, .dead)]):=Tk.v8 hlb
      obtain ⟨a',cap,rfl,hao⟩:=hv1.2 e l (.inl hb0)
      obtain ⟨g1,g2,g3,g4,g5⟩:=h.cm b _ hb0
      refine ⟨htk,(μ b).aM,⟨a',cap,μ b,rfl,hao,g4,fun _ _=>Iff.rfl,fun i z hi=> ?_⟩,fun b' o hm=>⟨b,(eM S (hk.eg hlb)).1 hlb,hlb,aZ _ _ _,hm⟩,rfl⟩
      obtain ⟨ds,d1,d2,n,d3⟩:=g5 i z hi
      exact ⟨ds,d1,d2,n,d3.mono S (oF S w0 M0 s0 env.bx _ μ w) (Nat.le_refl _)⟩
    · cases hx
  · rename_i b n r
    split at hx
    · rename_i e' l hb
      obtain ⟨y,hy,hx⟩:=Option.bind_eq_some_iff.1 hx
      cases hx
      obtain ⟨he,rfl⟩:=eK hy
      cases he
      obtain ⟨c,r',rfl,hv1,gZ⟩:=hv
      have hlb:live S bx b:=by unfold live; rw [hb]; trivial
      have hb0:env.bx b=some (.arr e l):=(hk.eg hlb).symm.trans hb
      have htk:Tk S bx (aA bx [(b, .dead)]):=Tk.v8 hlb
      obtain ⟨hn0,hnl,a',cap,rfl,hao⟩:=hv1.2 e l hb0
      obtain ⟨g1,g2,g3,g4,g5⟩:=h.cm b _ hb0
      have hlen:(List.take n.toNat l).length=n.toNat:=by rw [List.length_take]; omega
      refine ⟨htk,(μ b).aM,⟨a',cap,μ b, ?_, ?_,g4,fun _ _=>Iff.rfl,fun i z hi=> ?_⟩,fun b' o hm=>⟨b,(eM S (hk.eg hlb)).1 hlb,hlb,aZ _ _ _,hm⟩,rfl⟩
      · show [_]= [_]
        rw [hlen]
      · rw [hlen]; exact hao
      · have hi':l[i]? =some z:=by
         rw [List.getElem?_take] at hi
         split at hi
         · exact hi
         · cases hi
        obtain ⟨ds,d1,d2,n,d3⟩:=g5 i z hi'
        exact ⟨ds,d1,d2,n,d3.mono S (oF S w0 M0 s0 env.bx _ μ w) (Nat.le_refl _)⟩
    · cases hx
  · rename_i r
    cases hx
    obtain ⟨c,r',rfl,hv1,gZ⟩:=hv
    cases hv1
    exact ⟨Tk.refl S bx,fun _ _=>False,⟨none,0,⟨0,0,0,0,true⟩,rfl,⟨rfl,rfl,by simp,fun _=>rfl,Nat.le_refl _⟩,fun j hj=>absurd hj (Nat.not_lt_zero j),fun b o=>⟨fun h=>h.elim,fun h=>by have h1:=h.2.1; have h2:=h.2.2; simp at h2⟩,fun i x hi=>by simp at hi⟩,cy.none (fun _ _ h=>h),rfl⟩
  · cases hx
theorem Oz (hS:cU S) (h:Inv P S w0 M0 s0 dq env a w μ): ∀ (ps:List CK) {bx:Bx S.C} (hk:Tk S env.bx bx) {vs:List (V S.C)} {cs:List Value} {x:bO S.C ps} {us:aP S.C},
 aO P S w (aN S w0 M0 s0 env.bx μ w) μ env.bx vs cs→dW S bx ps vs=some (x,us)→
 Tk S bx (aA bx us)∧ ∃ M,iT S w (cC S w0 M0 s0 env.bx (aA bx us) μ w) M ps x (cs.take (CK.cB S ps))∧cy S env μ bx (aA bx us) M∧(cs.take (CK.cB S ps)).length=CK.cB S ps
 | [],bx,hk,vs,cs,x,us,hv,hx=>by
  cases hx
  exact ⟨Tk.refl S bx,fun _ _=>False,⟨fun _ _ h=>h,by simp [CK.cB]⟩,cy.none (fun _ _ h=>h),by simp [CK.cB]⟩
 | c::ps,bx,hk,vs,cs,x,us,hv,hx=>by
  simp only [dW] at hx
  obtain ⟨⟨y,u1⟩,hy,hx⟩:=Option.bind_eq_some_iff.1 hx
  obtain ⟨⟨z,u2⟩,hz,hx⟩:=Option.bind_eq_some_iff.1 hx
  cases hx
  obtain ⟨k1,M1,r1,f1,n1⟩:=Oy hS h hk hv hy
  obtain ⟨k2,M2,r2,f2,n2⟩:=Oz hS h ps (hk.trans S k1) (hv.drop P S (CK.sz S c)) hz
  dsimp only at *
  rw [jX]
  refine ⟨k1.trans S k2,fun b o=>M1 b o∨M2 b o,⟨M1,M2,cs.take (CK.sz S c),(cs.drop (CK.sz S c)).take (CK.cB S ps),⟨fun _ _=>Iff.rfl,cy.apart h f1 f2⟩, ?_,n1, ?_, ?_⟩,cy.union f1 f2 k1 k2, ?_⟩
  · rw [CK.cB,List.take_add]
  · rw [show bO.head (bO.cons y z)=y from by cases ps <;> rfl]
    exact r1.mono S (vV S k2)
  · rw [show bO.tail (bO.cons y z)=z from by cases ps <;> rfl]
    exact r2
  · rw [CK.cB,List.take_add,List.length_append,n1,n2]
theorem oG {w:World} {b o n o' n':Nat} (h:w.there b o n) (h1:o≤o') (h2:o'+n'≤o+n):w.there b o' n':=fun j hj=>by
 have :=h (o' - o+j) (by omega)
 rw [show o+(o' - o+j)=o'+j from by omega] at this
 exact this
theorem MB {w:World} {b o:Nat} {cs:List Value} (h:w.rangeAt b o cs) (k:Nat):w.rangeAt b (o+k) (cs.drop k):=fun j v hj=>by
 rw [Nat.add_assoc]
 exact h (k+j) v (by simpa using hj)
theorem ME {w:World} {b o:Nat} {cs:List Value} (h:w.rangeAt b o cs) (k:Nat):w.rangeAt b o (cs.take k):=fun j v hj=>by
 rw [List.getElem?_take] at hj
 split at hj
 · exact h j v hj
 · cases hj
theorem Ge (hS:cU S) (h:Inv P S w0 M0 s0 dq env a w μ) {bx:Bx S.C} (hk:Tk S env.bx bx) {b off:Nat} {ws:List (V S.C)} (hb:bx b=some (.cells ws)) {ps:List CK} {x:bO S.C ps} {us:aP S.C} {v:Value}
 (hv:bP P S w (aN S w0 M0 s0 env.bx μ w) μ env.bx (.ptr b off) v) (hx:dW S (az bx b (some .dead)) ps (ws.drop off)=some (x,us)):
 Tk S bx (aA bx ((b, .dead)::us))∧ ∃ M,eH S w (cC S w0 M0 s0 env.bx (aA bx ((b, .dead)::us)) μ w) M ps x v∧cy S env μ bx (aA bx ((b, .dead)::us)) M:=by
 have hlb:live S bx b:=by unfold live; rw [hb]; trivial
 have hb0:env.bx b=some (.cells ws):=(hk.eg hlb).symm.trans hb
 have hl0:live S env.bx b:=(eM S (hk.eg hlb)).1 hlb
 have k1:Tk S bx (az bx b (some .dead)):=Tk.v8 hlb
 obtain ⟨g1,g2,g3,cs,g4,g5⟩:=h.cm b _ hb0
 obtain ⟨k2,M2,r2,f2,n2⟩:=Oz hS h ps (hk.trans S k1) (g5.drop P S off) hx
 have xL:v=_:=hv
 subst xL
 have hlen:=aO.length P S g5
 have hsz:off+CK.cB S ps≤cs.length∨CK.cB S ps=0:=by
  rw [List.length_take,List.length_drop] at n2
  omega
 refine ⟨k1.trans S k2,fun b' o'=>(b'=(μ b).b∧(μ b).o+off≤o'∧o'<(μ b).o+off+((cs.drop off).take (CK.cB S ps)).length)∨M2 b' o',⟨_,_,(cs.drop off).take (CK.cB S ps),M2,rfl, ?_,ME (MB g4 off) _,⟨fun _ _=>Iff.rfl, ?_⟩,r2⟩, ?_⟩
 · rcases hsz with hsz | hsz
   · exact oG g3 (by omega) (by rw [n2]; omega)
   · intro j hj; rw [n2,hsz] at hj; exact absurd hj (Nat.not_lt_zero _)
 · rintro b' o' ⟨rfl,h1,h2⟩ hm
   obtain ⟨i,a1,a2,a3,a4⟩:=f2 _ _ hm
   refine h.dB b i (fun e=> ?_) hl0 a1 _ _ ⟨rfl,by omega, ?_⟩ a4
   · subst e
     unfold live at a2
     rw [aZ] at a2
     exact a2
   · rw [n2] at h2
     rcases hsz with hsz | hsz <;> omega
 · rintro b' o' (⟨rfl,h1,h2⟩ | hm)
   · refine ⟨b,hl0,hlb,qi k2 (aZ _ _ _),rfl,by omega, ?_⟩
     rw [n2] at h2
     rcases hsz with hsz | hsz <;> omega
   · exact f2.JM k1 _ _ hm
theorem Js (hS:cU S) (h:Inv P S w0 M0 s0 dq env a w μ) {bx:Bx S.C} (hk:Tk S env.bx bx) {t:Ty} {V:V S.C} {v:Value} {x:t.den S.C}
 (hv:bP P S w (aN S w0 M0 s0 env.bx μ w) μ env.bx V v) (hx:nO S bx t V=some x):nG S w (cC S w0 M0 s0 env.bx bx μ w) t x v:=by
 have hl:=oF S w0 M0 s0 env.bx bx μ w
 cases V with
 | ptr b off=>
  cases off with
  | succ n=>cases hx
  | zero=>
   simp only [nO] at hx
   split at hx
   · rename_i ws hb
     have hb0:env.bx b=some (.bX ws):=by
      rcases hk b with e | ⟨e,_⟩ | ⟨e,l,_,e1⟩
      · exact e.symm.trans hb
      · rw [hb] at e; cases e
      · rw [hb] at e1; cases e1
     obtain ⟨g1,cs,g2,g3⟩:=h.cm b _ hb0
     have xL:v=_:=hv
     subst xL
     cases hnm:ws.all (Me S) with
     | false=>rw [hnm] at hx; cases hx
     | true=>
     rw [hnm] at hx
     obtain ⟨n,hn⟩:=FJ hS h hk (Tk.refl S bx) (t:=t) (vs:=ws) (fun V hV b' e l hm hb'=>by
      have :=(List.all_eq_true.1 hnm) V (List.mem_of_mem_take hV)
      subst hm
      cases this) g3 hx
     refine ⟨_,_,cs.take (Ty.sz S t),rfl,fun j u hj=> ?_,hn.length,n,hn⟩
     rw [List.getElem?_take] at hj
     split at hj
     · have :=(g2.later hl) j u hj
       simpa using this
     · cases hj
   · cases hx
 | dF u y=>
  obtain ⟨rfl,rfl⟩:=eK (show eP S u t y=some x from hx)
  exact nG.mono S hl hv
 | _=>cases hx
theorem D_ (hS:cU S) (h:Inv P S w0 M0 s0 dq env a w μ) {bx:Bx S.C} (hk:Tk S env.bx bx): ∀ (ts:List Ty) {vs:List (V S.C)} {cs:List Value} {x:av S.C ts},
 aO P S w (aN S w0 M0 s0 env.bx μ w) μ env.bx vs cs→caps S bx ts vs=some x→iu S w (cC S w0 M0 s0 env.bx bx μ w) ts x cs
 | [],[],cs,x,hv,_=>hv
 | [],_::_,_,_,_,hx=>by cases hx
 | _::_,[],_,_,_,hx=>by cases hx
 | t::ts,V::vs,cs,x,⟨c,r,hcs,h1,h2⟩,hx=>by
  simp only [caps] at hx
  obtain ⟨y,hy,hx⟩:=Option.bind_eq_some_iff.1 hx
  obtain ⟨z,hz,hx⟩:=Option.bind_eq_some_iff.1 hx
  cases hx
  refine ⟨c,r,hcs, ?_, ?_⟩
  · rw [show av.head (av.cons y z)=y from by cases ts <;> rfl]
    exact Js hS h hk h1 hy
  · rw [show av.tail (av.cons y z)=z from by cases ts <;> rfl]
    exact D_ hS h hk ts h2 hz
theorem Sq (hS:cU S) (h:Inv P S w0 M0 s0 dq env a w μ) {bx:Bx S.C} (hk:Tk S env.bx bx) {fs:List (iw S)} (o7: ∀ e ∈ fs,gM P S e) {A R:List Ty} {V:V S.C} {v:Value} {g:av S.C A→Option (av S.C R)}
 (hv:RV P S w (aN S w0 M0 s0 env.bx μ w) μ env.bx V v) (hx:rU S fs bx A R V=some g):nE P S w (cC S w0 M0 s0 env.bx bx μ w) A R g v:=by
 have hl:=oF S w0 M0 s0 env.bx bx μ w
 cases V with
 | fv A' R' g'=>
  simp only [rU] at hx
  split at hx
  · rename_i e1
    split at hx
    · rename_i e2
      subst e1 e2
      cases hx
      exact nE.mono P S hl hv
    · cases hx
  · cases hx
 | fT f vs=>
  obtain ⟨cs,rfl,hvs⟩:=hv
  simp only [rU] at hx
  obtain ⟨e,he,hx1⟩:=List.exists_of_findSome?_eq_some hx
  clear hx
  split at hx1
  · rename_i ef
    split at hx1
    · rename_i e1
      split at hx1
      · rename_i e2
        obtain ⟨y,hy,hx2⟩:=Option.bind_eq_some_iff.1 hx1
        clear hx1
        obtain ⟨f',A',c',R',sp⟩:=e
        dsimp only at *
        subst ef e1 e2
        have hx3:=Option.some.inj hx2
        subst hx3
        have qq:=D_ hS h hk _ hvs hy
        refine ⟨f', #[],cs,rfl,(o7 _ he).1,fun w1 s1 cv EN x args z hargs hg=> ?_⟩
        have :=(o7 _ he).2 w1 s1 x y z args cs.toList EN hargs (iu.mono cv _ _ _ qq) hg
        rw [show #[]++args.toArray++cs=(args++cs.toList).toArray from by simp]
        exact this
      · cases hx1
    · cases hx1
  · cases hx1
 | _=>cases hx
theorem OF (hS:cU S) (h:Inv P S w0 M0 s0 dq env a w μ) {bx:Bx S.C} (hk:Tk S env.bx bx) {ps:List CK} {b:Nat} {x:bO S.C ps} {us:aP S.C} (hx:gK S bx ps b=some (x,us)):
 Tk S bx (aA bx us)∧ ∃ M,eH S w (cC S w0 M0 s0 env.bx (aA bx us) μ w) M ps x (.pointer (some ⟨(μ b).b,(μ b).o,none⟩))∧cy S env μ bx (aA bx us) M:=by
 unfold gK at hx
 split at hx
 · rename_i ws hb
   cases hw:Nat.beq ws.length (CK.cB S ps) with
   | false=>rw [hw] at hx; cases hx
   | true=>
    rw [hw,cond_true] at hx
    obtain ⟨⟨y,u'⟩,hy,hx⟩:=Option.bind_eq_some_iff.1 hx
    cases hx
    exact Ge hS h hk hb (show bP P S w (aN S w0 M0 s0 env.bx μ w) μ env.bx (.ptr b 0) _ from rfl) hy
 · cases hx
theorem ZQ (hS:cU S) (h:Inv P S w0 M0 s0 dq env a w μ) {bx:Bx S.C} (hk:Tk S env.bx bx) {fs:List (iw S)} (o7: ∀ e ∈ fs,gM P S e) {k:K} {V:V S.C} {v:Value} {x:k.den S.C} {us:aP S.C}
 (hv:RV P S w (aN S w0 M0 s0 env.bx μ w) μ env.bx V v) (hx:cu S fs bx k V=some (x,us)):
 Tk S bx (aA bx us)∧ ∃ M,nF P S w (cC S w0 M0 s0 env.bx (aA bx us) μ w) M k x v∧cy S env μ bx (aA bx us) M:=by
 have ck: ∀ (c:CK),(∀ t,c≠ .data t)→CK.sz S c=1→ ∀ (y:c.den S.C),ey S bx c [V]=some (y,us)→Tk S bx (aA bx us)∧ ∃ M,(mA S w (cC S w0 M0 s0 env.bx (aA bx us) μ w) M c y v.cells.toList∧isAgg v=false)∧cy S env μ bx (aA bx us) M:=by
  intro c hc h1 y hy
  have hv1:bP P S w (aN S w0 M0 s0 env.bx μ w) μ env.bx V v:=by
   cases V with
   | agg u ws=>cases c <;> first | exact absurd rfl (hc _) | cases hy
   | jw ws=>cases c <;> first | exact absurd rfl (hc _) | cases hy
   | fT f ws=>cases c <;> first | exact absurd rfl (hc _) | cases hy
   | _=>exact hv
  obtain ⟨k1,M,r1,f1,n1⟩:=Oy hS h hk (vs:= [V]) (cs:= [v]) ⟨v,[],rfl,hv1,rfl⟩ hy
  rw [h1] at r1
  have hag:isAgg v=false:=by
   cases c with
   | data t=>exact absurd rfl (hc t)
   | bu e=>obtain ⟨a',cap,L,he,_⟩:=r1; simp at he; subst he; rfl
   | aY e=>obtain ⟨a',cap,L,he,_⟩:=r1; simp at he; subst he; rfl
  refine ⟨k1,M,⟨?_,hag⟩,f1⟩
  rw [aJ.mI (t:= .bool) (by rw [hag]; rfl) rfl]
  exact r1
 have obj: ∀ (ps:List CK) (b off:Nat) (ws:List (Sy.V S.C)) (y:bO S.C ps) (us':aP S.C),V= .ptr b off→bx b=some (.cells ws)→dW S (az bx b (some .dead)) ps (ws.drop off)=some (y,us')→us=(b, .dead)::us'→
  Tk S bx (aA bx us)∧ ∃ M,eH S w (cC S w0 M0 s0 env.bx (aA bx us) μ w) M ps y v∧cy S env μ bx (aA bx us) M:=by
  intro ps b off ws y us' hV hb hy hu
  subst hV hu
  exact Ge hS h hk hb hv hy
 cases k with
 | val c=>
  cases c with
  | data t=>
   simp only [cu] at hx
   obtain ⟨y,hy,hx⟩:=Option.bind_eq_some_iff.1 hx
   cases hx
   obtain ⟨k1,r1⟩:=zS hS h hk hv hy
   exact ⟨k1,fun _ _=>False,⟨⟨fun _ _ h=>h,r1.2⟩,r1.1⟩,cy.none (fun _ _ h=>h)⟩
  | bu e=>exact ck (.bu e) (by simp) rfl x hx
  | aY e=>exact ck (.aY e) (by simp) rfl x hx
 | obj ps=>
  simp only [cu] at hx
  split at hx
  · split at hx
    · rename_i b off _ ws hb
      cases hw:Nat.beq off 0&&Nat.beq ws.length (CK.cB S ps) with
      | false=>rw [hw] at hx; cases hx
      | true=>
       rw [hw,cond_true] at hx
       obtain ⟨⟨y,u'⟩,hy,hx⟩:=Option.bind_eq_some_iff.1 hx
       cases hx
       exact obj ps _ _ _ _ _ rfl hb hy rfl
    · cases hx
  · cases hx
 | opt ps=>
  simp only [cu] at hx
  split at hx
  · cases hx
    exact ⟨Tk.refl S bx,fun _ _=>False,⟨fun _ _ h=>h,hv⟩,cy.none (fun _ _ h=>h)⟩
  · split at hx
    · rename_i b off _ ws hb
      cases hw:Nat.beq off 0&&Nat.beq ws.length (CK.cB S ps) with
      | false=>rw [hw] at hx; cases hx
      | true=>
       rw [hw,cond_true] at hx
       obtain ⟨⟨y,u'⟩,hy,hx⟩:=Option.bind_eq_some_iff.1 hx
       cases hx
       exact obj ps _ _ _ _ _ rfl hb hy rfl
    · cases hx
  · cases hx
 | cD ps=>
  simp only [cu] at hx
  split at hx
  · split at hx
    · rename_i b n _ ws hb
      cases hw:Nat.beq n ws.length&&Nat.beq ws.length (CK.cB S ps) with
      | false=>rw [hw] at hx; cases hx
      | true=>
       rw [hw,cond_true] at hx
       rw [Bool.and_eq_true] at hw
       have w1:=Nat.eq_of_beq_eq_true hw.1
       have w2:=Nat.eq_of_beq_eq_true hw.2
       obtain ⟨⟨y,u'⟩,hy,hx⟩:=Option.bind_eq_some_iff.1 hx
       cases hx
       have hv:v= .slice (some ⟨(μ b).b,(μ b).o,none⟩) n n:=hv
       obtain ⟨k1,M,r1,f1⟩:=Ge hS h hk (v:= .pointer (some ⟨(μ b).b,(μ b).o,none⟩)) hb (show bP P S w (aN S w0 M0 s0 env.bx μ w) μ env.bx (.ptr b 0) _ from rfl) hy
       exact ⟨k1,M,⟨_,by rw [hv,w1,w2],r1⟩,f1⟩
    · cases hx
  · cases hx
 | err=>
  simp only [cu] at hx
  split at hx
  · cases hx
    exact ⟨Tk.refl S bx,fun _ _=>False,⟨fun _ _ h=>h,hv⟩,cy.none (fun _ _ h=>h)⟩
  · cases hx
 | bn=>
  simp only [cu] at hx
  split at hx
  · split at hx
    · split at hx
      · rename_i b off _ j hb _ l hj
        cases hw:Nat.beq off 0 with
        | false=>rw [hw] at hx; cases hx
        | true=>
         rw [hw] at hx
         cases hx
         have ho:=Nat.eq_of_beq_eq_true hw
         subst ho
         have hne:j≠b:=fun e=>by subst e; rw [hb] at hj; cases hj
         have lb:live S bx b:=by unfold live; rw [hb]; trivial
         have lj:live S bx j:=by unfold live; rw [hj]; trivial
         have hb0:env.bx b=some (.bn j):=(hk.eg lb).symm.trans hb
         have hj0:env.bx j=some (.buf x):=(hk.eg lj).symm.trans hj
         have LR:live S env.bx b:=(eM S (hk.eg lb)).1 lb
         have L4:live S env.bx j:=(eM S (hk.eg lj)).1 lj
         obtain ⟨g1,g2,g3,u,g4,g5⟩:=h.cm b _ hb0
         have gj:nD S w (μ j) x:=h.cm j _ hj0
         have hv:v= .pointer (some ⟨(μ b).b,(μ b).o+0,none⟩):=hv
         have k1:Tk S bx (az bx b (some .dead)):=Tk.v8 lb
         have Vy:live S (az bx b (some .dead)) j:=by unfold live; rw [bA _ _ hne,hj]; trivial
         have k2:Tk S (az bx b (some .dead)) (az (az bx b (some .dead)) j (some .dead)):=Tk.v8 Vy
         have fb: ∀ b' o',(Loc.mk (μ b).b 0 2 0 false).aM b' o'→(μ b).aM b' o':=fun b' o' ⟨q1,q2,q3⟩=>⟨q1,by omega,by have :o'<0+2:=q3; omega⟩
         refine ⟨k1.trans S k2,fun b' o'=>(Loc.mk (μ b).b 0 2 0 false).aM b' o'∨(μ j).aM b' o',⟨(μ b).b,μ j,by rw [hv,g1],g5 _ hj0▸g4,gj,fun _ _=>Iff.rfl,fun b' o' q1 q2=>h.dB j b hne L4 LR _ _ q2 (fb _ _ q1)⟩, ?_⟩
         rintro b' o' (q | q)
         · exact ⟨b,LR,lb,(bA _ _ hne.symm).trans (aZ _ _ _),fb _ _ q⟩
         · exact ⟨j,L4,lj,aZ _ _ _,q⟩
      · cases hx
    · cases hx
  · cases hx
 | nil=>
  simp only [cu] at hx
  split at hx
  · cases hx
    exact ⟨Tk.refl S bx,fun _ _=>False,⟨fun _ _ h=>h,hv⟩,cy.none (fun _ _ h=>h)⟩
  · cases hx
 | cc t ps=>
  simp only [cu] at hx
  split at hx
  · rename_i b c
    obtain ⟨⟨y,u1⟩,hy,hx⟩:=Option.bind_eq_some_iff.1 hx
    obtain ⟨⟨z,u2⟩,hz,hx⟩:=Option.bind_eq_some_iff.1 hx
    cases hx
    obtain ⟨kb,q,e1,e2,e3,e4⟩:=hv
    obtain ⟨k1,M1,r1,f1⟩:=OF hS h hk hy
    obtain ⟨k2,M2,r2,f2⟩:=OF hS h (hk.trans S k1) hz
    dsimp only at *
    rw [jX]
    rw [e3,e4] at r2
    exact ⟨k1.trans S k2,fun b o=>M1 b o∨M2 b o,⟨kb,q,⟨(μ c).b,(μ c).o,none⟩,M1,M2,e1,e2.later (oF S _ _ _ _ _ _ _),⟨fun _ _=>Iff.rfl,cy.apart h f1 f2⟩,eH.mono S (vV S k2) r1,r2⟩,cy.union f1 f2 k1 k2⟩
  · cases hx
 | ro t=>
  simp only [cu] at hx
  obtain ⟨y,hy,hx⟩:=Option.bind_eq_some_iff.1 hx
  cases hx
  have hv1:bP P S w (aN S w0 M0 s0 env.bx μ w) μ env.bx V v:=by
   cases V <;> first | exact hv | cases hy
  exact ⟨Tk.refl S bx,fun _ _=>False,⟨fun _ _ h=>h,Js hS h hk hv1 hy⟩,cy.none (fun _ _ h=>h)⟩
 | fn A R=>
  simp only [cu] at hx
  obtain ⟨y,hy,hx⟩:=Option.bind_eq_some_iff.1 hx
  cases hx
  exact ⟨Tk.refl S bx,fun _ _=>False,⟨fun _ _ h=>h,Sq hS h hk o7 hv hy⟩,cy.none (fun _ _ h=>h)⟩
def fO (P:Program) (S:bf) (w:World) (s:St) (μ:Nat→Loc) (bx:Bx S.C):List (V S.C)→List Value→Prop
 | [],cs=>cs= []
 | v::vs,cs=> ∃ c r,cs=c::r∧RV P S w s μ bx v c∧fO P S w s μ bx vs r
theorem y9 (hS:cU S) (h:Inv P S w0 M0 s0 dq env a w μ) {fs:List (iw S)} (o7: ∀ e ∈ fs,gM P S e): ∀ (ks:List K) {bx:Bx S.C} (hk:Tk S env.bx bx) {vs:List (V S.C)} {cs:List Value} {x:Ks S.C ks} {us:aP S.C},
 fO P S w (aN S w0 M0 s0 env.bx μ w) μ env.bx vs cs→eF S fs bx ks vs=some (x,us)→
 Tk S bx (aA bx us)∧ ∃ M,cl P S w (cC S w0 M0 s0 env.bx (aA bx us) μ w) M ks x cs∧cy S env μ bx (aA bx us) M
 | [],bx,hk,[],cs,x,us,hv,hx=>by
  cases hx
  exact ⟨Tk.refl S bx,fun _ _=>False,⟨fun _ _ h=>h,hv⟩,cy.none (fun _ _ h=>h)⟩
 | [],_,_,_::_,_,_,_,_,hx=>by cases hx
 | _::_,_,_,[],_,_,_,_,hx=>by cases hx
 | k::ks,bx,hk,V::vs,cs,x,us,⟨c,r,hcs,hv1,gZ⟩,hx=>by
  simp only [eF] at hx
  obtain ⟨⟨y,u1⟩,hy,hx⟩:=Option.bind_eq_some_iff.1 hx
  obtain ⟨⟨z,u2⟩,hz,hx⟩:=Option.bind_eq_some_iff.1 hx
  cases hx
  obtain ⟨k1,M1,r1,f1⟩:=ZQ hS h hk o7 hv1 hy
  obtain ⟨k2,M2,r2,f2⟩:=y9 hS h o7 ks (hk.trans S k1) gZ hz
  dsimp only at *
  rw [jX]
  refine ⟨k1.trans S k2,fun b o=>M1 b o∨M2 b o,⟨M1,M2,c,r,⟨fun _ _=>Iff.rfl,cy.apart h f1 f2⟩,hcs, ?_, ?_⟩,cy.union f1 f2 k1 k2⟩
  · rw [show Ks.head (Ks.cons y z)=y from by cases ks <;> rfl]
    exact r1.mono P S (vV S k2)
  · rw [show Ks.tail (Ks.cons y z)=z from by cases ks <;> rfl]
    exact r2
end
end Go.Sy
namespace Go.Sy
theorem iV.left {M A B:St} (h:iV M A B) {b o:Nat} (ha:A b o):M b o:=(h.1 b o).2 (.inl ha)
theorem iV.right {M A B:St} (h:iV M A B) {b o:Nat} (ha:B b o):M b o:=(h.1 b o).2 (.inr ha)
section
variable {P:Program} {S:bf}
def Agree (us:aP S.C) (lam:Nat→Loc) (μ:Nat→Loc) (bx:Bx S.C):Prop:= ∀ u ∈ us,bx u.1=some u.2∧μ u.1=lam u.1
structure cq (P:Program) (S:bf) (w:World) (s:St) (I:Nat→Prop) (us:aP S.C) (lam:Nat→Loc) (M:St):Prop where
 ga: ∀ u ∈ us,I u.1
 one: ∀ u ∈ us, ∀ u' ∈ us,u.1=u'.1→u=u'
 rb: ∀ μ bx,Agree us lam μ bx→ ∀ u ∈ us,RB P S w s μ bx (lam u.1) u.2
 lv: ∀ bx:Bx S.C, ∀ u ∈ us,bx u.1=some u.2→live S bx u.1
 aM: ∀ b o,M b o↔ ∃ u ∈ us,(lam u.1).aM b o
 dB: ∀ u ∈ us, ∀ u' ∈ us,u.1≠u'.1→ ∀ b o,(lam u.1).aM b o→(lam u'.1).aM b o→False
 ref: ∀ u ∈ us, ∀ vs,(u.2= .cells vs∨u.2= .bX vs)→ ∀ v ∈ vs, ∀ j ∈ aF S v, ∃ u' ∈ us,u'.1=j
theorem cq.nil {w:World} {s:St} {I:Nat→Prop} {M:St} (h:iU M) (lam:Nat→Loc):cq P S w s I [] lam M:=
 ⟨by simp,by simp,by simp,by simp,fun b o=>⟨fun hm=>(h b o hm).elim,by simp⟩,by simp,by simp⟩
def both (us:aP S.C) (l1 l2:Nat→Loc):Nat→Loc:=fun i=>if i ∈ us.map (·.1) then l1 i else l2 i
theorem cq.both {w:World} {s:St} {I1 I2:Nat→Prop} {dM oI:aP S.C} {l1 l2:Nat→Loc} {M M1 M2:St} (h1:cq P S w s I1 dM l1 M1) (h2:cq P S w s I2 oI l2 M2)
 (hI: ∀ i,I1 i→I2 i→False) (hM:iV M M1 M2):cq P S w s (fun i=>I1 i∨I2 i) (dM++oI) (both dM l1 l2) M∧
  (∀ μ bx,Agree (dM++oI) (Sy.both dM l1 l2) μ bx→Agree dM l1 μ bx∧Agree oI l2 μ bx):=by
 have e1: ∀ u ∈ dM,Sy.both dM l1 l2 u.1=l1 u.1:=fun u hu=>if_pos (List.mem_map.2 ⟨u,hu,rfl⟩)
 have e2: ∀ u ∈ oI,Sy.both dM l1 l2 u.1=l2 u.1:=fun u hu=>if_neg fun hm=>by
  obtain ⟨u',aW,he⟩:=List.mem_map.1 hm
  exact hI u.1 (he▸h1.ga u' aW) (h2.ga u hu)
 have hag: ∀ μ bx,Agree (dM++oI) (Sy.both dM l1 l2) μ bx→Agree dM l1 μ bx∧Agree oI l2 μ bx:=fun μ bx h=>
  ⟨fun u hu=>⟨(h u (by simp [hu])).1,(h u (by simp [hu])).2.trans (e1 u hu)⟩,fun u hu=>⟨(h u (by simp [hu])).1,(h u (by simp [hu])).2.trans (e2 u hu)⟩⟩
 refine ⟨⟨?_, ?_, ?_, ?_, ?_, ?_, ?_⟩,hag⟩
 · intro u hu
   rcases List.mem_append.1 hu with hu | hu
   · exact .inl (h1.ga u hu)
   · exact .inr (h2.ga u hu)
 · intro u hu u' aW he
   rcases List.mem_append.1 hu with hu | hu <;> rcases List.mem_append.1 aW with aW | aW
   · exact h1.one u hu u' aW he
   · exact (hI u.1 (h1.ga u hu) (he▸h2.ga u' aW)).elim
   · exact (hI u'.1 (h1.ga u' aW) (he▸h2.ga u hu)).elim
   · exact h2.one u hu u' aW he
 · intro μ bx ha u hu
   rcases List.mem_append.1 hu with hu | hu
   · rw [e1 u hu]; exact h1.rb μ bx (hag μ bx ha).1 u hu
   · rw [e2 u hu]; exact h2.rb μ bx (hag μ bx ha).2 u hu
 · intro bx u hu hb
   rcases List.mem_append.1 hu with hu | hu
   · exact h1.lv bx u hu hb
   · exact h2.lv bx u hu hb
 · intro b o
   rw [hM.1 b o,h1.aM,h2.aM]
   constructor
   · rintro (⟨u,hu,hf⟩ | ⟨u,hu,hf⟩)
     · exact ⟨u,by simp [hu],by rw [e1 u hu]; exact hf⟩
     · exact ⟨u,by simp [hu],by rw [e2 u hu]; exact hf⟩
   · rintro ⟨u,hu,hf⟩
     rcases List.mem_append.1 hu with hu | hu
     · rw [e1 u hu] at hf; exact .inl ⟨u,hu,hf⟩
     · rw [e2 u hu] at hf; exact .inr ⟨u,hu,hf⟩
 · intro u hu u' aW hne b o hf hf'
   rcases List.mem_append.1 hu with hu | hu <;> rcases List.mem_append.1 aW with aW | aW
   · rw [e1 u hu] at hf; rw [e1 u' aW] at hf'
     exact h1.dB u hu u' aW hne b o hf hf'
   · rw [e1 u hu] at hf; rw [e2 u' aW] at hf'
     exact hM.2 b o ((h1.aM b o).2 ⟨u,hu,hf⟩) ((h2.aM b o).2 ⟨u',aW,hf'⟩)
   · rw [e2 u hu] at hf; rw [e1 u' aW] at hf'
     exact hM.2 b o ((h1.aM b o).2 ⟨u',aW,hf'⟩) ((h2.aM b o).2 ⟨u,hu,hf⟩)
   · rw [e2 u hu] at hf; rw [e2 u' aW] at hf'
     exact h2.dB u hu u' aW hne b o hf hf'
 · intro u hu vs hvs v hv j hj
   rcases List.mem_append.1 hu with hu | hu
   · obtain ⟨u',aW,he⟩:=h1.ref u hu vs hvs v hv j hj
     exact ⟨u',by simp [aW],he⟩
   · obtain ⟨u',aW,he⟩:=h2.ref u hu vs hvs v hv j hj
     exact ⟨u',by simp [aW],he⟩
theorem cq.weaken {w:World} {s:St} {I I':Nat→Prop} {us:aP S.C} {lam:Nat→Loc} {M:St} (h:cq P S w s I us lam M) (hI: ∀ i,I i→I' i):cq P S w s I' us lam M:=
 ⟨fun u hu=>hI _ (h.ga u hu),h.one,h.rb,h.lv,h.aM,h.dB,h.ref⟩
theorem OJ {w:World} {s:St} {n:Nat} (μ:Nat→Loc) (bx:Bx S.C): ∀ (ts:List Ty) (hts:ts.all (fun t=> !bG t)=true) (x:av S.C ts) (cs:List Value),
 bN S (fun t x cs=>aJ S w s n t x cs) ts x cs→aO P S w s μ bx (qY S ts x) cs∧(qY S ts x).all (bW S)=true∧ ∀ v ∈ qY S ts x,aF S v= []
 | [],_,x,cs,h=>⟨h,rfl,by simp [qY]⟩
 | t::ts,hts,x,cs,⟨c,r,hcs,h1,h2⟩=>by
  simp only [List.all_cons,Bool.and_eq_true,Bool.not_eq_true'] at hts
  obtain ⟨r1,r2,r3⟩:=OJ μ bx ts hts.2 _ _ h2
  have hc:isAgg c=false:=by
   cases n with
   | zero=>exact h1.elim
   | succ n=>cases t with
    | int k=>simp [aJ] at h1; subst h1; rfl
    | bool=>simp [aJ] at h1; subst h1; rfl
    | str=>simp [aJ] at h1; subst h1; rfl
    | pt=>simp [aJ] at h1; subst h1; rfl
    | sl e=>obtain ⟨a,cap,h,_⟩:=h1; simp at h; subst h; rfl
    | st u=>simp [bG] at hts
  refine ⟨⟨c,r,hcs,⟨by rw [hc,hts.1],n, ?_⟩,r1⟩, ?_, ?_⟩
  · rw [aJ.mI (t:=t) (by rw [hc,hts.1]) hts.1]
    exact h1
  · simp only [qY,List.all_cons,Bool.and_eq_true]
    exact ⟨by cases t <;> first | rfl | simp [bG] at hts,r2⟩
  · intro v hv
    simp only [qY,List.mem_cons] at hv
    rcases hv with rfl | hv
    · rfl
    · exact r3 v hv
theorem nP (hS:cU S) {w:World} {s:St} {n:Nat} (μ:Nat→Loc) (bx:Bx S.C) {t:Ty} {x:t.den S.C} {cs:List Value} (h:aJ S w s n t x cs):
 aO P S w s μ bx (kg S t x) cs∧(kg S t x).all (bW S)=true∧ ∀ v ∈ kg S t x,aF S v= []:=by
 have one:bG t=false→kg S t x= [.d t x]→aO P S w s μ bx (kg S t x) cs∧(kg S t x).all (bW S)=true∧ ∀ v ∈ kg S t x,aF S v= []:=by
  intro ht he
  rw [he]
  have hl:=h.length S
  rw [show Ty.sz S t=1 from by cases t <;> first | rfl | simp [bG] at ht] at hl
  obtain ⟨c,rfl⟩:=List.length_eq_one_iff.1 hl
  have hc:isAgg c=false:=by
   cases n with
   | zero=>exact h.elim
   | succ n=>cases t with
    | int k=>simp [aJ] at h; subst h; rfl
    | bool=>simp [aJ] at h; subst h; rfl
    | str=>simp [aJ] at h; subst h; rfl
    | pt=>simp [aJ] at h; subst h; rfl
    | sl e=>obtain ⟨a,cap,h,_⟩:=h; simp at h; subst h; rfl
    | st u=>simp [bG] at ht
  refine ⟨⟨c,[],rfl,⟨by rw [hc,ht],n, ?_⟩,rfl⟩, ?_, ?_⟩
  · rw [aJ.mI (t:=t) (by rw [hc,ht]) ht]
    exact h
  · cases t <;> first | rfl | simp [bG] at ht
  · intro v hv
    simp at hv
    subst hv
    rfl
 cases t with
 | st u=>
  cases n with
  | zero=>exact h.elim
  | succ n=>exact OJ μ bx (S.F u) (hS.flat u) _ _ h
 | int k=>exact one rfl rfl
 | bool=>exact one rfl rfl
 | str=>exact one rfl rfl
 | pt=>exact one rfl rfl
 | sl e=>exact one rfl rfl
theorem A3 (hS:cU S) {w:World} {s M:St} (id:Nat) {c:CK} {x:c.den S.C} {cs:List Value} (h:mA S w s M c x cs):
 id≤(cx S id c x).2.2∧ ∃ lam,cq P S w s (fun i=>id≤i∧i<(cx S id c x).2.2) (cx S id c x).2.1 lam M∧
  (cx S id c x).1.all (bW S)=true∧(∀ v ∈ (cx S id c x).1, ∀ j ∈ aF S v, ∃ u ∈ (cx S id c x).2.1,u.1=j)∧
  ∀ μ bx,Agree (cx S id c x).2.1 lam μ bx→aO P S w s μ bx (cx S id c x).1 cs:=by
 cases c with
 | data t=>
  obtain ⟨hM,n,hn⟩:=h
  have ho:=fun μ bx=>nP (P:=P) hS μ bx hn
  refine ⟨Nat.le_refl _,fun _=>⟨0,0,0,0,true⟩,cq.nil hM _,(ho (fun _=>⟨0,0,0,0,true⟩) (fun _=>none)).2.1, ?_,fun μ bx _=>(ho μ bx).1⟩
  intro v hv j hj
  rw [(ho (fun _=>⟨0,0,0,0,true⟩) (fun _=>none)).2.2 v hv] at hj
  simp at hj
 | bu e=>
  obtain ⟨a,cap,L,rfl,⟨n,hn⟩,nX,cw,hM⟩:=h
  refine ⟨Nat.le_succ _,fun _=>L,⟨?_, ?_, ?_, ?_, ?_, ?_, ?_⟩,rfl, ?_, ?_⟩
  · intro u hu; simp [cx] at hu; subst hu; simp [cx]
  · intro u hu u' aW _; simp [cx] at hu aW; rw [hu,aW]
  · intro μ bx ha u hu; simp [cx] at hu; subst hu; exact cw
  · intro bx u hu hb; simp [cx] at hu; subst hu; unfold live; rw [hb]; trivial
  · intro b o; rw [hM]; simp [cx]
  · intro u hu u' aW hne; simp [cx] at hu aW; subst hu aW; exact absurd rfl hne
  · intro u hu vs hvs; simp [cx] at hu; subst hu; rcases hvs with hvs | hvs <;> cases hvs
  · intro v hv j hj; simp [cx] at hv; subst hv; simp [aF] at hj; subst hj; exact ⟨(j, .tail),by simp [cx],rfl⟩
  · intro μ bx ha
    refine ⟨_,[],rfl,⟨⟨rfl,n,hn⟩,fun _=>⟨a,cap,rfl, ?_⟩⟩,rfl⟩
    rw [(ha (id, .tail) (by simp [cx])).2]
    exact nX
 | aY e=>
  obtain ⟨a,cap,L,rfl,hao,cw,hM,hel⟩:=h
  refine ⟨Nat.le_succ _,fun _=>L,⟨?_, ?_, ?_, ?_, ?_, ?_, ?_⟩,rfl, ?_, ?_⟩
  · intro u hu; simp [cx] at hu; subst hu; simp [cx]
  · intro u hu u' aW _; simp [cx] at hu aW; rw [hu,aW]
  · intro μ bx ha u hu; simp [cx] at hu; subst hu
    exact ⟨hao.cells,hao.isNil,by have :=hao.fits; have :=hao.mH; omega,cw,hel⟩
  · intro bx u hu hb; simp [cx] at hu; subst hu; unfold live; rw [hb]; trivial
  · intro b o; rw [hM]; simp [cx]
  · intro u hu u' aW hne; simp [cx] at hu aW; subst hu aW; exact absurd rfl hne
  · intro u hu vs hvs; simp [cx] at hu; subst hu; rcases hvs with hvs | hvs <;> cases hvs
  · intro v hv j hj; simp [cx] at hv; subst hv; simp [aF] at hj; subst hj; exact ⟨(j, .arr e x),by simp [cx],rfl⟩
  · intro μ bx ha
    refine ⟨_,[],rfl,⟨⟨_,_,_,rfl⟩,fun e' l' hb=> ?_⟩,rfl⟩
    obtain ⟨h1,h2⟩:=ha (id, .arr e x) (by simp [cx])
    dsimp only at h1 h2
    rcases hb with hb | hb
    · rw [h1] at hb
      cases hb
      exact ⟨a,cap,rfl,by rw [h2]; exact hao⟩
    · rw [h1] at hb; cases hb
theorem F8 (hS:cU S) {w:World} {s:St} : ∀ (cs:List CK) {M:St} (id:Nat) {x:bO S.C cs} {vs:List Value},iT S w s M cs x vs→
 id≤(bH S id cs x).2.2∧ ∃ lam,cq P S w s (fun i=>id≤i∧i<(bH S id cs x).2.2) (bH S id cs x).2.1 lam M∧
  (bH S id cs x).1.all (bW S)=true∧(∀ v ∈ (bH S id cs x).1, ∀ j ∈ aF S v, ∃ u ∈ (bH S id cs x).2.1,u.1=j)∧
  ∀ μ bx,Agree (bH S id cs x).2.1 lam μ bx→aO P S w s μ bx (bH S id cs x).1 vs
 | [],M,id,x,vs,h=>⟨Nat.le_refl _,fun _=>⟨0,0,0,0,true⟩,cq.nil h.1 _,rfl,by simp [bH],fun _ _ _=>h.2⟩
 | c::cs,M,id,x,vs,⟨M1,M2,v1,v2,hM,hvs,_,h1,h2⟩=>by
  obtain ⟨xX,l1,g1,s1,r1,pQ⟩:=A3 (P:=P) hS id h1
  obtain ⟨FU,l2,g2,s2,r2,pR⟩:=F8 hS cs (cx S id c (bO.head x)).2.2 h2
  obtain ⟨g,hag⟩:=cq.both g1 g2 (fun i hi hi'=>by omega) hM
  refine ⟨Nat.le_trans xX FU,_,g.weaken (fun i hi=> ?_), ?_, ?_, ?_⟩
  · show id≤i∧i<(bH S (cx S id c (bO.head x)).2.2 cs (bO.tail x)).2.2
    rcases hi with hi | hi
    · exact ⟨hi.1,Nat.lt_of_lt_of_le hi.2 FU⟩
    · exact ⟨Nat.le_trans xX hi.1,hi.2⟩
  · show ((cx S id c (bO.head x)).1++(bH S (cx S id c (bO.head x)).2.2 cs (bO.tail x)).1).all (bW S)=true
    rw [List.all_append,s1,s2]; rfl
  · intro v hv j hj
    rcases List.mem_append.1 hv with hv | hv
    · obtain ⟨u,hu,he⟩:=r1 v hv j hj
      exact ⟨u,List.mem_append.2 (.inl hu),he⟩
    · obtain ⟨u,hu,he⟩:=r2 v hv j hj
      exact ⟨u,List.mem_append.2 (.inr hu),he⟩
  · intro μ bx ha
    obtain ⟨a1,a2⟩:=hag μ bx ha
    rw [hvs]
    exact aO.append P S (pQ μ bx a1) (pR μ bx a2)
end
end Go.Sy
namespace Go.Sy
section
variable {P:Program} {S:bf}
theorem v_: ∀ (us:aP S.C) (bx:Bx S.C) {i:Nat},(∀ u ∈ us,u.1≠i)→aA bx us i=bx i
 | [],_,_,_=>rfl
 | u::us,bx,i,h=>(v_ us _ fun u' aW=>h u' (by simp [aW])).trans (bA _ _ (Ne.symm (h u (by simp))))
theorem Dm: ∀ (us:aP S.C) (bx:Bx S.C),(∀ u ∈ us, ∀ u' ∈ us,u.1=u'.1→u=u')→ ∀ u ∈ us,aA bx us u.1=some u.2
 | [],_,_,_,h=>by simp at h
 | v::us,bx,h1,u,hu=>by
  by_cases e: ∃ u' ∈ us,u'.1=u.1
  · obtain ⟨u',aW,e⟩:=e
    have :u'=u:=h1 u' (by simp [aW]) u hu e
    subst this
    exact Dm us _ (fun a ha b hb=>h1 a (by simp [ha]) b (by simp [hb])) u' aW
  · rcases List.mem_cons.1 hu with rfl | hu
    · show aA (az bx u.1 (some u.2)) us u.1=some u.2
      rw [v_ us _ fun u' aW he=>e ⟨u',aW,he⟩,aZ]
    · exact absurd ⟨u,hu,rfl⟩ e
theorem qh {v c:Value} (h:v.cells.toList= [c]) (ha:isAgg v=false):v=c:=by
 rw [aJ.mI (t:= .bool) ha rfl] at h
 simpa using h
theorem sO (cs:List CK): ∀ (id:Nat) (x:bO S.C cs) (n:Nat),(bH S id cs x).2.2+n=id+cs.foldl oneMore n:=by
 induction cs with
 | nil=>intro id x n; rfl
 | cons c cs ih=>
  intro id x n
  have :=ih (cx S id c (bO.head x)).2.2 (bO.tail x)
  simp only [bH,List.foldl_cons]
  cases c with
  | data t=>exact this n
  | bu e=>have :=this (n+1); simp only [cx,oneMore] at this ⊢; omega
  | aY e=>have :=this (n+1); simp only [cx,oneMore] at this ⊢; omega
theorem nH {w:World} {s:St} {μ:Nat→Loc} {bx:Bx S.C} {V:V S.C} {v:Value} (h:bP P S w s μ bx V v):RV P S w s μ bx V v:=by
 cases V <;> first | exact h | exact (h:False).elim
theorem uS (hS:cU S) {w:World} {s M:St} (id:Nat) {cs:List CK} {x:bO S.C cs} {v:Value} (h:eH S w s M cs x v):
 ∃ lam,cq P S w s (fun i=>id≤i∧i<(bH S (id+1) cs x).2.2) ((id, .cells (bH S (id+1) cs x).1)::(bH S (id+1) cs x).2.1) lam M∧
  id<(bH S (id+1) cs x).2.2∧
  ∀ μ bx,Agree ((id, .cells (bH S (id+1) cs x).1)::(bH S (id+1) cs x).2.1) lam μ bx→bP P S w s μ bx (.ptr id 0) v:=by
 obtain ⟨b,o,ds,M',rfl,cw,dG,hM,hcs⟩:=h
 obtain ⟨le,l2,g2,s2,r2,pR⟩:=F8 (P:=P) hS cs (id+1) hcs
 have hne: ∀ u ∈ (bH S (id+1) cs x).2.1,u.1≠id:=fun u hu e=>by have :=(g2.ga u hu).1; omega
 let lam:Nat→Loc:=fun i=>if i=id then ⟨b,o,ds.length,0,false⟩ else l2 i
 have e1:lam id=⟨b,o,ds.length,0,false⟩:=if_pos rfl
 have e2: ∀ u ∈ (bH S (id+1) cs x).2.1,lam u.1=l2 u.1:=fun u hu=>if_neg (hne u hu)
 have hag: ∀ μ bx,Agree ((id, .cells (bH S (id+1) cs x).1)::(bH S (id+1) cs x).2.1) lam μ bx→Agree (bH S (id+1) cs x).2.1 l2 μ bx:=
  fun μ bx h u hu=>⟨(h u (by simp [hu])).1,(h u (by simp [hu])).2.trans (e2 u hu)⟩
 refine ⟨lam,⟨?_, ?_, ?_, ?_, ?_, ?_, ?_⟩,by omega, ?_⟩
 · intro u hu
   rcases List.mem_cons.1 hu with rfl | hu
   · exact ⟨Nat.le_refl _,by show id<_; omega⟩
   · have :=g2.ga u hu; omega
 · intro u hu u' aW he
   rcases List.mem_cons.1 hu with rfl | hu <;> rcases List.mem_cons.1 aW with rfl | aW
   · rfl
   · exact absurd he.symm (hne u' aW)
   · exact absurd he (hne u hu)
   · exact g2.one u hu u' aW he
 · intro μ bx ha u hu
   rcases List.mem_cons.1 hu with rfl | hu
   · show RB P S w s μ bx (lam id) (.cells _)
     rw [e1]
     have hr:=pR μ bx (hag μ bx ha)
     exact ⟨s2,(aO.length P S hr),cw,ds,dG,hr⟩
   · rw [e2 u hu]
     exact g2.rb μ bx (hag μ bx ha) u hu
 · intro bx u hu hb
   rcases List.mem_cons.1 hu with rfl | hu
   · unfold live; rw [hb]; trivial
   · exact g2.lv bx u hu hb
 · intro b' o'
   rw [hM.1 b' o',g2.aM]
   constructor
   · rintro (h | ⟨u,hu,hf⟩)
     · refine ⟨_,List.mem_cons_self, ?_⟩
       show (lam id).aM b' o'
       rw [e1]; exact h
     · exact ⟨u,by simp [hu],by rw [e2 u hu]; exact hf⟩
   · rintro ⟨u,hu,hf⟩
     rcases List.mem_cons.1 hu with rfl | hu
     · have hf:(lam id).aM b' o':=hf
       rw [e1] at hf; exact .inl hf
     · rw [e2 u hu] at hf; exact .inr ⟨u,hu,hf⟩
 · intro u hu u' aW hn b' o' hf hf'
   rcases List.mem_cons.1 hu with rfl | hu <;> rcases List.mem_cons.1 aW with rfl | aW
   · exact hn rfl
   · have hf:(lam id).aM b' o':=hf
     rw [e1] at hf; rw [e2 u' aW] at hf'
     exact hM.2 b' o' hf ((g2.aM b' o').2 ⟨u',aW,hf'⟩)
   · have hf':(lam id).aM b' o':=hf'
     rw [e1] at hf'; rw [e2 u hu] at hf
     exact hM.2 b' o' hf' ((g2.aM b' o').2 ⟨u,hu,hf⟩)
   · rw [e2 u hu] at hf; rw [e2 u' aW] at hf'
     exact g2.dB u hu u' aW hn b' o' hf hf'
 · intro u hu vs hvs v hv j hj
   rcases List.mem_cons.1 hu with rfl | hu
   · rcases hvs with hvs | hvs
     · cases hvs
       obtain ⟨u',aW,he⟩:=r2 v hv j hj
       exact ⟨u',by simp [aW],he⟩
     · cases hvs
   · obtain ⟨u',aW,he⟩:=g2.ref u hu vs hvs v hv j hj
     exact ⟨u',by simp [aW],he⟩
 · intro μ bx ha
   have :=(ha (id, .cells (bH S (id+1) cs x).1) (by simp)).2
   dsimp only at this
   show _=_
   rw [this,e1]
   rfl
theorem D6 {w:World} {s M:St} (i j:Nat) (hne:j≠i) (L:Loc) (h0:L.o=0) (h2:L.n=2) {x:List UInt8} {v:Value} (hv:v= .pointer (some ⟨L.b,L.o,none⟩)) (h:oP S w M x v):
 ∃ lam,lam i=L∧cq P S w s (fun k=>k=i∨k=j) [(i, .bn j),(j, .buf x)] lam M:=by
 obtain ⟨b,R,hb,hh,hr,hM⟩:=h
 rw [hb] at hv
 have hb':b=L.b:=by
  simp only [Value.pointer.injEq,Option.some.injEq,Addr.mk.injEq] at hv
  exact hv.1
 subst hb'
 let lam:Nat→Loc:=fun k=>if k=i then L else R
 have e1:lam i=L:=if_pos rfl
 have e2:lam j=R:=if_neg hne
 have fL: ∀ b' o',(Loc.mk L.b 0 2 0 false).aM b' o'↔L.aM b' o':=fun b' o'=>by
  unfold Loc.aM
  show b'=L.b∧0≤o'∧o'<0+2↔b'=L.b∧L.o≤o'∧o'<L.o+L.n
  rw [h0,h2]
 refine ⟨lam,e1,⟨?_, ?_, ?_, ?_, ?_, ?_, ?_⟩⟩
 · intro u hu
   simp only [List.mem_cons,List.not_mem_nil,or_false] at hu
   rcases hu with rfl | rfl
   · exact .inl rfl
   · exact .inr rfl
 · intro u hu u' aW he
   simp only [List.mem_cons,List.not_mem_nil,or_false] at hu aW
   rcases hu with rfl | rfl <;> rcases aW with rfl | rfl
   · rfl
   · exact absurd he.symm hne
   · exact absurd he hne
   · rfl
 · intro μ bx ha u hu
   have a1:=ha (i, .bn j) (by simp)
   have a2:=ha (j, .buf x) (by simp)
   simp only [List.mem_cons,List.not_mem_nil,or_false] at hu
   rcases hu with rfl | rfl
   · show RB P S w s μ bx (lam i) (.bn j)
     rw [e1]
     refine ⟨h0,h2,by rw [a2.1]; simp,_,hh,fun l hl=> ?_⟩
     rw [a2.1] at hl
     cases hl
     rw [a2.2,e2]
   · show RB P S w s μ bx (lam j) (.buf x)
     rw [e2]
     exact hr
 · intro bx u hu hb
   simp only [List.mem_cons,List.not_mem_nil,or_false] at hu
   rcases hu with rfl | rfl <;> · unfold live; rw [hb]; trivial
 · intro b' o'
   rw [hM.1 b' o',fL]
   constructor
   · rintro (h | h)
     · exact ⟨(i, .bn j),by simp,by show (lam i).aM b' o'; rw [e1]; exact h⟩
     · exact ⟨(j, .buf x),by simp,by show (lam j).aM b' o'; rw [e2]; exact h⟩
   · rintro ⟨u,hu,hf⟩
     simp only [List.mem_cons,List.not_mem_nil,or_false] at hu
     rcases hu with rfl | rfl
     · have hf:(lam i).aM b' o':=hf
       rw [e1] at hf; exact .inl hf
     · have hf:(lam j).aM b' o':=hf
       rw [e2] at hf; exact .inr hf
 · intro u hu u' aW hn b' o' hf hf'
   simp only [List.mem_cons,List.not_mem_nil,or_false] at hu aW
   rcases hu with rfl | rfl <;> rcases aW with rfl | rfl
   · exact hn rfl
   · have hf:(lam i).aM b' o':=hf
     have hf':(lam j).aM b' o':=hf'
     rw [e1] at hf; rw [e2] at hf'
     exact hM.2 b' o' ((fL _ _).2 hf) hf'
   · have hf':(lam i).aM b' o':=hf'
     have hf:(lam j).aM b' o':=hf
     rw [e1] at hf'; rw [e2] at hf
     exact hM.2 b' o' ((fL _ _).2 hf') hf
   · exact hn rfl
 · intro u hu vs hvs
   simp only [List.mem_cons,List.not_mem_nil,or_false] at hu
   rcases hu with rfl | rfl <;> rcases hvs with hvs | hvs <;> cases hvs
theorem SD (hS:cU S) {w:World} {s M:St} (id:Nat) {k:K} (hk:(match k with | .opt _=>false | _=>true)=true) {x:k.den S.C} {v:Value} (h:nF P S w s M k x v):
 ∃ lam,cq P S w s (fun i=>id≤i∧i<id+o9 k) (e_ S id k x).2 lam M∧(∀ j ∈ aH S (e_ S id k x).1, ∃ u ∈ (e_ S id k x).2,u.1=j)∧
  ∀ μ bx,Agree (e_ S id k x).2 lam μ bx→RV P S w s μ bx (e_ S id k x).1 v:=by
 cases k with
 | val c=>
  obtain ⟨h1,h2⟩:=h
  obtain ⟨le,lam,g,s1,r1,rv⟩:=A3 (P:=P) hS id h1
  cases c with
  | data t=>
   obtain ⟨hM,n,hn⟩:=h1
   exact ⟨fun _=>⟨0,0,0,0,true⟩,cq.nil hM _,by simp [e_,aH,aF],fun μ bx _=>⟨h2,n,hn⟩⟩
  | bu e=>
   refine ⟨lam,g,fun j hj=>r1 (.bu id e x) (by simp [cx]) j hj,fun μ bx ha=> ?_⟩
   obtain ⟨c,r,hc,hv,hr⟩:=rv μ bx ha
   cases hr
   rw [qh hc h2]
   exact nH hv
  | aY e=>
   refine ⟨lam,g,fun j hj=>r1 (.aY id) (by simp [cx]) j hj,fun μ bx ha=> ?_⟩
   obtain ⟨c,r,hc,hv,hr⟩:=rv μ bx ha
   cases hr
   rw [qh hc h2]
   exact nH hv
 | obj cs=>
  obtain ⟨lam,g,le,rv⟩:=uS (P:=P) hS id h
  refine ⟨lam,g.weaken fun i hi=> ?_,fun j hj=>⟨(id, .cells (bH S (id+1) cs x).1),by simp [e_],by simp [e_,aH,aF] at hj; exact hj.symm⟩,fun μ bx ha=>nH (rv μ bx ha)⟩
  have :=sO cs (id+1) x 0
  simp only [o9]
  omega
 | opt cs=>cases hk
 | cc t cs=>
  obtain ⟨b0,o0,p,M1,M2,hv,cN,hM,h1,h2⟩:=h
  obtain ⟨l1,g1,xX,pQ⟩:=uS (P:=P) hS id h1
  obtain ⟨l2,g2,FU,pR⟩:=uS (P:=P) hS (id+1) h2
  have hz:=sO cs (id+1+1) x.2 0
  obtain ⟨g,hag⟩:=cq.both g1 g2 (fun i q1 q2=>by
   have WI:i<id+1:=q1.2
   omega) hM
  refine ⟨_,g.weaken fun i hi=> ?_,fun j hj=> ?_,fun μ bx ha=> ?_⟩
  · simp only [o9]
    rcases hi with hi | hi
    · have WI:i<id+1:=hi.2
      omega
    · omega
  · have hj:j ∈ [id+1,id]:=hj
    simp only [List.mem_cons,List.not_mem_nil,or_false] at hj
    rcases hj with rfl | rfl
    · exact ⟨(id+1,_),List.mem_cons_of_mem _ (List.mem_cons_self),rfl⟩
    · exact ⟨(j,_),List.mem_cons_self,rfl⟩
  · obtain ⟨a1,a2⟩:=hag μ bx ha
    have e1:Value.pointer (some p)= .pointer (some ⟨(μ id).b,(μ id).o+0,none⟩):=pQ μ bx a1
    have e2:Value.pointer (some ⟨b0,o0+1,none⟩)= .pointer (some ⟨(μ (id+1)).b,(μ (id+1)).o+0,none⟩):=pR μ bx a2
    cases e1
    simp only [Value.pointer.injEq,Option.some.injEq,Addr.mk.injEq] at e2
    exact ⟨b0,o0,hv,cN,e2.1.symm,by omega⟩
 | cD cs=>
  obtain ⟨p,hv,h⟩:=h
  obtain ⟨lam,g,le,rv⟩:=uS (P:=P) hS id h
  refine ⟨lam,g.weaken fun i hi=> ?_,fun j hj=>⟨(id, .cells (bH S (id+1) cs x).1),by simp [e_],by simp [e_,aH,aF] at hj; exact hj.symm⟩,fun μ bx ha=>nH ?_⟩
  · have :=sO cs (id+1) x 0
    simp only [o9]
    omega
  · have :Value.pointer (some p)= .pointer (some ⟨(μ id).b,(μ id).o+0,none⟩):=rv μ bx ha
    show v= .slice (some ⟨(μ id).b,(μ id).o,none⟩) (CK.cB S cs) (CK.cB S cs)
    rw [hv]
    cases this
    rfl
 | err=>exact ⟨fun _=>⟨0,0,0,0,true⟩,cq.nil h.1 _,by simp [e_,aH,aF],fun μ bx _=>h.2⟩
 | bn=>
  have h:oP S w M x v:=h
  obtain ⟨b,R,hb,_⟩:=Iff.mp Iff.rfl h
  obtain ⟨lam,e,g⟩:=D6 (P:=P) (s:=s) id (id+1) (by omega) ⟨b,0,2,0,false⟩ rfl rfl hb h
  refine ⟨lam,g.weaken fun i hi=> ?_,fun j hj=>⟨(id, .bn (id+1)),by simp [e_],by simp [e_,aH,aF] at hj; exact hj.symm⟩,fun μ bx ha=>nH ?_⟩
  · simp only [o9]; omega
  · have a1:=(ha (id, .bn (id+1)) (by simp [e_])).2
    show v= .pointer (some ⟨(μ id).b,(μ id).o+0,none⟩)
    rw [hb,show μ id=lam id from a1,e]
 | nil=>exact ⟨fun _=>⟨0,0,0,0,true⟩,cq.nil h.1 _,by simp [e_,aH,aF],fun μ bx _=>h.2⟩
 | ro t=>exact ⟨fun _=>⟨0,0,0,0,true⟩,cq.nil h.1 _,by simp [e_,aH,aF],fun μ bx _=>h.2⟩
 | fn a r=>exact ⟨fun _=>⟨0,0,0,0,true⟩,cq.nil h.1 _,by simp [e_,aH,aF],fun μ bx _=>h.2⟩
def wD (a:Act):List Nat→List Value→Prop
 | [],vs=>vs= []
 | t::sl,vs=> ∃ v r,vs=v::r∧a.tmps.getD t Go.undef=v∧wD a sl r
theorem JO (hS:cU S) {w:World} {s:St} (a:Act): ∀ (ks:List K) (sl:List Nat) {M:St} {x:Ks S.C ks} {vs:List Value} (env:Env S.C),mm sl ks=true→cl P S w s M ks x vs→wD a sl vs→
 ∃ us lam,cq P S w s (fun i=> ∃ t ∈ sl,16*t≤i∧i<16*t+16) us lam M∧(fS S ks sl x env).bx=aA env.bx us∧
  (∀ t,t ∉ sl→(fS S ks sl x env).tm t=env.tm t)∧
  ∀ t ∈ sl,(∀ j ∈ aH S ((fS S ks sl x env).tm t), ∃ u ∈ us,u.1=j)∧ ∀ μ bx,Agree us lam μ bx→RV P S w s μ bx ((fS S ks sl x env).tm t) (a.tmps.getD t Go.undef)
 | [],[],M,x,vs,env,_,h,_=>⟨[],fun _=>⟨0,0,0,0,true⟩,cq.nil h.1 _,rfl,fun _ _=>rfl,by simp⟩
 | [],_::_,_,_,_,_,h,_,_=>by cases h
 | _::_,[],_,_,_,_,h,_,_=>by cases h
 | k::ks,t::sl,M,x,vs,env,hok,⟨M1,M2,v,r,hM,hvs,h1,h2⟩,⟨v',r',xK,ht,gX⟩=>by
  simp only [mm,Bool.and_eq_true,Bool.not_eq_true'] at hok
  obtain ⟨⟨⟨o1,o2⟩,o3⟩,o4⟩:=hok
  have ot:t ∉ sl:=by
   intro hm
   have :=List.contains_iff_mem.2 hm
   rw [o2] at this; cases this
  rw [hvs] at xK
  cases xK
  obtain ⟨l1,g1,r1,pQ⟩:=SD (P:=P) hS (16*t) o3 h1
  obtain ⟨oI,l2,g2,hb,hto,AD⟩:=JO hS a ks sl (env.apply (some t) (e_ S (16*t) k (Ks.head x)).1 (e_ S (16*t) k (Ks.head x)).2) o4 h2 gX
  obtain ⟨g,hag⟩:=cq.both (g1.weaken (I':=fun i=>16*t≤i∧i<16*t+16) fun i hi=>⟨hi.1,by have :=Nat.le_of_ble_eq_true o1; omega⟩) g2 (fun i hi ⟨t',ht',h1,h2⟩=>ot (by
   have :t'=t:=by omega
   exact this▸ht')) hM
  refine ⟨_,_,g.weaken fun i hi=> ?_, ?_, ?_, ?_⟩
  · rcases hi with hi | ⟨t',ht',hi⟩
    · exact ⟨t,by simp,hi⟩
    · exact ⟨t',by simp [ht'],hi⟩
  · rw [jX]; exact hb
  · intro t' ht'
    have e1:=hto t' (fun h=>ht' (by simp [h]))
    rw [show (fS S (k::ks) (t::sl) x env).tm t'=_ from e1]
    exact bA _ _ (fun h=>ht' (by simp [h]))
  · intro t' ht'
    by_cases e:t'=t
    · subst e
      have e1:=hto t' ot
      rw [show (fS S (k::ks) (t'::sl) x env).tm t'=_ from e1]
      rw [show (env.apply (some t') (e_ S (16*t') k (Ks.head x)).1 (e_ S (16*t') k (Ks.head x)).2).tm t'=(e_ S (16*t') k (Ks.head x)).1 from aZ _ _ _]
      refine ⟨fun j hj=> ?_,fun μ bx ha=> ?_⟩
      · obtain ⟨u,hu,he⟩:=r1 j hj
        exact ⟨u,List.mem_append.2 (.inl hu),he⟩
      · rw [ht]; exact pQ μ bx (hag μ bx ha).1
    · have Uf:t' ∈ sl:=by rcases List.mem_cons.1 ht' with h | h; exact absurd h e; exact h
      obtain ⟨h1,h2⟩:=AD t' Uf
      refine ⟨fun j hj=> ?_,fun μ bx ha=>h2 μ bx (hag μ bx ha).2⟩
      obtain ⟨u,hu,he⟩:=h1 j hj
      exact ⟨u,List.mem_append.2 (.inr hu),he⟩
theorem JN: ∀ (ks:List K) (sl:List Nat) (x:Ks S.C ks) (env:Env S.C),(fS S ks sl x env).df=env.df
 | [],_,_,_=>rfl
 | _::_,[],_,_=>rfl
 | k::r,t::sl,x,env=>JN r sl (Ks.tail x) _
theorem JP (hS:cU S) {w0:World} {M0 s0:St} {dq:List Deferred} {w:World} {s M:St} {a:Act} {ks:List K} {sl:List Nat} {x:Ks S.C ks} {vs:List Value}
 (hok:mm sl ks=true) (h:cl P S w s M ks x vs) (gX:wD a sl vs) (hs: ∀ b o,s b o→b<w.heap.size∧(s0 b o∨M0 b o∨w0.heap.size≤b)∧ ¬ M b o)
 (hM: ∀ b o,M b o→w0.heap.size≤b∨M0 b o) (hc:br w0 w M0) {df:Bool} (hd:a.defers=cond df dq []) (hG:jx S w0 M0): ∃ μ,Inv P S w0 M0 s0 dq (fS S ks sl x (Env.none S df)) a w μ:=by
 obtain ⟨us,lam,g,hb,hto,AD⟩:=JO (P:=P) hS a ks sl (Env.none S df) hok h gX
 have hin: ∀ i B,(fS S ks sl x (Env.none S df)).bx i=some B→(i,B) ∈ us:=by
  intro i B hi
  rw [hb] at hi
  by_cases e: ∃ u ∈ us,u.1=i
  · obtain ⟨u,hu,rfl⟩:=e
    rw [Dm us _ g.one u hu] at hi
    cases hi
    exact hu
  · rw [v_ us _ fun u hu he=>e ⟨u,hu,he⟩] at hi
    cases hi
 have hag:Agree us lam lam (fS S ks sl x (Env.none S df)).bx:=fun u hu=>⟨by rw [hb]; exact Dm us _ g.one u hu,rfl⟩
 have cn: ∀ i,live S (fS S ks sl x (Env.none S df)).bx i→ ∃ u ∈ us,u.1=i:=by
  intro i hi
  unfold live at hi
  cases e:(fS S ks sl x (Env.none S df)).bx i with
  | none=>rw [e] at hi; exact hi.elim
  | some B=>exact ⟨(i,B),hin i B e,rfl⟩
 have hl:b7 w s w (aN S w0 M0 s0 (fS S ks sl x (Env.none S df)).bx lam w):=fun b o Uc=>by
  obtain ⟨h1,h2,h3⟩:=hs b o Uc
  refine ⟨⟨h1,h2,fun i hi hf=> ?_⟩,rfl⟩
  obtain ⟨u,hu,rfl⟩:=cn i hi
  exact h3 ((g.aM b o).2 ⟨u,hu,hf⟩)
 have cG: ∀ i B0,(fS S ks sl x (Env.none S df)).bx i=some B0→ ∃ B,(fS S ks sl x (Env.none S df)).bx i=some B∧cL S (lam i) (lam i) B0 B:=fun i B hi=>⟨B,hi,cL.refl S _ _⟩
 have uF: ∀ j,(∃ u ∈ us,u.1=j)→(fS S ks sl x (Env.none S df)).bx j≠none:=by
  rintro j ⟨u,hu,rfl⟩
  rw [(hag u hu).1]; simp
 refine ⟨lam,⟨fun t=> ?_,fun i B hi=> ?_,fun i j hij li lj b o fi fj=> ?_,fun i li b o fi=> ?_,fun t i hi=> ?_,fun i vs' hvs v hv j hj=> ?_,hc,by rw [JN]; exact hd,hG⟩⟩
 · by_cases ht:t ∈ sl
   · obtain ⟨h1,h2⟩:=AD t ht
     exact RV.step P S hl cG (fun i hi=>uF i (h1 i hi)) (h2 lam _ hag)
   · rw [hto t ht]; trivial
 · have hu:=hin i B hi
   have hr:=g.rb lam _ hag (i,B) hu
   cases B with
   | cells vs'=>
    obtain ⟨h1,h2,h3,cs,h4,h5⟩:=hr
    exact ⟨h1,h2,h3,cs,h4,aO.step P S hl cG (fun v hv j hj=>uF j (g.ref _ hu vs' (.inl rfl) v hv j hj)) h5⟩
   | bX vs'=>
    obtain ⟨h1,cs,h4,h5⟩:=hr
    exact ⟨h1,cs,h4.later hl,aO.step P S hl cG (fun v hv j hj=>uF j (g.ref _ hu vs' (.inr rfl) v hv j hj)) h5⟩
   | arr e l=>
    obtain ⟨h1,h2,h3,h4,h5⟩:=hr
    refine ⟨h1,h2,h3,h4,fun k y hk=> ?_⟩
    obtain ⟨ds,d1,d2,n,d3⟩:=h5 k y hk
    exact ⟨ds,d1,d2,n,d3.mono S hl (Nat.le_refl _)⟩
   | bR e l=>
    obtain ⟨h2,h3,h5⟩:=hr
    refine ⟨h2,h3,fun k y hk=> ?_⟩
    obtain ⟨ds,d1,d2,n,d3⟩:=h5 k y hk
    exact ⟨ds,d1,d2.later hl,n,d3.mono S hl (Nat.le_refl _)⟩
   | tail=>exact hr
   | dead=>trivial
   | bn j=>exact hr
   | buf l=>exact hr
 · obtain ⟨u,hu,rfl⟩:=cn i li
   obtain ⟨u',aW,rfl⟩:=cn j lj
   exact g.dB u hu u' aW hij b o fi fj
 · obtain ⟨u,hu,rfl⟩:=cn i li
   exact hM b o ((g.aM b o).2 ⟨u,hu,fi⟩)
 · by_cases ht:t ∈ sl
   · exact uF i ((AD t ht).1 i hi)
   · rw [hto t ht] at hi
     simp [Env.none,aH,aF] at hi
 · rcases hvs with hvs | hvs
   · exact uF j (g.ref _ (hin i _ hvs) vs' (.inl rfl) v hv j hj)
   · exact uF j (g.ref _ (hin i _ hvs) vs' (.inr rfl) v hv j hj)
end
end Go.Sy
namespace Go.Sy
def Tr.leaf {X:Type} :Tr X→X→Prop
 | .fail,_=>False
 | .ret y,x=>y=x
 | .ite p _ a b,x=>(p∧a.leaf x)∨(¬ p∧b.leaf x)
 | .bind _ m f,x=> ∃ y,m=some y∧(f y).leaf x
 | .opt _ m n s,x=>(m=none∧n.leaf x)∨ ∃ y,m=some y∧(s y).leaf x
theorem Tr.tG {X R:Type} : ∀ (t:Tr X) {k:X→Option R} {r:R},t.run k=some r→ ∃ x,t.leaf x∧k x=some r
 | .fail,_,_,h=>by cases h
 | .ret x,_,_,h=>⟨x,rfl,h⟩
 | .ite p i a b,k,r,h=>by
  by_cases hp:p
  · rw [Tr.run,if_pos hp] at h
    obtain ⟨x,h1,h2⟩:=Tr.tG a h
    exact ⟨x, .inl ⟨hp,h1⟩,h2⟩
  · rw [Tr.run,if_neg hp] at h
    obtain ⟨x,h1,h2⟩:=Tr.tG b h
    exact ⟨x, .inr ⟨hp,h1⟩,h2⟩
 | .bind _ m f,k,r,h=>by
  obtain ⟨y,hy,h⟩:=Option.bind_eq_some_iff.1 h
  obtain ⟨x,h1,h2⟩:=Tr.tG (f y) h
  exact ⟨x,⟨y,hy,h1⟩,h2⟩
 | .opt _ m n s,k,r,h=>by
  cases m with
  | none=>
   obtain ⟨x,h1,h2⟩:=Tr.tG n h
   exact ⟨x, .inl ⟨rfl,h1⟩,h2⟩
  | some y=>
   obtain ⟨x,h1,h2⟩:=Tr.tG (s y) h
   exact ⟨x, .inr ⟨y,rfl,h1⟩,h2⟩
theorem Tr.FV {X:Type} : ∀ (gs:List Gd) {t:Tr X} {x:X},(Tr.gd gs t).leaf x→(∀ g ∈ gs,g.p)∧t.leaf x
 | [],_,_,h=>⟨by simp,h⟩
 | g::gs,t,x,h=>by
  rcases h with ⟨h1,h2⟩ | ⟨_,h2⟩
  · obtain ⟨h3,h4⟩:=Tr.FV gs h2
    exact ⟨fun g' hg=>(List.mem_cons.1 hg).elim (fun e=>e▸h1) (h3 g'),h4⟩
  · exact h2.elim
section
variable {P:Program} {S:bf}
variable {w0:World} {M0 s0:St} {dq:List Deferred} {env:Env S.C} {a:Act} {w:World} {μ:Nat→Loc}
theorem Inv.tk (h:Inv P S w0 M0 s0 dq env a w μ) {aq:Bx S.C} (hk:Tk S env.bx aq):Inv P S w0 M0 s0 dq { env with bx:=aq } a w μ:=by
 have hf: ∀ i, ¬ aq i=env.bx i→live S aq i→False:=fun i hi hl=>hi (hk.eg hl)
 refine h.step (T:=fun _ _=>False) (U:=fun i=> ¬ aq i=env.bx i) (br.refl w _) (fun _ _ h=>h.elim) (fun i hi=>⟨Classical.not_not.1 hi,rfl⟩)
  (fun i hi hl=>(hf i hi hl).elim) (fun i B0 bV=> ?_) (fun i _ hi _ _ hl=>(hf i hi hl).elim) (fun i B hi hB=> ?_) (fun i vs hi hvs=> ?_)
 · rcases hk i with e | ⟨e,hl⟩ | ⟨e,l,e1,e2⟩
   · exact ⟨B0,e.trans bV,cL.refl S _ _⟩
   · refine ⟨_,e, ?_⟩
     cases B0 <;> rfl
   · rw [bV] at e1
     cases e1
     exact ⟨_,e2,rfl,rfl,rfl⟩
 · rcases hk i with e | ⟨e,_⟩ | ⟨e,l,e1,e2⟩
   · exact absurd e hi
   · rw [e] at hB; cases hB; trivial
   · rw [e2] at hB
     cases hB
     have cn:live S env.bx i:=by unfold live; rw [e1]; trivial
     obtain ⟨g1,g2,g3,g4,h3⟩:=h.cm i _ e1
     have hl:b7 w (aN S w0 M0 s0 env.bx μ w) w (aN S w0 M0 s0 aq μ w):=h.later (T:=fun _ _=>False) (U:=fun i=> ¬ aq i=env.bx i) (br.refl w _) (fun _ _ h=>h.elim) (fun i hi=>⟨Classical.not_not.1 hi,rfl⟩)
      (fun i hi hl=>(hf i hi hl).elim)
     refine ⟨g2,g3,fun k x xu=> ?_⟩
     obtain ⟨ds,d1,d2,n,d3⟩:=h3 k x xu
     refine ⟨ds,d1,fun j u hj=>⟨d2 j u hj, ?_⟩,n,d3.mono S hl (Nat.le_refl _)⟩
     have hj':=(List.getElem?_eq_some_iff.1 hj).1
     have uD:=(List.getElem?_eq_some_iff.1 xu).1
     have je:(μ i).aM (μ i).b ((μ i).o+k*Ty.sz S e+j):=by
      refine ⟨rfl,by omega, ?_⟩
      have :(k+1)*Ty.sz S e≤(μ i).cap*Ty.sz S e:=Nat.mul_le_mul_right _ (by omega)
      rw [Nat.add_mul,Nat.one_mul] at this
      omega
     refine ⟨(mW P S (h.cm i) cn je).1,(h.own i cn _ _ je).elim (fun h=> .inr (.inr h)) (fun h=> .inr (.inl h)),fun j xp hf'=> ?_⟩
     have hj0:=(eM S (hk.eg xp)).1 xp
     refine h.dB j i (fun e'=> ?_) hj0 cn _ _ hf' je
     subst e'
     unfold live at xp
     rw [e2] at xp
     exact xp
 · rcases hk i with e | ⟨e,_⟩ | ⟨e,l,e1,e2⟩
   · exact absurd e hi
   · rcases hvs with hvs | hvs <;> · rw [e] at hvs; cases hvs
   · rcases hvs with hvs | hvs <;> · rw [e2] at hvs; cases hvs
theorem Inv.Ga (h:Inv P S w0 M0 s0 dq env a w μ) {w':World} (hw:br w w' (fun _ _=>False)) {i:Nat} (hi:env.bx i=none) {B:dX S.C} {L:Loc}
 (hf: ∀ b o,L.aM b o→w.heap.size≤b)
 (hb:b7 w (aN S w0 M0 s0 env.bx μ w) w' (aN S w0 M0 s0 (az env.bx i (some B)) (az μ i L) w')→
  (∀ V v,RV P S w (aN S w0 M0 s0 env.bx μ w) μ env.bx V v→(∀ j ∈ aH S V,env.bx j≠none)→RV P S w' (aN S w0 M0 s0 (az env.bx i (some B)) (az μ i L) w') (az μ i L) (az env.bx i (some B)) V v)→
  (∀ V v,bP P S w (aN S w0 M0 s0 env.bx μ w) μ env.bx V v→(∀ j ∈ aF S V,env.bx j≠none)→bP P S w' (aN S w0 M0 s0 (az env.bx i (some B)) (az μ i L) w') (az μ i L) (az env.bx i (some B)) V v)→
  RB P S w' (aN S w0 M0 s0 (az env.bx i (some B)) (az μ i L) w') (az μ i L) (az env.bx i (some B)) L B)
 (hr: ∀ vs,(B= .cells vs∨B= .bX vs)→ ∀ v ∈ vs, ∀ j ∈ aF S v,env.bx j≠none):
 Inv P S w0 M0 s0 dq { env with bx:=az env.bx i (some B) } a w' (az μ i L)∧
  b7 w (aN S w0 M0 s0 env.bx μ w) w' (aN S w0 M0 s0 (az env.bx i (some B)) (az μ i L) w')∧
  (∀ V v,RV P S w (aN S w0 M0 s0 env.bx μ w) μ env.bx V v→(∀ j ∈ aH S V,env.bx j≠none)→RV P S w' (aN S w0 M0 s0 (az env.bx i (some B)) (az μ i L) w') (az μ i L) (az env.bx i (some B)) V v):=by
 have hU: ∀ j, ¬ j=i→az env.bx i (some B) j=env.bx j∧az μ i L j=μ j:=fun j hj=>⟨bA _ _ hj,bA _ _ hj⟩
 have KZ: ∀ j,j=i→live S (az env.bx i (some B)) j→ ∀ b o,(az μ i L j).aM b o→w.heap.size≤b∨ ∃ k,k=i∧live S env.bx k∧(μ k).aM b o:=by
  rintro j rfl _ b o hfo
  rw [aZ] at hfo
  exact .inl (hf b o hfo)
 have hc: ∀ j B0,env.bx j=some B0→ ∃ B',az env.bx i (some B) j=some B'∧cL S (μ j) (az μ i L j) B0 B':=by
  intro j B0 hj
  have :j≠i:=fun e=>by subst e; rw [hi] at hj; cases hj
  rw [bA _ _ this,bA _ _ this]
  exact ⟨B0,hj,cL.refl S _ _⟩
 have hl:=h.later (T:=fun _ _=>False) (U:=fun j=>j=i) hw (fun _ _ h=>h.elim) hU KZ
 have oY:=fun V v (hv:RV P S w (aN S w0 M0 s0 env.bx μ w) μ env.bx V v) hr=>RV.step P S hl hc hr hv
 have SQ:=fun V v (hv:bP P S w (aN S w0 M0 s0 env.bx μ w) μ env.bx V v) hr=>bP.step P S hl hc hr hv
 refine ⟨h.step (T:=fun _ _=>False) (U:=fun j=>j=i) hw (fun _ _ h=>h.elim) hU KZ hc ?_ ?_ ?_,hl,oY⟩
 · rintro j k rfl rfl hne; exact absurd rfl hne
 · rintro j B' rfl iF
   rw [aZ] at iF
   cases iF
   rw [aZ]
   exact hb hl oY SQ
 · rintro j vs rfl hvs v hv k hk
   rw [aZ] at hvs
   have h0:=hr vs (by rcases hvs with hvs | hvs <;> · cases hvs; simp) v hv k hk
   obtain ⟨B0,bV⟩:=Option.ne_none_iff_exists'.1 h0
   obtain ⟨B',iF,_⟩:=hc k B0 bV
   rw [iF]; simp
theorem bI (h:Inv P S w0 M0 s0 dq env a w μ) {x:Operand} {V:V S.C} (hx:aX S env.tm x=some V):
 RV P S w (aN S w0 M0 s0 env.bx μ w) μ env.bx V (a.eval x)∧ ∀ i ∈ aH S V,env.bx i≠none:=by
 cases x with
 | tmp t=>cases hx; exact ⟨h.kJ t,h.ref t⟩
 | const v=>
  simp only [aX,Jy] at hx
  split at hx <;> cases hx
  · exact ⟨⟨rfl,1,rfl⟩,by simp [aH,aF]⟩
  · exact ⟨⟨rfl,1,rfl⟩,by simp [aH,aF]⟩
  · rename_i s
    refine ⟨⟨rfl,1, ?_⟩,by simp [aH,aF]⟩
    show [Value.string s]= [Value.string ⟨s.data.toList.toArray⟩]
    cases s; simp
  · exact ⟨rfl,by simp [aH,aF]⟩
  · exact ⟨rfl,by simp [aH,aF]⟩
 | func f=>cases hx; exact ⟨⟨#[],rfl,rfl⟩,by simp [aH]⟩
 | global g=>cases hx
theorem wp_pure (h:Inv P S w0 M0 s0 dq env a w μ) {o:Oper} {K:Act→World→Prop} {Q:Exit→Act→World→Prop} {V:V S.C} {v:Value}
 (hrun:(execOp a.eval o).run P w= .ok (.value v) w) (hd: ∀ d,o.dst=some d→d<a.tmps.size)
 (hv:RV P S w (aN S w0 M0 s0 env.bx μ w) μ env.bx V v) (hr: ∀ i ∈ aH S V,env.bx i≠none)
 (hK: ∀ a' w' μ',Inv P S w0 M0 s0 dq (env.apply o.dst V []) a' w' μ'→a'.tmps.size=a.tmps.size→K a' w'):o.wp P a w K Q:=by
 unfold Oper.wp
 rw [hrun]
 refine hK _ w μ (h.put hd hv hr) ?_
 cases o.dst <;> simp [Act.put]
theorem aaS (h:Inv P S w0 M0 s0 dq env a w μ) {o:Oper} {K:Act→World→Prop} {Q:Exit→Act→World→Prop} {V:V S.C} {v:Value} {us:aP S.C}
 (hrun:(execOp a.eval o).run P w= .ok (.value v) w) (hd: ∀ d,o.dst=some d→d<a.tmps.size) (hk:Tk S env.bx (aA env.bx us))
 (hv:Inv P S w0 M0 s0 dq { env with bx:=aA env.bx us } a w μ→RV P S w (aN S w0 M0 s0 (aA env.bx us) μ w) μ (aA env.bx us) V v) (hr: ∀ i ∈ aH S V,aA env.bx us i≠none)
 (hK: ∀ a' w' μ',Inv P S w0 M0 s0 dq (env.apply o.dst V us) a' w' μ'→a'.tmps.size=a.tmps.size→K a' w'):o.wp P a w K Q:=by
 unfold Oper.wp
 rw [hrun]
 have hI:=h.tk hk
 refine hK _ w μ (hI.put hd (hv hI) hr) ?_
 cases o.dst <;> simp [Act.put]
theorem Ow {aq:Bx S.C} (hk:Tk S env.bx aq):b7 w (aN S w0 M0 s0 env.bx μ w) w (aN S w0 M0 s0 aq μ w):=fun b o ⟨h1,h2,h3⟩=>
 ⟨⟨h1,h2,fun i hi=>h3 i ((eM S (hk.eg hi)).1 hi)⟩,rfl⟩
theorem rj (h:Inv P S w0 M0 s0 dq env a w μ) {o:Oper} {K:Act→World→Prop} {Q:Exit→Act→World→Prop} {w':World} {V:V S.C} {v:Value} {i:Nat} {B:dX S.C} {L:Loc}
 (hrun:(execOp a.eval o).run P w= .ok (.value v) w') (hd: ∀ d,o.dst=some d→d<a.tmps.size) (hw:br w w' (fun _ _=>False)) (hi:env.bx i=none)
 (hf: ∀ b o,L.aM b o→w.heap.size≤b)
 (hb:b7 w (aN S w0 M0 s0 env.bx μ w) w' (aN S w0 M0 s0 (az env.bx i (some B)) (az μ i L) w')→
  (∀ V v,RV P S w (aN S w0 M0 s0 env.bx μ w) μ env.bx V v→(∀ j ∈ aH S V,env.bx j≠none)→RV P S w' (aN S w0 M0 s0 (az env.bx i (some B)) (az μ i L) w') (az μ i L) (az env.bx i (some B)) V v)→
  (∀ V v,bP P S w (aN S w0 M0 s0 env.bx μ w) μ env.bx V v→(∀ j ∈ aF S V,env.bx j≠none)→bP P S w' (aN S w0 M0 s0 (az env.bx i (some B)) (az μ i L) w') (az μ i L) (az env.bx i (some B)) V v)→
  RB P S w' (aN S w0 M0 s0 (az env.bx i (some B)) (az μ i L) w') (az μ i L) (az env.bx i (some B)) L B∧
  RV P S w' (aN S w0 M0 s0 (az env.bx i (some B)) (az μ i L) w') (az μ i L) (az env.bx i (some B)) V v)
 (hr: ∀ vs,(B= .cells vs∨B= .bX vs)→ ∀ v ∈ vs, ∀ j ∈ aF S v,env.bx j≠none) (hV: ∀ j ∈ aH S V,j=i∨env.bx j≠none)
 (hK: ∀ a' w' μ',Inv P S w0 M0 s0 dq (env.apply o.dst V [(i,B)]) a' w' μ'→a'.tmps.size=a.tmps.size→K a' w'):o.wp P a w K Q:=by
 unfold Oper.wp
 rw [hrun]
 have xL:RV P S w' (aN S w0 M0 s0 (az env.bx i (some B)) (az μ i L) w') (az μ i L) (az env.bx i (some B)) V v:=by
  obtain ⟨_,hl,oY⟩:=h.Ga hw hi hf (fun h1 h2 h3=>(hb h1 h2 h3).1) hr
  refine (hb hl oY (fun V v hv hr=> ?_)).2
  refine bP.step P S hl (fun j B0 hj=> ?_) hr hv
  have :j≠i:=fun e=>by subst e; rw [hi] at hj; cases hj
  rw [bA _ _ this,bA _ _ this]
  exact ⟨B0,hj,cL.refl S _ _⟩
 obtain ⟨hI,_,_⟩:=h.Ga hw hi hf (fun h1 h2 h3=>(hb h1 h2 h3).1) hr
 refine hK _ w' _ (hI.put hd xL fun j hj=> ?_) ?_
 · rcases hV j hj with rfl | hj
   · show az env.bx j (some B) j≠none
     rw [aZ]; simp
   · by_cases e:j=i
     · subst e; exact absurd hi hj
     · show az env.bx i (some B) j≠none
       rw [bA _ _ e]; exact hj
 · cases o.dst <;> simp [Act.put]
end
end Go.Sy
namespace Go.Sy
section
variable (P:Program) (S:bf) (au:Nat→Nat)
def wh:Ty→Value
 | .int k=> .int k 0
 | .bool=> .bool false
 | .str=> .string ⟨#[]⟩
 | .sl _=> .slice none 0 0
 | .pt=> .pointer none
 | .st _=> .bool false
def tO:Ty→List Value
 | .st u=>(S.F u).map wh
 | t=> [wh t]
def ru:(ts:List Ty)→av S.C ts
 | []=>()
 | t::ts=>av.cons (Ty.zero S t) (ru ts)
def b8 (t:Nat) (T:Ty):Prop:=
 (∃ i z,P.info? t=some i∧i.size=Ty.sz S T∧i.zero=some z∧isAgg z=bG T∧z.cells.toList=tO S T)∧
 match T with
 | .int k=>P.underlying t=some (.int k)
 | .bool=>P.underlying t=some .bool
 | .str=>P.underlying t=some .string
 | .pt=> ∃ e,P.underlying t=some (.pointer e)
 | .sl e=> ∃ te ie,P.underlying t=some (.slice te)∧S.ty te=some e∧P.info? te=some ie∧ie.bytes=au t∧1≤au t
 | .st u=>(S.ex u (S.z u)=ru S (S.F u)∧(P.built t []).isSome=true)∧match S.ar t with
  | none=> ∃ fs,P.underlying t=some (.struct fs)∧
   ∀ f o T',S.eW u f=some (o,T')→ ∃ fd,fs[f]? =some fd∧fd.offset=o∧S.ty fd.type=some T'∧1≤Ty.sz S T'∧o+Ty.sz S T'≤(S.F u).length
  | some (n,e)=> ∃ te,P.underlying t=some (.array n te)∧S.ty te=some e∧((Ty.sz S e=1∧bG e=false∧S.F u=List.replicate n e)∨ ∃ w,e= .st w∧S.F u=(List.replicate n (S.F w)).flatten)∧ ∀ f o T',S.eW u f=some (o,T')→o=f*Ty.sz S e∧T'=e∧f<n
def wz (S:bf):List Field→List Ty→Nat→Prop
 | [],[],_=>True
 | fd::fs,T::ts,i=>fd.offset=i∧fd.name≠ "_" ∧S.ty fd.type=some T∧(match T with | .int _=>True | .bool=>True | .str=>True | _=>False)∧wz S fs ts (i+1)
 | _,_,_=>False
def wA (P:Program) (S:bf):List Field→List Ty→Nat→Prop
 | [],ts,_=>ts= []
 | fd::fs,ts,i=>fd.offset=i∧fd.name≠ "_" ∧
  ((∃ T r,ts=T::r∧S.ty fd.type=some T∧(match T with | .int _=>True | .bool=>True | .str=>True | _=>False)∧wA P S fs r (i+1))∨
   ∃ v r gs,ts=S.F v++r∧S.ty fd.type=some (.st v)∧P.underlying fd.type=some (.struct gs)∧P.stoodInHeld fd.type=false∧1≤(S.F v).length∧wz S gs.toList (S.F v) 0∧wA P S fs r (i+(S.F v).length))
def EqAt (P:Program) (S:bf) (t:Nat):Prop:=
 ∃ u,S.ty t=some (.st u)∧(∃ fs,P.underlying t=some (.struct fs)∧wA P S fs.toList (S.F u) 0)∧P.stoodInHeld t=false∧P.eqGuardType P.depth t=false
structure bh:Prop extends cU S where
 ty: ∀ t T,S.ty t=some T→b8 P S au t T
 pt: ∀ t,S.pt t=true→ ∃ e,P.underlying t=some (.pointer e)
 eq: ∀ t,S.eq t=true→EqAt P S t
 qx: ∀ t,S.qx t=true→ ∃ ms,P.underlying t=some (.interface ms)
 bt: ∀ p,S.bt=some p→p.1≠p.2∧ ∃ i z,P.info? p.1=some i∧i.zero=some z∧z.cells= #[.pointer none, .slice none 0 0]
variable {P S au}
theorem bh.agg (h:bh P S au) {t:Nat} {T:Ty} (ht:S.ty t=some T) (w:World):(Go.isAgg t).run P w= .ok (bG T) w:=by
 obtain ⟨_,h2⟩:=h.ty t T ht
 unfold Go.isAgg
 cases T with
 | int k=>simp [run_underlying h2,bG]
 | bool=>simp [run_underlying h2,bG]
 | str=>simp [run_underlying h2,bG]
 | pt=>obtain ⟨e,h2⟩:=h2; simp [run_underlying h2,bG]
 | sl e=>obtain ⟨te,ie,hu,_⟩:=h2; simp [run_underlying hu,bG]
 | st u=>
  obtain ⟨_,h2⟩:=h2
  cases ha:S.ar t with
  | none=>rw [ha] at h2; obtain ⟨fs,hu,_⟩:=h2; simp [run_underlying hu,bG]
  | some p=>rw [ha] at h2; obtain ⟨te,hu,_⟩:=h2; simp [run_underlying hu,bG]
theorem bh.size (h:bh P S au) {t:Nat} {T:Ty} (ht:S.ty t=some T) (w:World):(Go.sizeOf t).run P w= .ok (Ty.sz S T) w:=by
 obtain ⟨⟨i,z,h1,h2,_⟩,_⟩:=h.ty t T ht
 simp [Go.sizeOf,typeInfo,h1,h2]
theorem bh.OW (h:bh P S au) {t:Nat} {T:Ty} (ht:S.ty t=some T): ∃ d,P.underlying t=some d:=by
 obtain ⟨_,h2⟩:=h.ty t T ht
 cases T with
 | int k=>exact ⟨_,h2⟩
 | bool=>exact ⟨_,h2⟩
 | str=>exact ⟨_,h2⟩
 | pt=>obtain ⟨e,h2⟩:=h2; exact ⟨_,h2⟩
 | sl e=>obtain ⟨te,ie,hu,_⟩:=h2; exact ⟨_,hu⟩
 | st u=>
  obtain ⟨_,h2⟩:=h2
  cases ha:S.ar t with
  | none=>rw [ha] at h2; obtain ⟨fs,hu,_⟩:=h2; exact ⟨_,hu⟩
  | some p=>rw [ha] at h2; obtain ⟨te,hu,_⟩:=h2; exact ⟨_,hu⟩
theorem fu {bx:Bx S.C} {ids:List Nat} {i:Nat} {B:dX S.C} (h:restrict S bx ids i=some B):bx i=some B:=by
 unfold restrict at h
 cases e:ids.contains i with
 | true=>rw [e] at h; exact h
 | false=>rw [e] at h; cases h
variable {w0:World} {M0 s0:St} {dq:List Deferred} {env:Env S.C} {a:Act} {w:World} {μ:Nat→Loc} {K:Act→World→Prop} {Q:Exit→Act→World→Prop} {o:Oper} {V:V S.C} {us:aP S.C}
def Goal (P:Program) (S:bf) (w0:World) (M0 s0:St) (dq:List Deferred) (env:Env S.C) (a:Act) (dst:Option Nat) (V:Sy.V S.C) (us:aP S.C) (K:Act→World→Prop):Prop:=
 ∀ a' w' μ',Inv P S w0 M0 s0 dq (env.apply dst V us) a' w' μ'→a'.tmps.size=a.tmps.size→K a' w'
theorem bL {V V':Sy.V S.C} {us us':aP S.C} (h:(aI S V us).leaf (V',us')):V'=V∧us'=us:=by
 have :(V,us)=(V',us'):=h
 cases this; exact ⟨rfl,rfl⟩
theorem F9 {nl:Bool} (h:Inv P S w0 M0 s0 dq env a w μ) (hd: ∀ d,o.dst=some d→d<a.tmps.size) {x:Operand} {B:Nat} (ho:execOp a.eval o=pure (.value (a.eval x)))
 (hnew: ∀ u ∈ us,B≤u.1→u.1<B+16→env.bx u.1=none)
 (hl:(match aX S env.tm x with
  | some .cH=>cond nl (aI S .cH []) (match e9 S o.type with
   | some e=>aI S (.bu B e []) [(B, .tail)]
   | none=> .fail)
  | some v=>aI S v []
  | none=> .fail).leaf (V,us)) (hK:Goal P S w0 M0 s0 dq env a o.dst V us K):o.wp P a w K Q:=by
 have hrun:(execOp a.eval o).run P w= .ok (.value (a.eval x)) w:=by rw [ho]; rfl
 split at hl
 · rename_i hx
   obtain ⟨hv,_⟩:=bI h hx
   cases nl with
   | true=>
    obtain ⟨rfl,rfl⟩:=bL hl
    exact wp_pure h hrun hd hv (by simp [aH,aF]) hK
   | false=>
   rw [cond_false] at hl
   split at hl
   · rename_i e he
     obtain ⟨rfl,rfl⟩:=bL hl
     have hB:=hnew (B, .tail) (by simp) (Nat.le_refl _) (by show B<B+16; omega)
     have hv:a.eval x= .slice none 0 0:=hv
     refine rj (i:=B) (B:= .tail) (L:=⟨0,0,0,0,true⟩) h hrun hd (br.refl w _) hB (fun b o hf=> ?_) (fun _ _ _=>⟨fun j hj=>absurd hj (Nat.not_lt_zero j), ?_⟩) (by simp) (fun j hj=> .inl (by simpa [aH,aF] using hj)) hK
     · have h1:=hf.2.1; have h2:=hf.2.2; simp at h2
     · rw [hv]
       refine ⟨⟨rfl,1,none,0,rfl,Nat.le_refl _, .inl rfl⟩,fun _=>⟨none,0,rfl, ?_⟩⟩
       rw [aZ]
       exact .inl ⟨rfl,rfl,rfl⟩
   · exact hl.elim
 · rename_i v hne hx
   obtain ⟨rfl,rfl⟩:=bL hl
   obtain ⟨hv,hr⟩:=bI h hx
   exact wp_pure h hrun hd hv hr hK
 · exact hl.elim
theorem mB {w:World} {s:St} {k:IntKind} {n:Int} {v:Value} (h:cz S w s (.int k) n v):v= .int k n:=by
 obtain ⟨ha,m,hm⟩:=h
 cases m with
 | zero=>exact hm.elim
 | succ m=>exact qh hm ha
theorem rC {w:World} {s:St} {b:Bool} {v:Value} (h:cz S w s .bool b v):v= .bool b:=by
 obtain ⟨ha,m,hm⟩:=h
 cases m with
 | zero=>exact hm.elim
 | succ m=>exact qh hm ha
theorem nI {w:World} {s:St} {b:List UInt8} {v:Value} (h:cz S w s .str b v):v= .string ⟨b.toArray⟩:=by
 obtain ⟨ha,m,hm⟩:=h
 cases m with
 | zero=>exact hm.elim
 | succ m=>exact qh hm ha
theorem mC {w:World} {s:St} {e:Ty} {l:List (e.den S.C)} {v:Value} (h:cz S w s (.sl e) l v):
 ∃ a cap,v= .slice a l.length cap∧l.length≤cap∧(l.length=0∨ ∃ b o n,a=some ⟨b,o,none⟩∧wu S (fun t x cs=>aJ S w s n t x cs) w s e b o l):=by
 obtain ⟨ha,m,hm⟩:=h
 cases m with
 | zero=>exact hm.elim
 | succ m=>
  obtain ⟨a,cap,h1,h2,h3⟩:=hm
  exact ⟨a,cap,qh h1 ha,h2,h3.imp id fun ⟨b,o,h4,h5⟩=>⟨b,o,m,h4,h5⟩⟩
theorem jJ (w:World) (s:St) (k:IntKind) (n:Int):cz S w s (.int k) n (.int k n):=⟨rfl,1,rfl⟩
theorem oU (w:World) (s:St) (b:Bool):cz S w s .bool b (.bool b):=⟨rfl,1,rfl⟩
theorem Dd (w:World) (s:St) (b:List UInt8):cz S w s .str b (.string ⟨b.toArray⟩):=⟨rfl,1,rfl⟩
theorem ko {w:World} {s:St} {bx:Bx S.C} {V:Sy.V S.C} {v:Value} {k:IntKind} {n:Int} (h:RV P S w s μ bx V v) (hi:V.int?=some (k,n)):v= .int k n:=by
 unfold Sy.V.int? at hi
 split at hi
 · cases hi; exact mB h
 · cases hi
theorem Dc {w:World} {s:St} {bx:Bx S.C} {V:Sy.V S.C} {v:Value} {b:List UInt8} (h:RV P S w s μ bx V v) (hi:V.qX=some b):v= .string ⟨b.toArray⟩:=by
 unfold Sy.V.qX at hi
 split at hi
 · cases hi; exact nI h
 · cases hi
theorem Jp {w:World} {s:St} {bx:Bx S.C} {V:Sy.V S.C} {v:Value} {b:Bool} (h:RV P S w s μ bx V v) (hi:V.bool?=some b):v= .bool b:=by
 unfold Sy.V.bool? at hi
 split at hi
 · cases hi; exact rC h
 · cases hi; exact h
 · cases hi
theorem JZ (h:Inv P S w0 M0 s0 dq env a w μ) {x:Operand} {b:Bool} (hx:aX S env.tm x=some (.d .bool b)):a.eval x= .bool b:=
 rC (bI h hx).1
theorem Wu (h:Inv P S w0 M0 s0 dq env a w μ) (hd: ∀ d,o.dst=some d→d<a.tmps.size) {c x y:Operand} (ho:o.op= .pick c x y)
 (hl:(match aX S env.tm c with
  | some (.d .bool b)=>match (b:Bool) with
   | true=>match aX S env.tm x with
    | some v=>aI S v []
    | none=> .fail
   | false=>match aX S env.tm y with
    | some v=>aI S v []
    | none=> .fail
  | _=> .fail).leaf (V,us)) (hK:Goal P S w0 M0 s0 dq env a o.dst V us K):o.wp P a w K Q:=by
 split at hl
 · rename_i b hc
   have hb:=JZ h hc
   cases b with
   | true=>
    dsimp only at hl
    split at hl
    · rename_i v hx
      obtain ⟨rfl,rfl⟩:=bL hl
      obtain ⟨hv,hr⟩:=bI h hx
      exact wp_pure h (by simp [execOp,ho,hb,asBool]) hd hv hr hK
    · exact hl.elim
   | false=>
    dsimp only at hl
    split at hl
    · rename_i v hx
      obtain ⟨rfl,rfl⟩:=bL hl
      obtain ⟨hv,hr⟩:=bI h hx
      exact wp_pure h (by simp [execOp,ho,hb,asBool]) hd hv hr hK
    · exact hl.elim
 · exact hl.elim
end
end Go.Sy
namespace Go.Sy
section
variable {P:Program} {S:bf} {au:Nat→Nat}
variable {w0:World} {M0 s0:St} {dq:List Deferred} {env:Env S.C} {a:Act} {w:World} {μ:Nat→Loc} {K:Act→World→Prop} {Q:Exit→Act→World→Prop} {o:Oper} {V:V S.C} {us:aP S.C}
theorem uc {α:Type} [BEq α] [LawfulBEq α] [DecidableEq α] (x y:α):(x == y)=decide (x=y):=by rw [Bool.eq_iff_iff]; simp
theorem gq {gs:List Gd} {V':Sy.V S.C} {us':aP S.C} (h:(Tr.gd gs (aI S V' us')).leaf (V,us)):(∀ g ∈ gs,g.p)∧V=V'∧us=us':=by
 obtain ⟨h1,h2⟩:=Tr.FV gs h
 exact ⟨h1,bL h2⟩
theorem QD {op:BinOp} {k k':IntKind} (hk:Lz op=true∨k=k') {x y:Int} {gs:List Gd} (h:arith S op k x y=some (gs,V)) (hg: ∀ g ∈ gs,g.p) (t:TypeId) (w:World):
 (∃ v,(binOp op t (.int k x) (.int k' y)).run P w= .ok v w∧ ∀ (w1:World) (s:St) (μ:Nat→Loc) (bx:Bx S.C),RV P S w1 s μ bx V v)∧aH S V= []:=by
 cases op <;> simp only [arith] at h <;> cases h
 case add=>rcases hk with hk | rfl; cases hk; exact ⟨⟨_,by simp [binOp,Op.intArith],fun _ _ _ _=>jJ ..⟩,rfl⟩
 case sub=>rcases hk with hk | rfl; cases hk; exact ⟨⟨_,by simp [binOp,Op.intArith],fun _ _ _ _=>jJ ..⟩,rfl⟩
 case mul=>rcases hk with hk | rfl; cases hk; exact ⟨⟨_,by simp [binOp,Op.intArith],fun _ _ _ _=>jJ ..⟩,rfl⟩
 case quo=>
  rcases hk with hk | rfl; cases hk
  have h0: ¬ y=0:=hg _ (List.mem_singleton.2 rfl)
  exact ⟨⟨_,by simp [binOp,Op.intDiv,h0],fun _ _ _ _=>jJ ..⟩,rfl⟩
 case rem=>
  rcases hk with hk | rfl; cases hk
  have h0: ¬ y=0:=hg _ (List.mem_singleton.2 rfl)
  exact ⟨⟨_,by simp [binOp,Op.intDiv,h0],fun _ _ _ _=>jJ ..⟩,rfl⟩
 case and=>rcases hk with hk | rfl; cases hk; exact ⟨⟨_,by simp [binOp,Op.intBits],fun _ _ _ _=>jJ ..⟩,rfl⟩
 case shl=>
  have h0:0≤y:=hg _ (List.mem_singleton.2 rfl)
  have h0': ¬ y<0:=by omega
  exact ⟨⟨_,by simp [binOp,Op.shift,h0'],fun _ _ _ _=>jJ ..⟩,rfl⟩
 case shr=>
  have h0:0≤y:=hg _ (List.mem_singleton.2 rfl)
  have h0': ¬ y<0:=by omega
  exact ⟨⟨_,by simp [binOp,Op.shift,h0'],fun _ _ _ _=>jJ ..⟩,rfl⟩
 case eql=>rcases hk with hk | rfl; cases hk; exact ⟨⟨.bool (decide (x=y)),by simp [binOp,Op.intCmp,uc],fun _ _ _ _=>rfl⟩,rfl⟩
 case neq=>rcases hk with hk | rfl; cases hk; exact ⟨⟨.bool (decide (x≠y)),by simp [binOp,Op.intCmp,bne,uc],fun _ _ _ _=>rfl⟩,rfl⟩
 case lss=>rcases hk with hk | rfl; cases hk; exact ⟨⟨.bool (decide (x<y)),by simp [binOp,Op.intCmp],fun _ _ _ _=>rfl⟩,rfl⟩
 case leq=>rcases hk with hk | rfl; cases hk; exact ⟨⟨.bool (decide (x≤y)),by simp [binOp,Op.intCmp],fun _ _ _ _=>rfl⟩,rfl⟩
 case gtr=>rcases hk with hk | rfl; cases hk; exact ⟨⟨.bool (decide (y<x)),by simp [binOp,Op.intCmp],fun _ _ _ _=>rfl⟩,rfl⟩
 case geq=>rcases hk with hk | rfl; cases hk; exact ⟨⟨.bool (decide (y≤x)),by simp [binOp,Op.intCmp],fun _ _ _ _=>rfl⟩,rfl⟩
theorem ZK {op:BinOp} {x y:List UInt8} {gs:List Gd} (h:Ij S op x y=some (gs,V)) (hg: ∀ g ∈ gs,g.p) (t:TypeId) (w:World):
 (∃ v,(binOp op t (.string ⟨x.toArray⟩) (.string ⟨y.toArray⟩)).run P w= .ok v w∧ ∀ (w1:World) (s:St) (μ:Nat→Loc) (bx:Bx S.C),RV P S w1 s μ bx V v)∧aH S V= []:=by
 cases op <;> simp only [Ij] at h <;> cases h
 case add=>
  have h0:x.length+y.length≤9223372036854775807:=hg _ (List.mem_singleton.2 rfl)
  refine ⟨⟨.string ⟨(x++y).toArray⟩, ?_,fun _ _ _ _=>Dd ..⟩,rfl⟩
  have h1: ¬ (IntKind.i64.max<((ByteArray.size ⟨x.toArray⟩+ByteArray.size ⟨y.toArray⟩:Nat):Int)):=by
   show ¬ ((9223372036854775807:Int)<((x.toArray.size+y.toArray.size:Nat):Int))
   simp; omega
  have h2:(⟨x.toArray⟩:ByteArray)++⟨y.toArray⟩=⟨(x++y).toArray⟩:=by
   apply ByteArray.ext; simp
  simp only [binOp,Op.stringOp]
  rw [if_neg h1,h2]
  rfl
 case eql=>exact ⟨⟨.bool (decide (x=y)),by simp [binOp,Op.stringOp,uc],fun _ _ _ _=>rfl⟩,rfl⟩
 case neq=>exact ⟨⟨.bool (decide (x≠y)),by simp [binOp,Op.stringOp,uc],fun _ _ _ _=>rfl⟩,rfl⟩
def Gt:Value→Bool
 | .agg _ | .nilIface=>false
 | _=>true
theorem Es {op:BinOp} {t:TypeId} {x y:Operand} {v u:Value} (h:Gt v=true) (w:World):(eqGuard op t x y v u).run P w= .ok () w:=by
 unfold eqGuard
 cases v <;> first | (simp [Gt] at h; done) | (simp; done) | (simp; split <;> rfl)
theorem YW (d:Nat) {t:TypeId} (hu:P.underlying t=some .bool) (b c:Bool) (w:World):(Op.equalIn (d+1) t (.bool b) (.bool c)).run P w= .ok (b == c) w:=by
 unfold Op.equalIn
 simp [run_underlying hu]
theorem NP {t:TypeId} (hu:P.underlying t=some .bool) (b c:Bool) (w:World):(Op.equal t (.bool b) (.bool c)).run P w= .ok (b == c) w:=YW 9999 hu b c w
theorem YX (d:Nat) {t e:TypeId} (hu:P.underlying t=some (.pointer e))  (w:World):(Op.equalIn (d+1) t (.pointer none) (.pointer none)).run P w= .ok true w:=by
 unfold Op.equalIn
 simp [run_underlying hu]
theorem NQ {t e:TypeId} (hu:P.underlying t=some (.pointer e))  (w:World):(Op.equal t (.pointer none) (.pointer none)).run P w= .ok true w:=YX 9999 hu w
theorem YY (d:Nat) {t e:TypeId} (hu:P.underlying t=some (.pointer e)) (p:Addr) (w:World):(Op.equalIn (d+1) t (.pointer (some p)) (.pointer none)).run P w= .ok false w:=by
 unfold Op.equalIn
 simp [run_underlying hu]
theorem NR {t e:TypeId} (hu:P.underlying t=some (.pointer e)) (p:Addr) (w:World):(Op.equal t (.pointer (some p)) (.pointer none)).run P w= .ok false w:=YY 9999 hu p w
theorem QU (hP:bh P S au) (h:Inv P S w0 M0 s0 dq env a w μ) (hd: ∀ d,o.dst=some d→d<a.tmps.size) {op:BinOp} {t t':TypeId} {x y:Operand} (ho:o.op= .binOp op t x y t')
 (hl:(match aX S env.tm x,aX S env.tm y with
  | some p,some q=>match zL S op t p q with
   | some (gs,v)=>Tr.gd gs (aI S v [])
   | none=> .fail
  | _,_=> .fail).leaf (V,us)) (hK:Goal P S w0 M0 s0 dq env a o.dst V us K):o.wp P a w K Q:=by
 split at hl
 · rename_i p q hx hy
   split at hl
   · rename_i gs v hb
     obtain ⟨hg,rfl,rfl⟩:=gq hl
     obtain ⟨hv1,_⟩:=bI h hx
     obtain ⟨gZ,_⟩:=bI h hy
     have fin: ∀ (v1 v2:Value),a.eval x=v1→a.eval y=v2→Gt v1=true→
      ((∃ v,(binOp op t v1 v2).run P w= .ok v w∧ ∀ (w1:World) (s:St) (μ:Nat→Loc) (bx:Bx S.C),RV P S w1 s μ bx V v)∧aH S V= [])→o.wp P a w K Q:=by
      rintro v1 v2 e1 e2 ha ⟨⟨v,hr,hv⟩,hid⟩
      refine wp_pure h (v:=v) ?_ hd (hv ..) (by simp [hid]) hK
      unfold execOp
      simp only [ho,e1,e2]
      simp [Es ha,hr]
     unfold zL at hb
     split at hb
     · rename_i k i k' j h1 h2
       split at hb
       · rename_i hk
         exact fin _ _ (ko hv1 h1) (ko gZ h2) rfl (QD hk hb hg t w)
       · cases hb
     · split at hb
       · rename_i h1 h2
         exact fin _ _ (Dc hv1 h1) (Dc gZ h2) rfl (ZK hb hg t w)
       · split at hb
         · rename_i b c h1 h2
           have e1:=Jp hv1 h1
           have e2:=Jp gZ h2
           cases hty:S.ty t with
           | none=>rw [hty] at hb; cases hb
           | some T=>
            rw [hty] at hb
            cases T with
            | bool=>
             have hu:P.underlying t=some .bool:=(hP.ty t _ hty).2
             refine fin _ _ e1 e2 rfl ?_
             dsimp only [cond] at hb
             split at hb <;> cases hb
             · exact ⟨⟨.bool (decide (b=c)),by simp [binOp,NP hu,uc],fun _ _ _ _=>rfl⟩,rfl⟩
             · exact ⟨⟨.bool (decide (b≠c)),by simp [binOp,NP hu,uc],fun _ _ _ _=>rfl⟩,rfl⟩
            | _=>cases hb
         · cases Fm:S.pt t with
           | false=>rw [Fm] at hb; cases hb
           | true=>
            rw [Fm] at hb
            obtain ⟨e,hu⟩:=hP.pt t Fm
            dsimp only [cond] at hb
            split at hb
            · have e1:a.eval x= .pointer none:=hv1
              have e2:a.eval y= .pointer none:=gZ
              refine fin _ _ e1 e2 rfl ?_
              split at hb <;> cases hb
              · exact ⟨⟨.bool true,by simp [binOp,NQ hu],fun _ _ _ _=>oU ..⟩,rfl⟩
              · exact ⟨⟨.bool false,by simp [binOp,NQ hu],fun _ _ _ _=>oU ..⟩,rfl⟩
            · rename_i b off
              have e2:a.eval y= .pointer none:=gZ
              have e1:a.eval x=_:=hv1
              refine fin _ _ e1 e2 rfl ?_
              split at hb <;> cases hb
              · exact ⟨⟨.bool false,by simp [binOp,NR hu],fun _ _ _ _=>oU ..⟩,rfl⟩
              · exact ⟨⟨.bool true,by simp [binOp,NR hu],fun _ _ _ _=>oU ..⟩,rfl⟩
            · cases hb
   · exact hl.elim
 · exact hl.elim
end
end Go.Sy
namespace Go.Sy
section
variable {P:Program} {S:bf} {au:Nat→Nat}
variable {w0:World} {M0 s0:St} {dq:List Deferred} {env:Env S.C} {a:Act} {w:World} {μ:Nat→Loc} {K:Act→World→Prop} {Q:Exit→Act→World→Prop} {o:Oper} {V:V S.C} {us:aP S.C}
theorem oV {t:Nat} {e:Ty} (h:e9 S t=some e):S.ty t=some (.sl e):=by
 unfold e9 at h
 split at h
 · rename_i e' he; cases h; exact he
 · cases h
theorem bh.sl (hP:bh P S au) {t:Nat} {e:Ty} (h:S.ty t=some (.sl e)): ∃ te ie z,P.underlying t=some (.slice te)∧S.ty te=some e∧P.info? te=some ie∧ie.bytes=au t∧1≤au t∧ie.size=Ty.sz S e∧ie.zero=some z∧isAgg z=bG e∧z.cells.toList=tO S e:=by
 obtain ⟨_,te,ie,h1,h2,h3,h4,h5⟩:=hP.ty t _ h
 obtain ⟨⟨i,z,g1,g2,g3,g4,g5⟩,_⟩:=hP.ty te e h2
 rw [h3] at g1
 cases g1
 exact ⟨te,ie,z,h1,h2,h3,h4,h5,g2,g3,g4,g5⟩
theorem HU (hP:bh P S au) {t:Nat} {e:Ty} (ht:S.ty t=some (.sl e)) {b o' n cap:Nat} {k:IntKind} {i:Int} (h0:0≤i) (h1:i<(n:Int)) (w:World):
 (Instr.indexAt t (.slice (some ⟨b,o',none⟩) n cap) (.int k i)).run P w= .ok (.pointer (some ⟨b,o'+i.toNat*Ty.sz S e,none⟩)) w:=by
 obtain ⟨te,ie,z,hu,he,_⟩:=hP.sl ht
 simp [Instr.indexAt,asIntOf,run_underlying hu,h0,h1,hP.size he w,Addr.add_mid]
theorem uu {e:Ty} {l:List (e.den S.C)} {i:Int} (h0:0≤i) (h1:i<(l.length:Int)):l[i.toNat]? =some (iE S e l i):=by
 have :i.toNat<l.length:=by omega
 unfold iE
 rw [List.getD_eq_getElem?_getD,List.getElem?_eq_getElem this]
 rfl
theorem Mr {b:Nat} {i:Int} {p:Sy.V S.C×aP S.C} : ∀ (n j:Nat),(Gr S b i j n).leaf p→ ∃ k:Nat,i=(k:Int)∧p=(.ptr b k,[])
 | 0,_,h=>h.elim
 | n+1,j,h=>by
  rcases h with ⟨h1,h2⟩ | ⟨_,h2⟩
  · exact ⟨j,h1,h2.symm⟩
  · exact Mr n (j+1) h2
theorem Ux (hP:bh P S au) (h:Inv P S w0 M0 s0 dq env a w μ) (hd: ∀ d,o.dst=some d→d<a.tmps.size) {t:TypeId} {x i:Operand} {ids:List Nat} (ho:o.op= .indexAddr t x i)
 (hl:(match e9 S t,aX S env.tm x,aX S env.tm i with
  | some e,some v,some w=>match w.int? with
   | some (_,n)=>FK S e (restrict S env.bx ids) n v
   | none=> .fail
  | _,_,_=> .fail).leaf (V,us)) (hK:Goal P S w0 M0 s0 dq env a o.dst V us K):o.wp P a w K Q:=by
 split at hl
 · rename_i e v wv het hx hi
   have ht:=oV het
   obtain ⟨hv,dH⟩:=bI h hx
   obtain ⟨o8,_⟩:=bI h hi
   split at hl
   · rename_i k n hn
     have hin:=ko o8 hn
     have data: ∀ (e':Ty) (l:List (e'.den S.C)),cz S w (aN S w0 M0 s0 env.bx μ w) (.sl e') l (a.eval x)→(if e'=e then Tr.gd (eL n l.length) (aI S (.dF e' (iE S e' l n)) []) else .fail).leaf (V,us)→o.wp P a w K Q:=by
      intro e' l hr cv
      clear hl
      split at cv
      · rename_i he
        subst he
        obtain ⟨hg,rfl,rfl⟩:=gq cv
        have g0:0≤n:=hg ⟨0≤n,inferInstance⟩ (by simp [eL,gd])
        have g1:n<(l.length:Int):=hg ⟨n<(l.length:Int),inferInstance⟩ (by simp [eL,gd])
        obtain ⟨ad,cap,e1,e2,e3⟩:=mC hr
        rcases e3 with e3 | ⟨b,o',m,rfl,hel⟩
        · omega
        · obtain ⟨ds,d1,d2,d3⟩:=hel n.toNat _ (uu g0 g1)
          refine wp_pure (V:= .dF e' (iE S e' l n)) h (v:= .pointer (some ⟨b,o'+n.toNat*Ty.sz S e',none⟩)) ?_ hd ⟨b,_,ds,rfl,d2,d1,m,d3⟩ (by simp [aH,aF]) hK
          unfold execOp
          simp only [ho,e1,hin]
          simp [HU hP ht g0 g1]
      · exact cv.elim
     have own: ∀ (b:Nat) (e':Ty) (l:List (e'.den S.C)),v= .aY b→(env.bx b=some (.arr e' l)∨env.bx b=some (.bR e' l))→(if e'=e then Tr.gd (eL n l.length) (aI S (.fH b n 0) []) else .fail).leaf (V,us)→o.wp P a w K Q:=by
      intro b e' l Fx hb cv
      clear hl
      split at cv
      · rename_i he
        subst he
        obtain ⟨hg,rfl,rfl⟩:=gq cv
        have g0:0≤n:=hg ⟨0≤n,inferInstance⟩ (by simp [eL,gd])
        have g1:n<(l.length:Int):=hg ⟨n<(l.length:Int),inferInstance⟩ (by simp [eL,gd])
        subst Fx
        obtain ⟨ad,cap,e1,hao⟩:=hv.2 e' l hb
        have TX:(μ b).nil=false:=by
         cases jG:(μ b).nil with
         | false=>rfl
         | true=>have :=hao.isNil jG; have :=hao.mH; have :=hao.fits; omega
        have had:ad=some ⟨(μ b).b,(μ b).o,none⟩:=by rw [hao.addr,TX]; rfl
        subst had
        refine wp_pure (V:= .fH b n 0) h (v:= .pointer (some ⟨(μ b).b,(μ b).o+n.toNat*Ty.sz S e',none⟩)) ?_ hd ⟨⟨_,rfl⟩,fun e'' l'' xk=> ?_⟩ (fun j hj=>dH j (by simpa [aH,aF] using hj)) hK
        · unfold execOp
          simp only [ho,e1,hin]
          simp [HU hP ht g0 g1]
        · have :(∃ h:e''=e',h▸l''=l):=by
           rcases hb with hb | hb <;> rcases xk with xk | xk <;> rw [hb] at xk <;> cases xk <;> exact ⟨rfl,rfl⟩
          obtain ⟨rfl,rfl⟩:=this
          exact ⟨g0,by show n.toNat<l''.length; have g1:n<(l''.length:Int):=g1; omega,rfl⟩
      · exact cv.elim
     unfold FK at hl
     split at hl
     · exact data _ _ hv hl
     · exact data _ _ hv.1 hl
     · rename_i b
       split at hl
       · rename_i hb; exact own _ _ _ rfl (.inl (fu hb)) hl
       · rename_i hb; exact own _ _ _ rfl (.inr (fu hb)) hl
       · exact hl.elim
     · rename_i b m
       split at hl
       · rename_i e1
         obtain ⟨hg,hl⟩:=Tr.FV _ hl
         have g0:0≤n:=hg ⟨0≤n,inferInstance⟩ (by simp [eL,gd])
         have g1:n<(m:Int):=hg ⟨n<(m:Int),inferInstance⟩ (by simp [eL,gd])
         obtain ⟨j,hj,hp⟩:=Mr m 0 hl
         cases hp
         have hv:a.eval x= .slice (some ⟨(μ b).b,(μ b).o,none⟩) m m:=hv
         have e2:n.toNat=j:=by omega
         refine wp_pure (V:= .ptr b j) h (v:= .pointer (some ⟨(μ b).b,(μ b).o+j,none⟩)) ?_ hd rfl (fun j hj=>dH j (by simpa [aH,aF] using hj)) hK
         unfold execOp
         simp only [ho,hv,hin]
         have :=HU hP ht (b:=(μ b).b) (o':=(μ b).o) (n:=m) (cap:=m) (k:=k) g0 g1
         rw [e2,show j*Ty.sz S (.sl e1)=j from Nat.mul_one j] at this
         simp [this]
       · exact hl.elim
     · exact hl.elim
   · exact hl.elim
 · exact hl.elim
theorem Uz (hP:bh P S au) (h:Inv P S w0 M0 s0 dq env a w μ) (hd: ∀ d,o.dst=some d→d<a.tmps.size) {t:TypeId} {x i:Operand} (ho:o.op= .index t x i)
 (hl:(match aX S env.tm x,aX S env.tm i with
  | some v,some w=>match S.ty t,v.qX,w.int? with
   | some .str,some s,some (_,n)=>Tr.gd (eL n s.length) (aI S (.d (.int .u8) (((s.getD n.toNat 0).toNat:Nat):Int)) [])
   | _,_,_=> .fail
  | _,_=> .fail).leaf (V,us)) (hK:Goal P S w0 M0 s0 dq env a o.dst V us K):o.wp P a w K Q:=by
 split at hl
 · rename_i v wv hx hi
   obtain ⟨hv,dH⟩:=bI h hx
   obtain ⟨o8,_⟩:=bI h hi
   split at hl
   · rename_i s k n ht hs hn
     obtain ⟨hg,rfl,rfl⟩:=gq hl
     have g0:0≤n:=hg ⟨0≤n,inferInstance⟩ (by simp [eL,gd])
     have g1:n<(s.length:Int):=hg ⟨n<(s.length:Int),inferInstance⟩ (by simp [eL,gd])
     have hu:P.underlying t=some .string:=(hP.ty t _ ht).2
     have hlt:n.toNat<s.length:=by omega
     refine wp_pure (V:= .d (.int .u8) (((s.getD n.toNat 0).toNat:Nat):Int)) h (v:= .int .u8 (((s.getD n.toNat 0).toNat:Nat):Int)) ?_ hd (jJ ..) (by simp [aH,aF]) hK
     unfold execOp
     simp only [ho,Dc hv hs,ko o8 hn]
     have e1:(⟨s.toArray⟩:ByteArray)[n.toNat]? =some (s.getD n.toNat 0):=by
      rw [List.getD_eq_getElem?_getD,List.getElem?_eq_getElem hlt]
      show (if h:n.toNat<s.toArray.size then some _ else none)=_
      rw [dif_pos (by simpa using hlt)]
      rfl
     simp [Instr.index,asIntOf,run_underlying hu,g0,e1]
   · exact hl.elim
 · exact hl.elim
theorem Si (h:Inv P S w0 M0 s0 dq env a w μ) (hd: ∀ d,o.dst=some d→d<a.tmps.size) {x:Operand} {i:Nat} (ho:o.op= .extract x i)
 (hl:(match aX S env.tm x with
  | some (.jw vs)=>match vs[i]? with
   | some v=>aI S v []
   | none=> .fail
  | _=> .fail).leaf (V,us)) (hK:Goal P S w0 M0 s0 dq env a o.dst V us K):o.wp P a w K Q:=by
 split at hl
 · rename_i vs hx
   obtain ⟨⟨cs,hv,hvs⟩,dH⟩:=bI h hx
   split at hl
   · rename_i v hi
     obtain ⟨rfl,rfl⟩:=bL hl
     obtain ⟨c,hc,hr⟩:=aO.get P S i hvs hi
     refine wp_pure h (v:=c) ?_ hd (nH hr) (fun j hj=> ?_) hK
     · unfold execOp
       have :cs[i]? =some c:=by simpa using hc
       simp only [ho,hv]
       simp [Instr.extract,this]
     · refine dH j ?_
       simp only [aH,List.mem_flatMap]
       refine ⟨V,List.mem_of_getElem? hi, ?_⟩
       cases V <;> first | exact hj | exact (hr:False).elim
   · exact hl.elim
 · exact hl.elim
theorem VR (h:Inv P S w0 M0 s0 dq env a w μ) (hd: ∀ d,o.dst=some d→d<a.tmps.size) {x:Operand} (ho:o.op= .nilCheck x)
 (hl:(match aX S env.tm x with
  | some (.ptr b o)=>aI S (.ptr b o) []
  | some (.dF t x)=>aI S (.dF t x) []
  | some (.fH b i p)=>aI S (.fH b i p) []
  | some (.split b c)=>aI S (.split b c) []
  | _=> .fail).leaf (V,us)) (hK:Goal P S w0 M0 s0 dq env a o.dst V us K):o.wp P a w K Q:=by
 have fin: ∀ ad,a.eval x= .pointer (some ad)→aX S env.tm x=some V→us= []→o.wp P a w K Q:=by
  rintro ad he hx rfl
  obtain ⟨hv,hr⟩:=bI h hx
  refine wp_pure h (v:=a.eval x) ?_ hd hv hr hK
  unfold execOp
  simp only [ho,he]
  rfl
 split at hl
 · rename_i b off hx
   obtain ⟨rfl,rfl⟩:=bL hl
   have hv:a.eval x=_:=(bI h hx).1
   exact fin _ hv hx rfl
 · rename_i t y hx
   obtain ⟨rfl,rfl⟩:=bL hl
   obtain ⟨b,o',ds,hv,_⟩:=(bI h hx).1
   exact fin _ hv hx rfl
 · rename_i b i p hx
   obtain ⟨rfl,rfl⟩:=bL hl
   obtain ⟨⟨ad,hv⟩,_⟩:=(bI h hx).1
   exact fin _ hv hx rfl
 · rename_i b c hx
   obtain ⟨rfl,rfl⟩:=bL hl
   obtain ⟨k,q,hv,_⟩:=(bI h hx).1
   exact fin _ hv hx rfl
 · exact hl.elim
theorem aaG (h:Inv P S w0 M0 s0 dq env a w μ) (hd: ∀ d,o.dst=some d→d<a.tmps.size) {op:UnOp} {t:TypeId} {x:Operand} (ho:o.op= .unOp op t x)
 (hl:(match op,aX S env.tm x with
  | .not,some (.pr p i)=>aI S (.pr (¬ p) (@instDecidableNot p i)) []
  | .not,some (.d .bool b)=>aI S (.d .bool (Bool.not b)) []
  | .neg,some v=>match v.int? with
   | some (k,n)=>aI S (.d (.int k) (k.wrap (0 - n))) []
   | none=> .fail
  | _,_=> .fail).leaf (V,us)) (hK:Goal P S w0 M0 s0 dq env a o.dst V us K):o.wp P a w K Q:=by
 split at hl
 · rename_i p i hx
   obtain ⟨rfl,rfl⟩:=bL hl
   have hv:a.eval x= .bool (decide p):=(bI h hx).1
   refine wp_pure h (v:= .bool (!decide p)) ?_ hd ?_ (by simp [aH,aF]) hK
   · unfold execOp; simp only [ho,hv]; rfl
   · show Value.bool (!decide p)= .bool (decide (¬ p))
     simp
 · rename_i b hx
   obtain ⟨rfl,rfl⟩:=bL hl
   have hv:=rC (bI h hx).1
   refine wp_pure (V:= .d .bool (Bool.not b)) h (v:= .bool (Bool.not b)) ?_ hd (oU ..) (by simp [aH,aF]) hK
   unfold execOp; simp only [ho,hv]; rfl
 · rename_i v hx
   split at hl
   · rename_i k n hn
     obtain ⟨rfl,rfl⟩:=bL hl
     have hv:=ko (bI h hx).1 hn
     refine wp_pure (V:= .d (.int k) (k.wrap (0 - n))) h (v:= .int k (k.wrap (0 - n))) ?_ hd (jJ ..) (by simp [aH,aF]) hK
     unfold execOp; simp only [ho,hv]; rfl
   · exact hl.elim
 · exact hl.elim
theorem Rr (hP:bh P S au) (h:Inv P S w0 M0 s0 dq env a w μ) (hd: ∀ d,o.dst=some d→d<a.tmps.size) {s t:TypeId} {x:Operand} (ho:o.op= .convert s t x)
 (hl:(match S.ty s,S.ty t,aX S env.tm x with
  | some _,some (.int k),some v=>match v.int? with
   | some (_,n)=>aI S (.d (.int k) (k.wrap n)) []
   | none=> .fail
  | some _,some .str,some v=>match v.qX with
   | some s=>aI S (.d .str s) []
   | none=> .fail
  | _,_,_=> .fail).leaf (V,us)) (hK:Goal P S w0 M0 s0 dq env a o.dst V us K):o.wp P a w K Q:=by
 split at hl
 · rename_i T k v hs ht hx
   obtain ⟨d,hu⟩:=hP.OW hs
   split at hl
   · rename_i k' n hn
     obtain ⟨rfl,rfl⟩:=bL hl
     have hv:=ko (bI h hx).1 hn
     have Fv:P.underlying t=some (.int k):=(hP.ty t _ ht).2
     refine wp_pure (V:= .d (.int k) (k.wrap n)) h (v:= .int k (k.wrap n)) ?_ hd (jJ ..) (by simp [aH,aF]) hK
     unfold execOp
     simp only [ho,hv]
     simp [convert,run_underlying hu,run_underlying Fv,Conv.intToInt]
   · exact hl.elim
 · rename_i T v hs ht hx
   obtain ⟨d,hu⟩:=hP.OW hs
   split at hl
   · rename_i b hn
     obtain ⟨rfl,rfl⟩:=bL hl
     have hv:=Dc (bI h hx).1 hn
     have Fv:P.underlying t=some .string:=(hP.ty t _ ht).2
     refine wp_pure (V:= .d .str b) h (v:= .string ⟨b.toArray⟩) ?_ hd (Dd ..) (by simp [aH,aF]) hK
     unfold execOp
     simp only [ho,hv]
     simp [convert,run_underlying hu,run_underlying Fv]
   · exact hl.elim
 · exact hl.elim
end
end Go.Sy
namespace Go.Sy
section
variable {P:Program} {S:bf} {au:Nat→Nat}
variable {w0:World} {M0 s0:St} {dq:List Deferred} {env:Env S.C} {a:Act} {w:World} {μ:Nat→Loc} {K:Act→World→Prop} {Q:Exit→Act→World→Prop} {o:Oper} {V:V S.C} {us:aP S.C}
theorem Jc {s:St} {bx:Bx S.C} {t:Ty} (ht:bG t=false) {V:Sy.V S.C} {v:Value} {x:t.den S.C} (hv:bP P S w s μ bx V v) (hx:cV S (fun _=>none) t V=some x): ∃ n,aJ S w s n t x [v]:=by
 have hd: ∀ (u:Ty) (y:u.den S.C),cz S w s u y v→eP S u t y=some x→ ∃ n,aJ S w s n t x [v]:=by
  intro u y hr hc
  obtain ⟨rfl,rfl⟩:=eK hc
  obtain ⟨h1,n,hn⟩:=hr
  rw [aJ.mI h1 ht] at hn
  exact ⟨n,hn⟩
 cases V with
 | d u y=>exact hd u y hv hx
 | pr p i=>
  obtain ⟨rfl,rfl⟩:=eK hx
  cases hv
  exact ⟨1,rfl⟩
 | bu b e l=>exact hd (.sl e) l hv.1 hx
 | cH=>
  cases t with
  | sl e=>cases hx; cases hv; exact ⟨1,none,0,rfl,Nat.le_refl _, .inl rfl⟩
  | _=>cases hx
 | _=>cases hx
theorem OL {s:St} {bx:Bx S.C} : ∀ (ts:List Ty) (hts:ts.all (fun t=> !bG t)=true) {vs:List (Sy.V S.C)} {cs:List Value} {x:av S.C ts},
 aO P S w s μ bx vs cs→iS S (fun _=>none) ts vs=some x→ ∃ n,bN S (fun t x cs=>aJ S w s n t x cs) ts x (cs.take ts.length)
 | [],_,_,cs,_,_,_=>⟨0,by simp [bN]⟩
 | t::ts,hts,[],_,_,_,hx=>by simp [iS] at hx
 | t::ts,hts,V::vs,cs,x,⟨c,r,hcs,hv,hr⟩,hx=>by
  simp only [List.all_cons,Bool.and_eq_true,Bool.not_eq_true'] at hts
  simp only [iS] at hx
  obtain ⟨y,hy,hx⟩:=Option.bind_eq_some_iff.1 hx
  obtain ⟨z,hz,hx⟩:=Option.bind_eq_some_iff.1 hx
  cases hx
  obtain ⟨n,hn⟩:=Jc hts.1 hv hy
  obtain ⟨m,hm⟩:=OL ts hts.2 hr hz
  refine ⟨max n m,c,r.take ts.length,by simp [hcs], ?_, ?_⟩
  · rw [show av.head (av.cons y z)=y from by cases ts <;> rfl]
    exact hn.up S (by omega)
  · rw [show av.tail (av.cons y z)=z from by cases ts <;> rfl]
    exact bN.mono S (fun t x cs hr=>hr.up S (by omega)) _ _ _ hm
theorem Ly (hS:cU S) {s:St} {bx:Bx S.C} {t:Ty} {vs:List (Sy.V S.C)} {cs:List Value} {x:t.den S.C}
 (hv:aO P S w s μ bx vs cs) (hx:jh S (fun _=>none) t vs=some x): ∃ n,aJ S w s n t x (cs.take (Ty.sz S t)):=by
 have one:bG t=false→Ty.sz S t=1→(∃ V r,vs=V::r∧cV S (fun _=>none) t V=some x)→ ∃ n,aJ S w s n t x (cs.take (Ty.sz S t)):=by
  rintro ht h1 ⟨V,vs',rfl,hx1⟩
  rw [h1]
  obtain ⟨c,r,hcs,hv,hr⟩:=hv
  subst hcs
  exact Jc ht hv hx1
 cases t with
 | st u=>
  simp only [jh] at hx
  obtain ⟨y,hy,hx⟩:=Option.bind_eq_some_iff.1 hx
  cases hx
  obtain ⟨n,hn⟩:=OL (S.F u) (hS.flat u) hv hy
  refine ⟨n+1, ?_⟩
  show bN S _ (S.F u) (S.ex u (S.im u y)) _
  rw [hS.ug]
  exact hn
 | int k=>exact one rfl rfl (by cases vs with | nil=>cases hx | cons V r=>exact ⟨V,r,rfl,hx⟩)
 | bool=>exact one rfl rfl (by cases vs with | nil=>cases hx | cons V r=>exact ⟨V,r,rfl,hx⟩)
 | str=>exact one rfl rfl (by cases vs with | nil=>cases hx | cons V r=>exact ⟨V,r,rfl,hx⟩)
 | pt=>exact one rfl rfl (by cases vs with | nil=>cases hx | cons V r=>exact ⟨V,r,rfl,hx⟩)
 | sl e=>exact one rfl rfl (by cases vs with | nil=>cases hx | cons V r=>exact ⟨V,r,rfl,hx⟩)
theorem Gp (P:Program) (hS:cU S) {s:St} {n:Nat} {e:Ty} {x:e.den S.C} {cs:List Value} (h:aJ S w s n e x cs) {off:Nat} {t:Ty} {y:t.den S.C} (hy:partOf S e x off t=some y):
 ∃ m,aJ S w s m t y ((cs.drop off).take (Ty.sz S t)):=by
 have he:=(nP (P:=P) hS (fun _=>⟨0,0,0,0,true⟩) (fun _=>none) h).1
 exact Ly (P:=P) hS (he.drop P S off) hy
theorem At.part {s:St} {b o':Nat} {cs:List Value} (h:At w s b o' cs) (off n:Nat):At w s b (o'+off) ((cs.drop off).take n):=fun j v hj=>by
 rw [List.getElem?_take] at hj
 split at hj
 · rw [Nat.add_assoc]; exact h (off+j) v (by simpa using hj)
 · cases hj
theorem Hi {b o':Nat} {cs:List Value} (h:w.rangeAt b o' cs) (off n:Nat):w.rangeAt b (o'+off) ((cs.drop off).take n):=ME (MB h off) n
theorem At.range {s:St} {b o':Nat} {cs:List Value} (h:At w s b o' cs):w.rangeAt b o' cs:=fun j v hj=>(h j v hj).1
def ff (T:Ty) (ds:List Value):Value:=match T with
 | .st _=> .agg ds.toArray
 | _=>ds.headD Go.undef
theorem run_load (hP:bh P S au) {t:Nat} {T:Ty} (ht:S.ty t=some T) {b o':Nat} {ds:List Value} (hr:w.rangeAt b o' ds) (hl:ds.length=Ty.sz S T):
 (Instr.loadAt t (.pointer (some ⟨b,o',none⟩))).run P w= .ok (ff T ds) w:=by
 have one:bG T=false→Ty.sz S T=1→ff T ds=ds.headD Go.undef→(Instr.loadAt t (.pointer (some ⟨b,o',none⟩))).run P w= .ok (ff T ds) w:=by
  intro h1 h2 h3
  rw [h2] at hl
  obtain ⟨c,rfl⟩:=List.length_eq_one_iff.1 hl
  have hc:=hr 0 c rfl
  rw [h3]
  have hag:=hP.agg ht w
  rw [h1] at hag
  simp [Instr.loadAt,Instr.sureAddr,loadVar,hag]
  have :w.cell? ⟨b,o',none⟩=some c:=hc
  simp [this]
 cases T with
 | st u=>
  obtain ⟨⟨i,z,h1,h2,_⟩,_,h3⟩:=hP.ty t _ ht
  cases ha:S.ar t with
  | none=>rw [ha] at h3; obtain ⟨fs,hu,_⟩:=h3; exact run_loadAt_mid w b o' t ds (.struct fs) hr hu rfl (by rw [h1]; simp [h2,hl])
  | some p=>rw [ha] at h3; obtain ⟨te,hu,_⟩:=h3; exact run_loadAt_mid w b o' t ds (.array p.1 te) hr hu rfl (by rw [h1]; simp [h2,hl])
 | int k=>exact one rfl rfl rfl
 | bool=>exact one rfl rfl rfl
 | str=>exact one rfl rfl rfl
 | pt=>exact one rfl rfl rfl
 | sl e=>exact one rfl rfl rfl
theorem A5 {s:St} {n:Nat} {T:Ty} {x:T.den S.C} {ds:List Value} (h:aJ S w s n T x ds):cz S w s T x (ff T ds):=by
 have hl:=h.length S
 have one:bG T=false→Ty.sz S T=1→ff T ds=ds.headD Go.undef→cz S w s T x (ff T ds):=by
  intro h1 h2 h3
  rw [h2] at hl
  obtain ⟨c,rfl⟩:=List.length_eq_one_iff.1 hl
  rw [h3]
  have hc:isAgg c=false:=by
   cases n with
   | zero=>exact h.elim
   | succ n=>cases T with
    | int k=>simp [aJ] at h; subst h; rfl
    | bool=>simp [aJ] at h; subst h; rfl
    | str=>simp [aJ] at h; subst h; rfl
    | pt=>simp [aJ] at h; subst h; rfl
    | sl e=>obtain ⟨a,cap,h,_⟩:=h; simp at h; subst h; rfl
    | st u=>simp [bG] at h1
  refine ⟨by rw [h1]; exact hc,n, ?_⟩
  show aJ S w s n T x c.cells.toList
  rw [aJ.mI (t:=T) (by rw [hc,h1]) h1]
  exact h
 cases T with
 | st u=>exact ⟨rfl,n,by simpa [ff,Value.cells] using h⟩
 | int k=>exact one rfl rfl rfl
 | bool=>exact one rfl rfl rfl
 | str=>exact one rfl rfl rfl
 | pt=>exact one rfl rfl rfl
 | sl e=>exact one rfl rfl rfl
theorem Vz (hP:bh P S au) (h:Inv P S w0 M0 s0 dq env a w μ) (hd: ∀ d,o.dst=some d→d<a.tmps.size) {t:TypeId} {x:Operand} {ids:List Nat} (ho:o.op= .load t x)
 (hl:(match S.ty t,aX S env.tm x with
  | some T,some v=>F4 S T (restrict S env.bx ids) v
  | _,_=> .fail).leaf (V,us)) (hK:Goal P S w0 M0 s0 dq env a o.dst V us K):o.wp P a w K Q:=by
 split at hl
 · rename_i T v ht hx
   obtain ⟨hv,dH⟩:=bI h hx
   have fin: ∀ (b o':Nat) (ds:List Value) (V':Sy.V S.C),a.eval x= .pointer (some ⟨b,o',none⟩)→w.rangeAt b o' ds→ds.length=Ty.sz S T→V=V'→us= []→
    RV P S w (aN S w0 M0 s0 env.bx μ w) μ env.bx V' (ff T ds)→(∀ i ∈ aH S V',env.bx i≠none)→o.wp P a w K Q:=by
    rintro b o' ds V' he hr hlen rfl rfl cW gu
    refine wp_pure (V:=V) h (v:=ff T ds) ?_ hd cW gu hK
    unfold execOp
    simp only [ho,he]
    simp [run_load hP ht hr hlen]
   have Ju: ∀ (b off:Nat) (vs:List (Sy.V S.C)) (cs:List Value),v= .ptr b off→vs.all (bW S)=true→w.rangeAt (μ b).b (μ b).o cs→aO P S w (aN S w0 M0 s0 env.bx μ w) μ env.bx vs cs→
    (∀ v ∈ vs, ∀ j ∈ aF S v,env.bx j≠none)→
    (match T with
     | .st u=>cond (Nat.ble (off+(S.F u).length) vs.length) (aI S (.agg u ((vs.drop off).take (S.F u).length)) []) .fail
     | _=>match vs[off]? with
      | some v=>aI S v []
      | none=> .fail).leaf (V,us)→o.wp P a w K Q:=by
    intro b off vs cs Fx qv dG cW Lo cv
    clear hl
    subst Fx
    have ec:a.eval x=_:=hv
    have hlen:=aO.length P S cW
    have scalar:bG T=false→Ty.sz S T=1→(∀ ds,ff T ds=ds.headD Go.undef)→(match vs[off]? with | some v=>aI S v [] | none=> .fail:Rt S).leaf (V,us)→o.wp P a w K Q:=by
     intro h1 h2 h3 xw
     split at xw
     · rename_i v hi
       obtain ⟨e1,e2⟩:=bL xw
       obtain ⟨c,hc,hr⟩:=aO.get P S off cW hi
       refine fin _ _ [c] v ec (fun j u hj=> ?_) (by rw [h2]; rfl) e1 e2 (by rw [h3]; exact nH hr) (fun j hj=>Lo v (List.mem_of_getElem? hi) j ?_)
       · cases j with
         | zero=>simp at hj; subst hj; exact dG off c hc
         | succ j=>simp at hj
       · cases v <;> first | exact hj | exact (hr:False).elim
     · exact xw.elim
    cases T with
    | st u=>
     dsimp only at cv
     cases hb:Nat.ble (off+(S.F u).length) vs.length with
     | false=>rw [hb] at cv; exact cv.elim
     | true=>
      rw [hb] at cv
      obtain ⟨e1,e2⟩:=bL cv
      have hle:=Nat.le_of_ble_eq_true hb
      refine fin _ _ ((cs.drop off).take (S.F u).length) _ ec (Hi dG off _) ?_ e1 e2 ?_ ?_
      · rw [List.length_take,List.length_drop]; show min _ _=(S.F u).length; omega
      · refine ⟨((cs.drop off).take (S.F u).length).toArray,rfl, ?_, ?_, ?_⟩
        · rw [List.length_take,List.length_drop]; omega
        · rw [List.all_eq_true] at qv ⊢
          exact fun v hv=>qv v (List.mem_of_mem_drop (List.mem_of_mem_take hv))
        · simpa using (cW.drop P S off).take P S (S.F u).length
      · intro j hj
        simp only [aH,List.mem_flatMap] at hj
        obtain ⟨v,hv,hj⟩:=hj
        exact Lo v (List.mem_of_mem_drop (List.mem_of_mem_take hv)) j hj
    | int k=>exact scalar rfl rfl (fun _=>rfl) cv
    | bool=>exact scalar rfl rfl (fun _=>rfl) cv
    | str=>exact scalar rfl rfl (fun _=>rfl) cv
    | pt=>exact scalar rfl rfl (fun _=>rfl) cv
    | sl e=>exact scalar rfl rfl (fun _=>rfl) cv
   unfold F4 at hl
   split at hl
   · rename_i b off
     split at hl
     · rename_i vs hb
       have hb:=fu hb
       obtain ⟨h1,h2,h3,cs,h4,h5⟩:=h.cm b _ hb
       exact Ju b off vs cs rfl h1 h4 h5 (h.l5 b vs (.inl hb)) hl
     · rename_i vs hb
       have hb:=fu hb
       obtain ⟨h1,cs,h4,h5⟩:=h.cm b _ hb
       exact Ju b off vs cs rfl h1 h4.range h5 (h.l5 b vs (.inr hb)) hl
     · exact hl.elim
   · rename_i u y
     obtain ⟨b,o',ds,he,cN,hlen,n,hr⟩:=hv
     split at hl
     · rename_i y' hc
       obtain ⟨rfl,rfl⟩:=eK hc
       obtain ⟨e1,e2⟩:=bL hl
       exact fin b o' ds _ he cN.range hlen e1 e2 (A5 hr) (by simp [aH,aF])
     · exact hl.elim
   · rename_i c
     obtain ⟨kb,q,he,cN⟩:=hv
     split at hl
     · obtain ⟨e1,e2⟩:=bL hl
       refine fin kb q [.pointer (some ⟨(μ c).b,(μ c).o,none⟩)] _ he cN.range rfl e1 e2 rfl (fun j hj=>dH j (by simpa [aH,aF] using hj))
     · exact hl.elim
   · rename_i b i off
     have JL: ∀ (e:Ty) (l:List (e.den S.C)),(env.bx b=some (.arr e l)∨env.bx b=some (.bR e l))→
      (∀ i x,l[i]? =some x→ ∃ ds,ds.length=Ty.sz S e∧w.rangeAt (μ b).b ((μ b).o+i*Ty.sz S e) ds∧ ∃ n,aJ S w (aN S w0 M0 s0 env.bx μ w) n e x ds)→
      (match partOf S e (iE S e l i) off T with
       | some y=>aI S (.d T y) []
       | none=> .fail:Rt S).leaf (V,us)→o.wp P a w K Q:=by
      intro e l hb hel cv
      obtain ⟨g0,g1,he⟩:=hv.2 e l hb
      split at cv
      · rename_i y hy
        obtain ⟨e1,e2⟩:=bL cv
        obtain ⟨ds,d1,d2,n,d3⟩:=hel i.toNat _ (uu g0 (by omega))
        obtain ⟨m,hm⟩:=Gp P hP.tocU d3 hy
        exact fin _ _ _ _ he (Hi d2 off (Ty.sz S T)) (hm.length S) e1 e2 (A5 hm) (by simp [aH,aF])
      · exact cv.elim
     split at hl
     · rename_i e l hb
       have hb:=fu hb
       exact JL e l (.inl hb) (h.cm b _ hb).2.2.2.2 hl
     · rename_i e l hb
       have hb:=fu hb
       refine JL e l (.inr hb) (fun i x hi=> ?_) hl
       obtain ⟨ds,d1,d2,d3⟩:=(h.cm b _ hb).2.2 i x hi
       exact ⟨ds,d1,d2.range,d3⟩
     · exact hl.elim
   · exact hl.elim
 · exact hl.elim
end
end Go.Sy
namespace Go.Sy
section
variable {P:Program} {S:bf} {au:Nat→Nat}
variable {w0:World} {M0 s0:St} {dq:List Deferred} {env:Env S.C} {a:Act} {w:World} {μ:Nat→Loc} {K:Act→World→Prop} {Q:Exit→Act→World→Prop} {o:Oper} {V:V S.C} {us:aP S.C}
theorem ZG {t u:Nat} (h:mo S t=some u):S.ar t=none∧S.ty t=some (.st u):=by
 unfold mo at h
 cases ha:S.ar t with
 | some p=>rw [ha] at h; cases h
 | none=>
  rw [ha] at h
  refine ⟨rfl, ?_⟩
  dsimp only at h
  split at h
  · rename_i u' hu; cases h; exact hu
  · cases h
theorem bh.eW (hP:bh P S au) {t u:Nat} (ht:mo S t=some u) {f o':Nat} {T:Ty} (hf:S.eW u f=some (o',T)):
 ∃ fs fd,P.underlying t=some (.struct fs)∧fs[f]? =some fd∧fd.offset=o'∧S.ty fd.type=some T∧1≤Ty.sz S T∧o'+Ty.sz S T≤(S.F u).length:=by
 obtain ⟨ha,ht⟩:=ZG ht
 obtain ⟨_,_,h⟩:=hP.ty t _ ht
 rw [ha] at h
 obtain ⟨fs,hu,hfl⟩:=h
 obtain ⟨fd,h1,h2,h3,h4,h5⟩:=hfl f o' T hf
 exact ⟨fs,fd,hu,h1,h2,h3,h4,h5⟩
theorem Y1 (hP:bh P S au) {t u:Nat} (ht:mo S t=some u) {f o':Nat} {T:Ty} (hf:S.eW u f=some (o',T)) (ad:Addr) (w:World):
 (Instr.fieldAt t (.pointer (some ad)) f).run P w= .ok (.pointer (some (ad.add o'))) w:=by
 obtain ⟨fs,fd,hu,h1,h2,h3,h4,_⟩:=hP.eW ht hf
 have hn: ¬ Ty.sz S T=0:=by omega
 simp [Instr.fieldAt,run_underlying hu,h1,Instr.sureAddr,fieldPlace,hP.size h3,hn,h2]
theorem Sk (hP:bh P S au) (h:Inv P S w0 M0 s0 dq env a w μ) (hd: ∀ d,o.dst=some d→d<a.tmps.size) {t:TypeId} {x:Operand} {f:Nat} (ho:o.op= .fieldAddr t x f)
 (hl:(match aX S env.tm x with
  | some v=>EB S t f v
  | none=> .fail).leaf (V,us)) (hK:Goal P S w0 M0 s0 dq env a o.dst V us K):o.wp P a w K Q:=by
 split at hl
 · rename_i v hx
   obtain ⟨hv,dH⟩:=bI h hx
   have fin: ∀ (ad:Addr) (u lO:Nat) (T:Ty),a.eval x= .pointer (some ad)→mo S t=some u→S.eW u f=some (lO,T)→us= []→
    RV P S w (aN S w0 M0 s0 env.bx μ w) μ env.bx V (.pointer (some (ad.add lO)))→(∀ i ∈ aH S V,env.bx i≠none)→o.wp P a w K Q:=by
    rintro ad u lO T he ht hf rfl cW gu
    refine wp_pure (V:=V) h ?_ hd cW gu hK
    unfold execOp
    simp only [ho,he]
    simp [Y1 hP ht hf]
   unfold EB at hl
   split at hl
   · rename_i b off
     split at hl
     · rename_i u ht
       split at hl
       · rename_i o' T hf
         obtain ⟨e1,e2⟩:=bL hl
         subst e1
         refine fin _ u o' T hv ht hf e2 ?_ (fun i hi=>dH i hi)
         show Value.pointer _=_
         rw [Addr.add_mid,Nat.add_assoc]
       · exact hl.elim
     · exact hl.elim
   · rename_i u y
     split at hl
     · rename_i u' ht
       cases hb:Nat.beq u u' with
       | false=>rw [hb] at hl; exact hl.elim
       | true=>
       rw [hb] at hl
       obtain rfl:=Nat.eq_of_beq_eq_true hb
       dsimp only [cond] at hl
       split at hl
       · rename_i o' T hf
         split at hl
         · rename_i z hz
           obtain ⟨e1,e2⟩:=bL hl
           subst e1
           obtain ⟨b,lO,ds,he,cN,hlen,n,hr⟩:=hv
           obtain ⟨m,hm⟩:=Gp P hP.tocU hr hz
           exact fin _ u o' T he ht hf e2 ⟨b,_,_,by rw [Addr.add_mid],cN.part o' _,hm.length S,m,hm⟩ (by simp [aH,aF])
         · exact hl.elim
       · exact hl.elim
     · exact hl.elim
   · rename_i b i off
     split at hl
     · rename_i u ht
       split at hl
       · rename_i o' T hf
         obtain ⟨e1,e2⟩:=bL hl
         subst e1
         obtain ⟨⟨ad,he⟩,gZ⟩:=hv
         refine fin _ u o' T he ht hf e2 ⟨⟨_,rfl⟩,fun e' l' hb'=> ?_⟩ (fun i hi=>dH i hi)
         obtain ⟨Sv,Sw,he'⟩:=gZ e' l' hb'
         refine ⟨Sv,Sw, ?_⟩
         rw [he'] at he
         cases he
         rw [Addr.add_mid,Nat.add_assoc]
       · exact hl.elim
     · exact hl.elim
   · rename_i b c
     obtain ⟨kb,q,he,cN,gr,iG⟩:=hv
     split at hl
     · rename_i u ht
       split at hl
       · rename_i o' T hf
         split at hl
         · obtain ⟨e1,e2⟩:=bL hl
           subst e1
           exact fin _ u 0 T he ht hf e2 ⟨kb,q,rfl,cN⟩ (fun i hi=>dH i (by simp [aH,aF] at hi ⊢; exact .inr hi))
         · rename_i lO
           obtain ⟨e1,e2⟩:=bL hl
           subst e1
           refine fin _ u (lO+1) T he ht hf e2 ?_ (fun i hi=>dH i (by simp [aH,aF] at hi ⊢; exact .inl hi))
           show Value.pointer _=_
           rw [Addr.add_mid,gr,iG,Nat.add_assoc,Nat.add_comm 1 lO]
       · exact hl.elim
     · exact hl.elim
   · exact hl.elim
 · exact hl.elim
theorem pP (hP:bh P S au) {t:Nat} {T:Ty} (ht:S.ty t=some T) {cs:Array Value} {off:Nat} (hle:off+Ty.sz S T≤cs.size) (w:World):
 (part t cs off).run P w= .ok (ff T ((cs.toList.drop off).take (Ty.sz S T))) w:=by
 have one:bG T=false→Ty.sz S T=1→(∀ ds,ff T ds=ds.headD Go.undef)→(part t cs off).run P w= .ok (ff T ((cs.toList.drop off).take (Ty.sz S T))) w:=by
  intro h1 h2 h3
  have hag:=hP.agg ht w
  rw [h1] at hag
  rw [h2] at hle
  have hlt:off<cs.size:=by omega
  unfold part
  simp [hag,hlt]
  rw [h3,h2,List.drop_eq_getElem_cons (by simpa using hlt)]
  simp
 cases T with
 | st u=>
  have hag:=hP.agg ht w
  have hsz:=hP.size ht w
  unfold part
  simp only [Sem.run_bind,hag,hsz,bG,Result.andThen_ok,if_true,Sem.run_pure]
  congr 2
  show _=((cs.toList.drop off).take (Ty.sz S (.st u))).toArray
  apply Array.ext'
  simp [Array.toList_extract,List.extract_eq_take_drop]
 | int k=>exact one rfl rfl (fun _=>rfl)
 | bool=>exact one rfl rfl (fun _=>rfl)
 | str=>exact one rfl rfl (fun _=>rfl)
 | pt=>exact one rfl rfl (fun _=>rfl)
 | sl e=>exact one rfl rfl (fun _=>rfl)
theorem Sl (hP:bh P S au) (h:Inv P S w0 M0 s0 dq env a w μ) (hd: ∀ d,o.dst=some d→d<a.tmps.size) {t:TypeId} {x:Operand} {f:Nat} (ho:o.op= .field t x f)
 (hl:(match mo S t,aX S env.tm x with
  | some u,some (.d (.st u') y)=>cond (Nat.beq u u') (match S.eW u' f with
   | some (o,w)=>match partOf S (.st u') y o w with
    | some z=>aI S (.d w z) []
    | none=> .fail
   | none=> .fail) .fail
  | some u,some (.agg u' vs)=>cond (Nat.beq u u'&&vs.length == (S.F u).length) (match S.eW u f with
   | some (o, .st w)=>aI S (.agg w ((vs.drop o).take (S.F w).length)) []
   | some (o,_)=>match vs[o]? with
    | some v=>aI S v []
    | none=> .fail
   | none=> .fail) .fail
  | _,_=> .fail).leaf (V,us)) (hK:Goal P S w0 M0 s0 dq env a o.dst V us K):o.wp P a w K Q:=by
 have fin: ∀ (u lO:Nat) (T:Ty) (cs:Array Value),a.eval x= .agg cs→cs.size=(S.F u).length→mo S t=some u→S.eW u f=some (lO,T)→us= []→
  RV P S w (aN S w0 M0 s0 env.bx μ w) μ env.bx V (ff T ((cs.toList.drop lO).take (Ty.sz S T)))→(∀ i ∈ aH S V,env.bx i≠none)→o.wp P a w K Q:=by
  rintro u lO T cs he hsz ht hf rfl cW gu
  obtain ⟨fs,fd,hu,h1,h2,h3,h4,h5⟩:=hP.eW ht hf
  refine wp_pure (V:=V) h ?_ hd cW gu hK
  unfold execOp
  simp only [ho,he]
  simp [Instr.field,run_underlying hu,h1,asAgg,h2,pP hP h3 (cs:=cs) (off:=lO) (by omega)]
 split at hl
 · rename_i u u' y ht hx
   obtain ⟨hv,dH⟩:=bI h hx
   cases hb:Nat.beq u u' with
   | false=>rw [hb] at hl; exact hl.elim
   | true=>
    rw [hb] at hl
    obtain rfl:=Nat.eq_of_beq_eq_true hb
    dsimp only [cond] at hl
    split at hl
    · rename_i o' T hf
      split at hl
      · rename_i z hz
        obtain ⟨e1,e2⟩:=bL hl
        subst e1
        obtain ⟨ha,n,hr⟩:=hv
        have : ∃ cs,a.eval x= .agg cs:=by
         cases e:a.eval x <;> rw [e] at ha <;> first | exact ⟨_,rfl⟩ | (simp [Go.Sy.isAgg,bG] at ha)
        obtain ⟨cs,he⟩:=this
        rw [he] at hr
        obtain ⟨m,hm⟩:=Gp P hP.tocU hr hz
        exact fin u o' T cs he (by have :=hr.length S; simpa [Value.cells,Ty.sz] using this) ht hf e2 (A5 hm) (by simp [aH,aF])
      · exact hl.elim
    · exact hl.elim
 · rename_i u u' vs ht hx
   obtain ⟨⟨cs,he,hlen,qv,hvs⟩,dH⟩:=bI h hx
   cases hb:(Nat.beq u u'&&vs.length == (S.F u).length) with
   | false=>rw [hb] at hl; exact hl.elim
   | true=>
    rw [hb] at hl
    rw [Bool.and_eq_true] at hb
    obtain rfl:=Nat.eq_of_beq_eq_true hb.1
    have hcl:=aO.length P S hvs
    have hsz:cs.size=(S.F u).length:=by rw [← hlen, ← hcl]; simp
    dsimp only [cond] at hl
    split at hl
    · rename_i o' zc hf
      obtain ⟨e1,e2⟩:=bL hl
      subst e1
      obtain ⟨fs,fd,hu,h1,h2,h3,h4,h5⟩:=hP.eW ht hf
      refine fin u o' _ cs he hsz ht hf e2 ⟨_,rfl, ?_, ?_, ?_⟩ (fun i hi=> ?_)
      · rw [List.length_take,List.length_drop]
        have :Ty.sz S (.st zc)=(S.F zc).length:=rfl
        omega
      · rw [List.all_eq_true] at qv ⊢
        exact fun v hv=>qv v (List.mem_of_mem_drop (List.mem_of_mem_take hv))
      · have :=(hvs.drop P S o').take P S (S.F zc).length
        simpa [Ty.sz] using this
      · simp only [aH,List.mem_flatMap] at hi
        obtain ⟨v,hv,hi⟩:=hi
        exact dH i (by simp only [aH,List.mem_flatMap]; exact ⟨v,List.mem_of_mem_drop (List.mem_of_mem_take hv),hi⟩)
    · rename_i o' T hne hf
      split at hl
      · rename_i v hi
        obtain ⟨e1,e2⟩:=bL hl
        subst e1
        obtain ⟨c,hc,hr⟩:=aO.get P S o' hvs hi
        have hT:bG T=false:=by
         cases T with
         | st zc=>exact absurd rfl (hne zc)
         | _=>rfl
        have hmk:ff T ((cs.toList.drop o').take (Ty.sz S T))=c:=by
         have h1:Ty.sz S T=1:=by cases T <;> first | rfl | simp [bG] at hT
         have hlt:=(List.getElem?_eq_some_iff.1 hc).1
         have sD:=(List.getElem?_eq_some_iff.1 hc).2
         rw [h1,List.drop_eq_getElem_cons hlt]
         cases T <;> first | (simp [ff,sD]; done) | simp [bG] at hT
        refine fin u o' T cs he hsz ht hf e2 (by rw [hmk]; exact nH hr) (fun i hi'=> ?_)
        refine dH i ?_
        simp only [aH,List.mem_flatMap]
        refine ⟨V,List.mem_of_getElem? hi, ?_⟩
        cases V <;> first | exact hi' | exact (hr:False).elim
      · exact hl.elim
    · exact hl.elim
 · exact hl.elim
end
end Go.Sy
namespace Go.Sy
section
variable {P:Program} {S:bf} {au:Nat→Nat}
variable {w0:World} {M0 s0:St} {dq:List Deferred} {env:Env S.C} {a:Act} {w:World} {μ:Nat→Loc} {K:Act→World→Prop} {Q:Exit→Act→World→Prop} {o:Oper} {V:V S.C} {us:aP S.C}
theorem Sh (s:List UInt8) (i j:Nat):(⟨s.toArray⟩:ByteArray).extract i j=⟨((s.take j).drop i).toArray⟩:=by
 apply ByteArray.ext
 apply Array.ext'
 rw [Lib.extract_data]
 simp [List.drop_take]
theorem Of (s:List UInt8):ByteArray.size ⟨s.toArray⟩=s.length:=by show s.toArray.size=_; simp
theorem tF {k:IntKind} {i:Int} {y:Nat} (code:BoundsCode) (h0:0≤i) (h1:i≤(y:Int)) (w:World):(Instr.sliceBound (.int k i) y code).run P w= .ok i.toNat w:=by
 simp [Instr.sliceBound,asIntOf,h0,h1]
theorem Mj (h:Inv P S w0 M0 s0 dq env a w μ) {x:Option Operand} {l:Option (Sy.V S.C)} (hx:ku S env.tm x=some l):
 (x=none∧l=none)∨ ∃ y v,x=some y∧l=some v∧RV P S w (aN S w0 M0 s0 env.bx μ w) μ env.bx v (a.eval y):=by
 cases x with
 | none=>cases hx; exact .inl ⟨rfl,rfl⟩
 | some y=>
  simp only [ku] at hx
  obtain ⟨v,hv,hx⟩:=Option.bind_eq_some_iff.1 hx
  cases hx
  exact .inr ⟨y,v,rfl,rfl,(bI h hv).1⟩
theorem sP {s:St} {bx:Bx S.C} {V:Sy.V S.C} {v:Value} {n:Int} (h:RV P S w s μ bx V v) (hi:o_ S V=some n): ∃ k,v= .int k n:=by
 unfold o_ at hi
 cases e:V.int? with
 | none=>rw [e] at hi; cases hi
 | some p=>
  rw [e] at hi
  cases hi
  exact ⟨p.1,ko h e⟩
theorem rM (h:Inv P S w0 M0 s0 dq env a w μ) {lo hi:Option Operand} {l hh:Option (Sy.V S.C)} (hlo:ku S env.tm lo=some l) (hhi:ku S env.tm hi=some hh) {n cap:Nat} (hcap:n≤cap)
 {gs:List Gd} {i j:Int} (hb:bounds S n l hh=some (gs,i,j)) (hg: ∀ g ∈ gs,g.p) (UC:Bool):
 (Instr.sliceBounds UC n cap (lo.map a.eval) (hi.map a.eval) none).run P w= .ok (i.toNat,j.toNat,cap) w∧0≤i∧i≤j∧j≤(n:Int)∧(hh=none→j=n):=by
 rcases Mj h hlo with ⟨rfl,rfl⟩ | ⟨x,v,rfl,rfl,hv⟩ <;> rcases Mj h hhi with ⟨rfl,rfl⟩ | ⟨y,u,rfl,rfl,hu⟩
 · cases hb
   exact ⟨by simp [Instr.sliceBounds],by omega,by omega,by omega,fun _=>rfl⟩
 · simp only [bounds] at hb
   obtain ⟨m,hm,hb⟩:=Option.bind_eq_some_iff.1 hb
   cases hb
   obtain ⟨k,hk⟩:=sP hu hm
   have g0:0≤j:=hg ⟨0≤j,inferInstance⟩ (by simp [gd])
   have g1:j≤(n:Int):=hg ⟨j≤(n:Int),inferInstance⟩ (by simp [gd])
   refine ⟨?_,by omega,by omega,g1,fun h=>by cases h⟩
   simp only [Option.map,hk,Instr.sliceBounds]
   simp [tF (P:=P) _ g0 (show j≤(cap:Int) by omega)]
 · simp only [bounds] at hb
   obtain ⟨m,hm,hb⟩:=Option.bind_eq_some_iff.1 hb
   cases hb
   obtain ⟨k,hk⟩:=sP hv hm
   have g0:0≤i:=hg ⟨0≤i,inferInstance⟩ (by simp [gd])
   have g1:i≤(n:Int):=hg ⟨i≤(n:Int),inferInstance⟩ (by simp [gd])
   refine ⟨?_,g0,g1,by omega,fun _=>rfl⟩
   simp only [Option.map,hk,Instr.sliceBounds]
   simp [tF (P:=P) _ g0 g1]
 · simp only [bounds] at hb
   obtain ⟨m,hm,hb⟩:=Option.bind_eq_some_iff.1 hb
   obtain ⟨p,hp,hb⟩:=Option.bind_eq_some_iff.1 hb
   cases hb
   obtain ⟨k,hk⟩:=sP hv hm
   obtain ⟨k',hk'⟩:=sP hu hp
   have g0:0≤j:=hg ⟨0≤j,inferInstance⟩ (by simp [gd])
   have g1:j≤(n:Int):=hg ⟨j≤(n:Int),inferInstance⟩ (by simp [gd])
   have g2:0≤i:=hg ⟨0≤i,inferInstance⟩ (by simp [gd])
   have g3:i≤j:=hg ⟨i≤j,inferInstance⟩ (by simp [gd])
   refine ⟨?_,g2,g3,g1,fun h=>by cases h⟩
   simp only [Option.map,hk,hk',Instr.sliceBounds]
   simp [tF (P:=P) _ g0 (show j≤(cap:Int) by omega),tF (P:=P) .sliceB g2 (show i≤(j.toNat:Int) by omega)]
def mq (ad:Option Addr) (cap lo sz:Nat):Option Addr:=if cap=lo then ad else ad.map (·.add (lo*sz))
theorem Y6 (hP:bh P S au) {t:Nat} {e:Ty} (ht:S.ty t=some (.sl e)) {ad:Option Addr} {n cap i j:Nat} {lo hi:Option Value}
 (hb:(Instr.sliceBounds true n cap lo hi none).run P w= .ok (i,j,cap) w):(Instr.sliceAt t (.slice ad n cap) lo hi none).run P w= .ok (.slice (mq ad cap i (Ty.sz S e)) (j - i) (cap - i)) w:=by
 obtain ⟨te,ie,z,hu,he,_⟩:=hP.sl ht
 simp [Instr.sliceAt,Instr.slice,run_underlying hu,hb,hP.size he,mq]
theorem Ed {α:Type} (l:List α) {i j:Int} {hh:Option (Sy.V S.C)} (h0:0≤i) (h1:i≤j) (h2:j≤(l.length:Int)) (hn:hh=none→j=(l.length:Int)):
 kN S l i j hh=(l.take j.toNat).drop i.toNat:=by
 cases hh with
 | none=>
  have :=hn rfl
  show l.drop i.toNat=_
  rw [this,show ((l.length:Int)).toNat=l.length from by omega,List.take_length]
 | some v=>rfl
theorem Wv {R:(t:Ty)→t.den S.C→List Value→Prop} {s:St} {e:Ty} {b o':Nat} {l:List (e.den S.C)} (h:wu S R w s e b o' l) (i j:Nat):wu S R w s e b (o'+i*Ty.sz S e) ((l.take j).drop i):=fun k x hk=>by
 have hk':l[i+k]? =some x:=by
  rw [List.getElem?_drop,List.getElem?_take] at hk
  split at hk
  · exact hk
  · cases hk
 obtain ⟨ds,d1,d2,d3⟩:=h (i+k) x hk'
 refine ⟨ds,d1, ?_,d3⟩
 rw [show o'+i*Ty.sz S e+k*Ty.sz S e=o'+(i+k)*Ty.sz S e from by rw [Nat.add_mul]; omega]
 exact d2
theorem Il {s:St} {e:Ty} {l:List (e.den S.C)} {ad:Option Addr} {cap:Nat} (h:cz S w s (.sl e) l (.slice ad l.length cap)) {i j:Nat} (h1:i≤j) (h2:j≤l.length):
 cz S w s (.sl e) ((l.take j).drop i) (.slice (mq ad cap i (Ty.sz S e)) (j - i) (cap - i)):=by
 obtain ⟨rI,cap',he,hle,hel⟩:=mC h
 cases he
 have hlen:((l.take j).drop i).length=j - i:=by rw [List.length_drop,List.length_take]; omega
 rcases hel with hel | ⟨b,o',n,rfl,hel⟩
 · exact ⟨rfl,1,_,_,by rw [hlen]; rfl,by rw [hlen]; omega, .inl (by rw [hlen]; omega)⟩
 · by_cases hc:cap=i
   · exact ⟨rfl,1,_,_,by rw [hlen]; rfl,by rw [hlen]; omega, .inl (by rw [hlen]; omega)⟩
   · refine ⟨rfl,n+1,_,_,by rw [hlen]; rfl,by rw [hlen]; omega, .inr ⟨b,o'+i*Ty.sz S e, ?_,Wv hel i j⟩⟩
     rw [mq,if_neg hc]
     simp [Addr.add_mid]
theorem Y8 {t:Nat} (hu:P.underlying t=some .string) (s:List UInt8) {i j:Nat} {lo hi:Option Value}
 (hb:(Instr.sliceBounds false s.length s.length lo hi none).run P w= .ok (i,j,s.length) w):(Instr.sliceAt t (.string ⟨s.toArray⟩) lo hi none).run P w= .ok (.string ⟨((s.take j).drop i).toArray⟩) w:=by
 have e1:=Sh s i j
 have hsz:=Of s
 simp [Instr.sliceAt,Instr.slice,run_underlying hu,hsz,hb,e1]
theorem Q6 {n:Nat} {hh:Option (Sy.V S.C)} {gs:List Gd} {i j:Int} (hb:bounds S n none hh=some (gs,i,j)):i=0:=by
 cases hh with
 | none=>cases hb; rfl
 | some u=>
  simp only [bounds] at hb
  obtain ⟨m,hm,hb⟩:=Option.bind_eq_some_iff.1 hb
  cases hb; rfl
theorem Io {s':St} {bx:Bx S.C} {k:Nat} {e:Ty} {l:List (e.den S.C)} (hb:bx k=some (.arr e l)) {ad:Option Addr} {n cap:Nat} (ha:p7 (μ k) ad n cap (Ty.sz S e)) {N:Nat} {lo hh:Option (Sy.V S.C)} {gs:List Gd} {i j:Int}
 (hbd:bounds S N lo hh=some (gs,i,j)) (h0:0≤i) (h1:i≤j) (h2:j≤(l.length:Int)) (h3:j≤(cap:Int)):
 RV P S w s' μ bx (pY S k i j lo) (.slice (mq ad cap i.toNat (Ty.sz S e)) (j.toNat - i.toNat) (cap - i.toNat)):=by
 have hn: ∀ e' (l':List (e'.den S.C)),bx k=some (.arr e' l')→e'=e∧l'.length=l.length∧Ty.sz S e'=Ty.sz S e:=by
  intro e' l' h
  rw [hb] at h
  cases h
  exact ⟨rfl,rfl,rfl⟩
 cases lo with
 | none=>
  have :=Q6 hbd
  subst this
  refine ⟨⟨_,_,_,rfl⟩,fun e' l' hb'=> ?_⟩
  obtain ⟨_,q2,q3⟩:=hn e' l' hb'
  rw [q2,q3]
  have hs:mq ad cap 0 (Ty.sz S e)=ad:=by
   unfold mq
   split
   · rfl
   · rw [ha.addr]
     split
     · rfl
     · simp [Addr.add_mid]
  refine ⟨h1,by omega,ad,cap, ?_,ha.addr,ha.mH,ha.cells,ha.isNil,by omega⟩
  rw [show (0:Int).toNat=0 from rfl,hs]; rfl
 | some u=>
  refine ⟨⟨_,_,_,rfl⟩,fun e' l' hb'=> ?_⟩
  obtain ⟨_,q2,q3⟩:=hn e' l' hb'
  rw [q2,q3]
  refine ⟨h0,by omega,by omega,_,_,by rw [show (j - i).toNat=j.toNat - i.toNat from by omega],by omega, ?_⟩
  by_cases hz:(j - i).toNat=0
  · exact .inl hz
  · refine .inr ?_
    have jG:(μ k).nil=false:=by
     cases hn:(μ k).nil with
     | false=>rfl
     | true=>have :=ha.isNil hn; have :=ha.mH; omega
    unfold mq
    rw [if_neg (by omega),ha.addr,jG]
    simp [Addr.add_mid]
theorem Zw (hP:bh P S au) (h:Inv P S w0 M0 s0 dq env a w μ) (hd: ∀ d,o.dst=some d→d<a.tmps.size) {t:TypeId} {x:Operand} {lo hi:Option Operand} {ids:List Nat} {vw:Bool} (ho:o.op= .slice t x lo hi none)
 (hl:(match S.ty t,aX S env.tm x,ku S env.tm lo,ku S env.tm hi with
  | some T,some v,some l,some h=>Ib S vw T (restrict S env.bx ids) l h v
  | _,_,_,_=> .fail).leaf (V,us)) (hK:Goal P S w0 M0 s0 dq env a o.dst V us K):o.wp P a w K Q:=by
 split at hl
 · rename_i T v l hh ht hx hlo hhi
   obtain ⟨hv,dH⟩:=bI h hx
   have run: ∀ (e:Ty) (ad:Option Addr) (n cap i j:Nat),S.ty t=some (.sl e)→a.eval x= .slice ad n cap→(Instr.sliceBounds true n cap (lo.map a.eval) (hi.map a.eval) none).run P w= .ok (i,j,cap) w→
    (execOp a.eval o).run P w= .ok (.value (.slice (mq ad cap i (Ty.sz S e)) (j - i) (cap - i))) w:=by
    intro e ad n cap i j ht he hb
    unfold execOp
    simp only [ho,he]
    simp [Y6 hP ht hb]
   have data: ∀ (e:Ty) (s:List (e.den S.C)),cz S w (aN S w0 M0 s0 env.bx μ w) (.sl e) s (a.eval x)→(if T= .sl e then match bounds S s.length l hh with
    | some (gs,a,b)=>Tr.gd gs (aI S (.d (.sl e) (kN S s a b hh)) [])
    | none=> .fail else .fail:Rt S).leaf (V,us)→o.wp P a w K Q:=by
    intro e s hr cv
    clear hl
    split at cv
    · rename_i hT
      subst hT
      split at cv
      · rename_i gs i j hb
        obtain ⟨hg,rfl,rfl⟩:=gq cv
        obtain ⟨ad,cap,he,hcap,_⟩:=mC hr
        obtain ⟨b1,b2,b3,b4,b5⟩:=rM h hlo hhi hcap hb hg true
        rw [he] at hr
        refine wp_pure (V:= .d (.sl e) (kN S s i j hh)) h (run e ad _ cap _ _ ht he b1) hd ?_ (by simp [aH,aF]) hK
        show cz S w _ (.sl e) (kN S s i j hh) _
        rw [Ed s b2 b3 b4 b5]
        exact Il hr (by omega) (by omega)
      · exact cv.elim
    · exact cv.elim
   unfold Ib at hl
   split at hl
   · rename_i s
     split at hl
     · rename_i hT
       subst hT
       split at hl
       · rename_i gs i j hb
         obtain ⟨hg,rfl,rfl⟩:=gq hl
         have he:=nI hv
         obtain ⟨b1,b2,b3,b4,b5⟩:=rM h hlo hhi (Nat.le_refl _) hb hg false
         have hu:P.underlying t=some .string:=(hP.ty t _ ht).2
         refine wp_pure (V:= .d .str (kN S s i j hh)) h (v:= .string ⟨((List.take j.toNat s).drop i.toNat).toArray⟩) ?_ hd ?_ (by simp [aH,aF]) hK
         · unfold execOp
           simp only [ho,he]
           rw [Sem.run_bind,show Option.map a.eval none=none from rfl,Y8 hu s b1]
           rfl
         · show cz S w _ .str (kN S s i j hh) _
           rw [Ed s b2 b3 b4 b5]
           exact Dd ..
       · exact hl.elim
     · exact hl.elim
   · exact data _ _ hv hl
   · rename_i k e s
     split at hl
     · rename_i hT
       subst hT
       split at hl
       · rename_i gs i j hb
         obtain ⟨hg,rfl,rfl⟩:=gq hl
         obtain ⟨ad,cap,he,hcap,_⟩:=mC hv.1
         obtain ⟨b1,b2,b3,b4,b5⟩:=rM h hlo hhi hcap hb hg true
         have hr:=hv.1
         rw [he] at hr
         have hsub:=Il hr (show i.toNat≤j.toNat by omega) (by omega)
         cases hh with
         | some ec=>
          refine wp_pure (V:= .d (.sl e) (cut s i j)) h (run e ad _ cap _ _ ht he b1) hd hsub (by simp [aH,aF]) hK
         | none=>
          have hj:=b5 rfl
          have KN:cutFrom s i=(s.take j.toNat).drop i.toNat:=by
           show s.drop i.toNat=_
           rw [hj,show ((s.length:Int)).toNat=s.length from by omega,List.take_length]
          refine wp_pure (V:= .bu k e (cutFrom s i)) h (run e ad _ cap _ _ ht he b1) hd ⟨by rw [KN]; exact hsub,fun hb'=> ?_⟩ (fun i hi=>dH i hi) hK
          have hlen:(cutFrom s i).length=j.toNat - i.toNat:=by rw [KN,List.length_drop,List.length_take]; omega
          obtain ⟨rI,cap',he',nX⟩:=hv.2 hb'
          rw [he] at he'
          cases he'
          refine ⟨_,_,by rw [hlen], ?_⟩
          rw [hlen]
          rcases nX with ⟨rfl,rfl,hn⟩ | ⟨b,o',rfl,t1,t2⟩
          · exact .inl ⟨by unfold mq; split <;> rfl,by omega,hn⟩
          · by_cases hc:cap=i.toNat
            · refine .inr ⟨b,o',by rw [mq,if_pos hc], ?_,fun hlt=>by omega⟩
              rw [t1]; congr 1; omega
            · refine .inr ⟨b,o'+i.toNat*Ty.sz S e,by rw [mq,if_neg hc]; simp [Addr.add_mid], ?_,fun hlt=> ?_⟩
              · rw [t1]; congr 1; omega
              · obtain ⟨t2,t3⟩:=t2 (by omega)
                refine ⟨t2, ?_⟩
                rw [t3]
                have :s.length*Ty.sz S e=i.toNat*Ty.sz S e+(j.toNat - i.toNat)*Ty.sz S e:=by rw [← Nat.add_mul]; congr 1; omega
                omega
       · exact hl.elim
     · exact hl.elim
   · rename_i k
     split at hl
     · rename_i e s hb
       have hb:=fu hb
       split at hl
       · rename_i hT
         subst hT
         split at hl
         · rename_i gs i j hbd
           cases vw with
           | true=>
            obtain ⟨hg,rfl,rfl⟩:=gq hl
            obtain ⟨ad,cap,he,hao⟩:=hv.2 e s (.inl hb)
            obtain ⟨b1,b2,b3,b4,b5⟩:=rM h hlo hhi hao.fits hbd hg true
            have hfit:=hao.fits
            refine wp_pure (V:=pY S k i j l) h (run e ad _ cap _ _ ht he b1) hd (Io hb hao hbd b2 b3 b4 (by omega)) (fun q hq=> ?_) hK
            have :q=k:=by cases l <;> simpa [pY,aH,aF] using hq
            rw [this,hb]; simp
           | false=>
           have hl:(Tr.gd gs (aI S (.d (.sl e) (kN S s i j hh)) [(k, .bR e s)]):Rt S).leaf (V,us):=hl
           obtain ⟨hg,rfl,rfl⟩:=gq hl
           have htk:Tk S env.bx (aA env.bx [(k, .bR e s)]):=Tk.OX hb
           obtain ⟨ad,cap,he,hao⟩:=hv.2 e s (.inl hb)
           obtain ⟨b1,b2,b3,b4,b5⟩:=rM h hlo hhi hao.fits hbd hg true
           refine aaS (V:= .d (.sl e) (kN S s i j hh)) h (run e ad _ cap _ _ ht he b1) hd htk (fun hI=> ?_) (by simp [aH,aF]) hK
           have hr:=EI hI (Tk.refl S _) (aZ env.bx k (some (.bR e s))) (bP.step P S (Ow htk) (fun i B0 bV=> ?_) (fun j hj=>dH j hj) hv)
           · rw [he] at hr
             show cz S w _ (.sl e) (kN S s i j hh) _
             rw [Ed s b2 b3 b4 b5]
             have hr':cz S w (cC S w0 M0 s0 (aA env.bx [(k, .bR e s)]) (aA env.bx [(k, .bR e s)]) μ w) (.sl e) s (.slice ad s.length cap):=⟨rfl,hr⟩
             refine cz.mono S (fun b o ⟨h1,h2,h3⟩=>⟨⟨h1,h2,fun i hi=> ?_⟩,rfl⟩) (Il hr' (show i.toNat≤j.toNat by omega) (by omega))
             rcases h3 i hi with ⟨e',l',hf⟩ | hf
             · unfold live at hi; rw [hf] at hi; exact hi.elim
             · exact hf
           · rcases htk i with e1 | ⟨e1,_⟩ | ⟨e',l',e1,e2⟩
             · exact ⟨B0,e1.trans bV,cL.refl S _ _⟩
             · exact ⟨_,e1,by cases B0 <;> rfl⟩
             · rw [bV] at e1; cases e1; exact ⟨_,e2,rfl,rfl,rfl⟩
         · exact hl.elim
       · exact hl.elim
     · rename_i e s hb
       have hb:=fu hb
       refine data e s ?_ hl
       obtain ⟨n,hn⟩:=EI h (Tk.refl S _) hb hv
       obtain ⟨ad,cap,he,hao⟩:=hv.2 e s (.inr hb)
       rw [he] at hn ⊢
       refine ⟨rfl,n,hn.mono S (fun b o ⟨h1,h2,h3⟩=>⟨⟨h1,h2,fun i hi=> ?_⟩,rfl⟩) (Nat.le_refl _)⟩
       rcases h3 i hi with ⟨e',l',hf⟩ | hf
       · unfold live at hi; rw [hf] at hi; exact hi.elim
       · exact hf
     · exact hl.elim
   · rename_i k n
     split at hl
     · rename_i e s hb
       have hb:=fu hb
       obtain ⟨hn0,hnl,ad,cap,he,hao⟩:=hv.2 e s hb
       obtain ⟨g1,g2,g3,g4,g5⟩:=h.cm k _ hb
       have hcap:=hao.mH
       have hfit:=hao.fits
       have ids: ∀ i j, ∀ q ∈ aH S (pY S k i j l),env.bx q≠none:=fun i j q hq=>by
        have :q=k:=by cases l <;> simpa [pY,aH,aF] using hq
        rw [this,hb]; simp
       split at hl
       · rename_i hT
         subst hT
         cases hh with
         | none=>
          dsimp only at hl
          split at hl
          · rename_i gs i j hbd
            obtain ⟨hg,rfl,rfl⟩:=gq hl
            obtain ⟨b1,b2,b3,b4,b5⟩:=rM h hlo hhi hao.fits hbd hg true
            exact wp_pure (V:=pY S k i j l) h (run e ad _ cap _ _ ht he b1) hd (Io hb hao hbd b2 b3 (by omega) (by omega)) (ids i j) hK
          · exact hl.elim
         | some u=>
          dsimp only at hl
          split at hl
          · rename_i gs i j hbd
            obtain ⟨hg,rfl,rfl⟩:=gq hl
            obtain ⟨b1,b2,b3,b4,b5⟩:=rM (cap:=cap) h hlo hhi (show s.length≤cap by omega) hbd hg true
            obtain ⟨hi',TD⟩: ∃ y,hi=some y:=by
             cases hi with
             | none=>cases hhi
             | some y=>exact ⟨y,rfl⟩
            subst TD
            have QK:(Instr.sliceBounds true n.toNat cap (lo.map a.eval) ((some hi').map a.eval) none).run P w= .ok (i.toNat,j.toNat,cap) w:=b1
            exact wp_pure (V:=pY S k i j l) h (run e ad _ cap _ _ ht he QK) hd (Io hb hao hbd b2 b3 b4 (by omega)) (ids i j) hK
          · exact hl.elim
       · exact hl.elim
     · exact hl.elim
   · exact hl.elim
 · exact hl.elim
theorem Vb (hP:bh P S au) (h:Inv P S w0 M0 s0 dq env a w μ) (hd: ∀ d,o.dst=some d→d<a.tmps.size) {c:Call} (ho:o.op= .call c) (hc:c.callee= .builtin .len) {args:List (Sy.V S.C)} {ids:List Nat}
 (hargs:c.args.toList.mapM (aX S env.tm)=some args)
 (hl:(match args,(c.argTypes[0]?).bind S.ty with
  | [v],some T=>FW S T (restrict S env.bx ids) v
  | _,_=> .fail).leaf (V,us)) (hK:Goal P S w0 M0 s0 dq env a o.dst V us K):o.wp P a w K Q:=by
 split at hl
 · rename_i v T KF
   obtain ⟨t,ht,hT⟩:=Option.bind_eq_some_iff.1 KF
   clear KF
   have hone: ∃ x,c.args= #[x]∧aX S env.tm x=some v:=by
    cases e:c.args.toList with
    | nil=>rw [e] at hargs; simp at hargs
    | cons x r=>
     rw [e] at hargs
     cases r with
     | nil=>
      refine ⟨x, ?_, ?_⟩
      · have :c.args=c.args.toList.toArray:=by simp
        rw [this,e]
      · simp at hargs
        cases hx:aX S env.tm x with
        | none=>rw [hx] at hargs; simp at hargs
        | some v'=>rw [hx] at hargs; simp at hargs; rw [hargs]
     | cons y r=>
      simp at hargs
      cases hx:aX S env.tm x with
      | none=>rw [hx] at hargs; simp at hargs
      | some v'=>
       rw [hx] at hargs
       cases hy:aX S env.tm y with
       | none=>rw [hy] at hargs; simp at hargs
       | some u'=>
        rw [hy] at hargs
        cases hr:List.mapM (aX S env.tm) r with
        | none=>rw [hr] at hargs; simp at hargs
        | some q=>rw [hr] at hargs; simp at hargs
   obtain ⟨x,hx,Lu⟩:=hone
   have hv:=(bI h Lu).1
   clear hargs Lu
   have fin: ∀ (n:Nat),(Builtin.len_ c.argTypes o.type #[a.eval x]).run P w= .ok (goInt n) w→V= .d (.int .i64) (n:Int)→us= []→o.wp P a w K Q:=by
    rintro n hr rfl rfl
    refine wp_pure (V:= .d (.int .i64) (n:Int)) h (v:=goInt n) ?_ hd (jJ ..) (by simp [aH,aF]) hK
    unfold execOp
    simp only [ho]
    simp [resolve,hc,hx,invoke,builtin,hr]
   have slc: ∀ (e:Ty) (n cap:Nat) (ad:Option Addr),T= .sl e→a.eval x= .slice ad n cap→(Builtin.len_ c.argTypes o.type #[a.eval x]).run P w= .ok (goInt n) w:=by
    rintro e n cap ad rfl he
    obtain ⟨te,ie,z,hu,_⟩:=hP.sl hT
    rw [he]
    simp [Builtin.len_,ht,run_underlying hu]
   unfold FW at hl
   split at hl
   · rename_i s
     split at hl
     · rename_i lH
       subst lH
       obtain ⟨e1,e2⟩:=bL hl
       refine fin _ ?_ e1 e2
       have hu:P.underlying t=some .string:=(hP.ty t _ hT).2
       rw [nI hv]
       simp only [Builtin.len_,ht]
       simp [run_underlying hu]
       exact congrArg (fun n:Nat=>goInt n) (Of s)
     · exact hl.elim
   · split at hl
     · rename_i e
       obtain ⟨e1,e2⟩:=bL hl
       exact fin 0 (slc e 0 0 none rfl hv) e1 e2
     · exact hl.elim
   · rename_i e l
     split at hl
     · rename_i lH
       obtain ⟨e1,e2⟩:=bL hl
       obtain ⟨ad,cap,he,_⟩:=mC hv
       exact fin _ (slc e _ cap ad lH he) e1 e2
     · exact hl.elim
   · rename_i k e l
     split at hl
     · rename_i lH
       obtain ⟨e1,e2⟩:=bL hl
       obtain ⟨ad,cap,he,_⟩:=mC hv.1
       exact fin _ (slc e _ cap ad lH he) e1 e2
     · exact hl.elim
   · rename_i k
     have own: ∀ (e:Ty) (l:List (e.den S.C)),(env.bx k=some (.arr e l)∨env.bx k=some (.bR e l))→(if T= .sl e then aI S (.d (.int .i64) (l.length:Int)) [] else .fail:Rt S).leaf (V,us)→o.wp P a w K Q:=by
      intro e l hb cv
      split at cv
      · rename_i lH
        obtain ⟨e1,e2⟩:=bL cv
        obtain ⟨ad,cap,he,_⟩:=hv.2 e l hb
        exact fin _ (slc e _ cap ad lH he) e1 e2
      · exact cv.elim
     split at hl
     · rename_i hb; exact own _ _ (.inl (fu hb)) hl
     · rename_i hb; exact own _ _ (.inr (fu hb)) hl
     · exact hl.elim
   · rename_i b n
     split at hl
     · rename_i e l hb
       have hb:=fu hb
       split at hl
       · rename_i lH
         obtain ⟨e1,e2⟩:=bL hl
         obtain ⟨hn0,hnl,ad,cap,he,_⟩:=hv.2 e l hb
         refine fin _ (slc e _ cap ad lH he) ?_ e2
         rw [e1,show ((n.toNat:Nat):Int)=n from by omega]
       · exact hl.elim
     · exact hl.elim
   · exact hl.elim
 · exact hl.elim
theorem Y7 (hP:bh P S au) {t:Nat} {e:Ty} (ht:S.ty t=some (.sl e)) {ad:Option Addr} {n cap:Nat} {k1 k2 k3:IntKind} {i j m:Int} (h0:0≤i) (h1:i≤j) (h2:j≤m) (h3:m≤(cap:Int)):
 ∃ v,(Instr.sliceAt t (.slice ad n cap) (some (.int k1 i)) (some (.int k2 j)) (some (.int k3 m))).run P w= .ok v w:=by
 obtain ⟨te,ie,z,hu,he,_⟩:=hP.sl ht
 refine ⟨.slice (if m.toNat=i.toNat then ad else ad.map (·.add (i.toNat*Ty.sz S e))) (j.toNat - i.toNat) (m.toNat - i.toNat), ?_⟩
 simp [Instr.sliceAt,Instr.slice,run_underlying hu,Instr.sliceBounds,tF (P:=P) _ (show 0≤m by omega) h3,tF (P:=P) (i:=j) (y:=m.toNat) _ (by omega) (by omega),tF (P:=P) (i:=i) (y:=j.toNat) _ (by omega) (by omega),hP.size he]
theorem Zv (hP:bh P S au) (h:Inv P S w0 M0 s0 dq env a w μ) (hd: ∀ d,o.dst=some d→d<a.tmps.size) {t:TypeId} {x lo hi mx:Operand} {ids:List Nat} (ho:o.op= .slice t x (some lo) (some hi) (some mx))
 (hl:(match S.ty t,aX S env.tm x,aX S env.tm lo,aX S env.tm hi,aX S env.tm mx with
  | some T,some v,some l,some h,some m=>Ia S T (restrict S env.bx ids) l h m v
  | _,_,_,_,_=> .fail).leaf (V,us)) (hK:Goal P S w0 M0 s0 dq env a o.dst V us K):o.wp P a w K Q:=by
 split at hl
 · rename_i T v l hh m ht hx hlo hhi TS
   obtain ⟨hv,dH⟩:=bI h hx
   unfold Ia at hl
   split at hl
   · rename_i k
     split at hl
     · rename_i e s hb
       have hb:=fu hb
       split at hl
       · rename_i hT
         subst hT
         split at hl
         · rename_i i j c e1 e2 e3
           obtain ⟨hg,rfl,rfl⟩:=gq hl
           have g0:0≤i:=hg ⟨0≤i,inferInstance⟩ (by simp [gd])
           have g1:i≤j:=hg ⟨i≤j,inferInstance⟩ (by simp [gd])
           have g2:j≤c:=hg ⟨j≤c,inferInstance⟩ (by simp [gd])
           have g3:c≤(s.length:Int):=hg ⟨c≤(s.length:Int),inferInstance⟩ (by simp [gd])
           obtain ⟨ad,cap,he,hao⟩:=hv.2 e s (.inl hb)
           have hfit:=hao.fits
           obtain ⟨k1,q1⟩:=sP (bI h hlo).1 e1
           obtain ⟨k2,q2⟩:=sP (bI h hhi).1 e2
           obtain ⟨k3,q3⟩:=sP (bI h TS).1 e3
           obtain ⟨r,hr⟩:=Y7 (P:=P) (w:=w) hP ht (ad:=ad) (n:=s.length) (cap:=cap) (k1:=k1) (k2:=k2) (k3:=k3) g0 g1 g2 (by omega)
           refine wp_pure (V:= .undef) h (v:=r) ?_ hd trivial (by simp [aH,aF]) hK
           unfold execOp
           simp only [ho,he,Option.map,q1,q2,q3]
           simp [hr]
         · exact hl.elim
       · exact hl.elim
     · exact hl.elim
   · exact hl.elim
 · exact hl.elim
end
end Go.Sy
namespace Go.Sy
section
variable {P:Program} {S:bf} {au:Nat→Nat}
variable {w0:World} {M0 s0:St} {dq:List Deferred} {env:Env S.C} {a:Act} {w:World} {μ:Nat→Loc} {K:Act→World→Prop} {Q:Exit→Act→World→Prop} {o:Oper} {V:V S.C} {us:aP S.C}
theorem aO.map {w w':World} {s s':St} {μ μ':Nat→Loc} {bx aq:Bx S.C} (h: ∀ V v,bP P S w s μ bx V v→(∀ j ∈ aF S V,bx j≠none)→bP P S w' s' μ' aq V v):
 ∀ {vs:List (Sy.V S.C)} {cs:List Value},(∀ v ∈ vs, ∀ j ∈ aF S v,bx j≠none)→aO P S w s μ bx vs cs→aO P S w' s' μ' aq vs cs
 | [],_,_,h'=>h'
 | v::vs,_,hr,⟨c,r,h1,h2,h3⟩=>⟨c,r,h1,h _ _ h2 (hr v (by simp)),aO.map h (fun v hv=>hr v (by simp [hv])) h3⟩
theorem UB {v:Value} (h:isAgg v=false):v.cells.toList= [v]:=aJ.mI (t:= .bool) h rfl
theorem Oo {s:St} {bx:Bx S.C} {V:Sy.V S.C} {v:Value} (hs:bW S V=true) (h:bP P S w s μ bx V v):isAgg v=false∧v.oneCell'=true:=by
 cases V with
 | d t x=>
  obtain ⟨ha,n,hn⟩:=h
  cases t with
  | st u=>simp [bW] at hs
  | int k=>rw [mB (w:=w) (s:=s) ⟨ha,n,hn⟩]; exact ⟨rfl,rfl⟩
  | bool=>rw [rC (w:=w) (s:=s) ⟨ha,n,hn⟩]; exact ⟨rfl,rfl⟩
  | str=>rw [nI (w:=w) (s:=s) ⟨ha,n,hn⟩]; exact ⟨rfl,rfl⟩
  | pt=>
   cases n with
   | zero=>exact hn.elim
   | succ n=>
    have hn:v.cells.toList= [.pointer none]:=hn
    rw [aJ.mI (t:= .pt) ha rfl] at hn
    cases hn
    exact ⟨rfl,rfl⟩
  | sl e=>obtain ⟨a,cap,he,_⟩:=mC (w:=w) (s:=s) ⟨ha,n,hn⟩; rw [he]; exact ⟨rfl,rfl⟩
 | pr p i=>cases h; exact ⟨rfl,rfl⟩
 | bu b e l=>obtain ⟨a,cap,he,_⟩:=mC h.1; rw [he]; exact ⟨rfl,rfl⟩
 | aY b=>obtain ⟨⟨a,n,c,rfl⟩,_⟩:=h; exact ⟨rfl,rfl⟩
 | ptr b off=>cases h; exact ⟨rfl,rfl⟩
 | fH b i off=>obtain ⟨⟨p,rfl⟩,_⟩:=h; exact ⟨rfl,rfl⟩
 | dF t x=>obtain ⟨b,o',ds,rfl,_⟩:=h; exact ⟨rfl,rfl⟩
 | nil=>cases h; exact ⟨rfl,rfl⟩
 | cH=>cases h; exact ⟨rfl,rfl⟩
 | fv A R g=>obtain ⟨f,first,cap,rfl,_⟩:=h; exact ⟨rfl,rfl⟩
 | undef=>simp [bW] at hs
 | skip=>simp [bW] at hs
 | pre b n=>simp [bW] at hs
 | win b i n=>simp [bW] at hs
 | cD b n=>simp [bW] at hs
 | split b c=>simp [bW] at hs
 | mY c=>simp [bW] at hs
 | err b=>simp [bW] at hs
 | fT f vs=>simp [bW] at hs
 | agg u vs=>simp [bW] at hs
 | jw vs=>simp [bW] at hs
theorem y5 {s:St} {bx:Bx S.C} : ∀ {vs:List (Sy.V S.C)} {cs:List Value},vs.all (bW S)=true→aO P S w s μ bx vs cs→ ∀ c ∈ cs,c.oneCell'=true
 | [],_,_,h,c,hc=>by cases h; simp at hc
 | V::vs,_,hs,⟨c,r,h1,h2,h3⟩,d,hd=>by
  subst h1
  simp only [List.all_cons,Bool.and_eq_true] at hs
  rcases List.mem_cons.1 hd with rfl | hd
  · exact (Oo hs.1 h2).2
  · exact y5 hs.2 h3 d hd
theorem Eb (hS:cU S) {s:St} {bx:Bx S.C} {V:Sy.V S.C} {v:Value} (hs:(cellsOf S V).all (bW S)=true) (h:RV P S w s μ bx V v):
 aO P S w s μ bx (cellsOf S V) v.cells.toList∧ ∀ u ∈ cellsOf S V, ∀ j ∈ aF S u,j ∈ aH S V:=by
 have one: ∀ (W:Sy.V S.C),V=W→cellsOf S V= [W]→bP P S w s μ bx W v→(∀ j ∈ aF S W,j ∈ aH S V)→aO P S w s μ bx (cellsOf S V) v.cells.toList∧ ∀ u ∈ cellsOf S V, ∀ j ∈ aF S u,j ∈ aH S V:=by
  intro W hW he h1 h2
  rw [he] at hs
  simp only [List.all_cons,Bool.and_eq_true] at hs
  refine ⟨?_,fun u hu j hj=> ?_⟩
  · rw [he,UB (Oo hs.1 h1).1]
    exact ⟨v,[],rfl,h1,rfl⟩
  · rw [he] at hu
    simp at hu
    subst hu
    exact h2 j hj
 cases V with
 | d t x=>
  obtain ⟨ha,n,hn⟩:=h
  obtain ⟨h1,h2,h3⟩:=nP (P:=P) hS μ bx hn
  exact ⟨h1,fun u hu j hj=>by rw [h3 u hu] at hj; simp at hj⟩
 | agg u vs=>
  obtain ⟨cs,rfl,_,_,hvs⟩:=h
  exact ⟨hvs,fun v hv j hj=>by simp only [aH,List.mem_flatMap]; exact ⟨v,hv,hj⟩⟩
 | jw vs=>simp [cellsOf,bW] at hs
 | fT f vs=>simp [cellsOf,bW] at hs
 | undef=>simp [cellsOf,bW] at hs
 | skip=>simp [cellsOf,bW] at hs
 | pr p i=>exact one _ rfl rfl h (fun j hj=>hj)
 | bu b e l=>exact one _ rfl rfl h (fun j hj=>hj)
 | aY b=>exact one _ rfl rfl h (fun j hj=>hj)
 | pre b n=>simp [cellsOf,bW] at hs
 | win b i n=>simp [cellsOf,bW] at hs
 | cD b n=>simp [cellsOf,bW] at hs
 | split b c=>simp [cellsOf,bW] at hs
 | mY c=>simp [cellsOf,bW] at hs
 | err b=>simp [cellsOf,bW] at hs
 | ptr b off=>exact one _ rfl rfl h (fun j hj=>hj)
 | fH b i off=>exact one _ rfl rfl h (fun j hj=>hj)
 | dF t x=>exact one _ rfl rfl h (fun j hj=>hj)
 | nil=>exact one _ rfl rfl h (fun j hj=>hj)
 | cH=>exact one _ rfl rfl h (fun j hj=>hj)
 | fv A R g=>exact one _ rfl rfl h (fun j hj=>hj)
theorem EC {vs:List (Sy.V S.C)} {n:Nat} (h:fits S vs n=true):vs.length=n∧vs.all (bW S)=true:=by
 unfold fits at h
 rw [Bool.and_eq_true] at h
 exact ⟨Nat.eq_of_beq_eq_true h.1,h.2⟩
theorem qB {w:World} {cs:Array Value} {t:TypeId} :(w.alloc (.cells cs t)).there w.heap.size 0 cs.size∧(w.alloc (.cells cs t)).rangeAt w.heap.size 0 cs.toList:=by
 refine ⟨fun j hj=> ?_,fun j v hv=> ?_⟩
 · rw [Nat.zero_add]
   simp [hj]
 · rw [Nat.zero_add]
   simpa using hv
theorem O4 (hP:bh P S au) (h:Inv P S w0 M0 s0 dq env a w μ) (hd: ∀ d,o.dst=some d→d<a.tmps.size) {B:Nat} {t:TypeId} {cells:Array Value} {vs:List (Sy.V S.C)}
 (hrun:(execOp a.eval o).run P w= .ok (.value (.pointer (some ⟨w.heap.size,0,none⟩))) (w.alloc (.cells cells t))) (hB:env.bx B=none)
 (hs:vs.all (bW S)=true) (hv:aO P S w (aN S w0 M0 s0 env.bx μ w) μ env.bx vs cells.toList) (hr: ∀ v ∈ vs, ∀ j ∈ aF S v,env.bx j≠none)
 (hK:Goal P S w0 M0 s0 dq env a o.dst (.ptr B 0) [(B, .cells vs)] K):o.wp P a w K Q:=by
 have hlen:=aO.length P S hv
 refine rj (i:=B) (B:= .cells vs) (V:= .ptr B 0) (L:=⟨w.heap.size,0,vs.length,0,false⟩) h hrun hd (br.alloc w _ _) hB (fun b o' hf=>Nat.le_of_eq hf.1.symm) (fun _ _ h3=>⟨⟨hs,rfl, ?_,cells.toList,qB.2, ?_⟩, ?_⟩)
  (fun vs' hvs v hv j hj=> ?_) (fun j hj=> .inl (by simpa [aH,aF] using hj)) hK
 · have :=(qB (w:=w) (cs:=cells) (t:=t)).1
   rw [show cells.size=vs.length from by rw [← hlen]; simp] at this
   exact this
 · exact aO.map h3 hr hv
 · show Value.pointer _=_
   rw [aZ]
 · rcases hvs with hvs | hvs
   · cases hvs; exact hr v hv j hj
   · cases hvs
theorem aaR (hP:bh P S au) (h:Inv P S w0 M0 s0 dq env a w μ) (hd: ∀ d,o.dst=some d→d<a.tmps.size) {B c:Nat} {t:TypeId} {cells:Array Value} {vs:List (Sy.V S.C)}
 (hrun:(execOp a.eval o).run P w= .ok (.value (.pointer (some ⟨w.heap.size,0,none⟩))) (w.alloc (.cells cells t))) (hB:env.bx B=none)
 (hs:(Sy.V.ptr c 0::vs).all (bW S)=true) (hv:aO P S w (aN S w0 M0 s0 env.bx μ w) μ env.bx (.ptr c 0::vs) cells.toList) (hr: ∀ v ∈ Sy.V.ptr c 0::vs, ∀ j ∈ aF S v,env.bx j≠none)
 (hK:Goal P S w0 M0 s0 dq env a o.dst (.split B c) [(B, .cells vs)] K):o.wp P a w K Q:=by
 obtain ⟨u,r,hcs,hu,hv⟩:=hv
 have hlen:=aO.length P S hv
 have hc0:env.bx c≠none:=hr (.ptr c 0) (by simp) c (by simp [aF])
 have Th:c≠B:=fun e=>hc0 (e▸hB)
 have hu:u= .pointer (some ⟨(μ c).b,(μ c).o,none⟩):=hu
 have hsz:cells.size=vs.length+1:=by rw [← Array.length_toList,hcs,List.length_cons,hlen]
 simp only [List.all_cons,Bool.and_eq_true] at hs
 refine rj (i:=B) (B:= .cells vs) (V:= .split B c) (L:=⟨w.heap.size,1,vs.length,0,false⟩) h hrun hd (br.alloc w _ _) hB (fun b o' hf=>Nat.le_of_eq hf.1.symm) (fun _ _ h3=>⟨⟨hs.2,rfl, ?_,r, ?_, ?_⟩, ?_⟩)
  (fun vs' hvs v hv j hj=> ?_) (fun j hj=> ?_) hK
 · intro j hj
   have :=(qB (w:=w) (cs:=cells) (t:=t)).1 (1+j) (by have :j<vs.length:=hj; omega)
   rw [Nat.zero_add] at this
   exact this
 · intro j v hj
   have :=(qB (w:=w) (cs:=cells) (t:=t)).2 (1+j) v (by rw [hcs,Nat.add_comm]; simpa using hj)
   rw [Nat.zero_add] at this
   exact this
 · exact aO.map h3 (fun v hv=>hr v (by simp [hv])) hv
 · refine ⟨w.heap.size,0,rfl,fun j v hj=> ?_,by rw [aZ],by rw [aZ]⟩
   have hj0:j=0∧v= .pointer (some ⟨(az μ B ⟨w.heap.size,1,vs.length,0,false⟩ c).b,(az μ B ⟨w.heap.size,1,vs.length,0,false⟩ c).o,none⟩):=by
    cases j with
    | zero=>exact ⟨rfl,by simpa using hj.symm⟩
    | succ j=>simp at hj
   obtain ⟨rfl,rfl⟩:=hj0
   rw [bA _ _ Th]
   refine ⟨?_,by simp, .inr (.inr h.i_.size),fun i hi hf=> ?_⟩
   · have :=(qB (w:=w) (cs:=cells) (t:=t)).2 0 u (by rw [hcs]; rfl)
     rw [Nat.zero_add] at this
     rw [← hu]
     exact this
   · by_cases e:i=B
     · subst e
       rw [aZ] at hf
       have h1:1≤0+0:=hf.2.1
       omega
     · have hl:=(eM S (show az env.bx B (some (.cells vs)) i=env.bx i from bA _ _ e)).1 hi
       rw [bA _ _ e] at hf
       have :=(mW P S (h.cm i) hl hf).1
       omega
 · rcases hvs with hvs | hvs
   · cases hvs; exact hr v (by simp [hv]) j hj
   · cases hvs
 · have hj:j ∈ [B,c]:=hj
   simp only [List.mem_cons,List.not_mem_nil,or_false] at hj
   rcases hj with rfl | rfl
   · exact .inl rfl
   · exact .inr hc0
theorem tN {s:St} {bx:Bx S.C} : ∀ (ts:List Ty),ts.all (fun t=> !bG t)=true→aO P S w s μ bx (ts.map (zeroCell S)) (ts.map wh)∧(ts.map (zeroCell S)).all (bW S)=true∧ ∀ v ∈ ts.map (zeroCell S),aF S v= []
 | [],_=>⟨rfl,rfl,by simp⟩
 | t::ts,h=>by
  simp only [List.all_cons,Bool.and_eq_true,Bool.not_eq_true'] at h
  obtain ⟨h1,h2,h3⟩:=tN ts h.2
  refine ⟨⟨_,_,rfl, ?_,h1⟩, ?_, ?_⟩
  · cases t with
    | int k=>exact jJ ..
    | bool=>exact oU ..
    | str=>exact Dd ..
    | pt=>rfl
    | sl e=>rfl
    | st u=>simp [bG] at h
  · simp only [List.map_cons,List.all_cons,Bool.and_eq_true]
    exact ⟨by cases t <;> first | rfl | simp [bG] at h,h2⟩
  · intro v hv
    simp only [List.map_cons,List.mem_cons] at hv
    rcases hv with rfl | hv
    · cases t <;> rfl
    · exact h3 v hv
theorem O_ (hS:cU S) {s:St} {bx:Bx S.C} (T:Ty):aO P S w s μ bx (zeroCells S T) (tO S T)∧(zeroCells S T).all (bW S)=true∧ ∀ v ∈ zeroCells S T,aF S v= []:=by
 cases T with
 | st u=>exact tN (S.F u) (hS.flat u)
 | int k=>exact tN [.int k] rfl
 | bool=>exact tN [.bool] rfl
 | str=>exact tN [.str] rfl
 | pt=>exact tN [.pt] rfl
 | sl e=>exact tN [.sl e] rfl
theorem Q0 (hP:bh P S au) (h:Inv P S w0 M0 s0 dq env a w μ) (hd: ∀ d,o.dst=some d→d<a.tmps.size) {B:Nat} {t:TypeId} (ho:o.op= .alloc t)
 (hnew: ∀ u ∈ ([(B+1, .buf []),(B, .bn (B+1))]:aP S.C),B≤u.1→u.1<B+16→env.bx u.1=none) (hb:xP S t=true)
 (hK:Goal P S w0 M0 s0 dq env a o.dst (.ptr B 0) [(B+1, .buf []),(B, .bn (B+1))] K):o.wp P a w K Q:=by
 obtain ⟨T,e,dR,rfl⟩: ∃ T e,S.bt=some (T,e)∧t=T:=by
  unfold xP at hb
  split at hb
  · rename_i u hu
    exact ⟨u.1,u.2,hu,(Nat.eq_of_beq_eq_true hb).symm⟩
  · cases hb
 obtain ⟨_,i,z,h1,h2,h3⟩:=hP.bt _ dR
 have n1:=hnew (B+1, .buf []) (by simp) (by show B≤B+1; omega) (by show B+1<B+16; omega)
 have n0:=hnew (B, .bn (B+1)) (by simp) (Nat.le_refl _) (by show B<B+16; omega)
 have hrow:nD S w ⟨0,0,0,0,true⟩ []:=⟨rfl,rfl,fun _=>rfl,_,_,dR,World.ownsRowF_nil ..⟩
 obtain ⟨hI,_,_⟩:=h.Ga (br.refl w _) n1 (B:= .buf []) (L:=⟨0,0,0,0,true⟩) (fun b o' hf=>by have h1:o'<0+0:=hf.2.2; omega) (fun _ _ _=>hrow) (fun vs hvs=>by rcases hvs with hvs | hvs <;> cases hvs)
 have hne: ∀ (i:Nat) (B0:Option (dX S.C)),i=B→az env.bx (B+1) (some (.buf [])) i=env.bx i:=fun i _ e=>bA _ _ (by omega)
 refine rj (env:= { env with bx:=az env.bx (B+1) (some (.buf [])) }) (i:=B) (B:= .bn (B+1)) (V:= .ptr B 0) (v:= .pointer (some ⟨w.heap.size,0,none⟩)) (w':=w.alloc (.cells #[.pointer none, .slice none 0 0] t)) (L:=⟨w.heap.size,0,2,0,false⟩) hI ?_ hd (br.alloc w _ _) ((hne B none rfl).trans n0) (fun b o' hf=>Nat.le_of_eq hf.1.symm)
  (fun _ _ _=>⟨⟨rfl,rfl, ?_, .slice none 0 0,⟨t,e, .pointer none,dR,(by show (w.heap.push _)[w.heap.size]? =some _; simp), .inl rfl⟩,fun l hl=> ?_⟩, ?_⟩) (fun vs hvs=>by rcases hvs with hvs | hvs <;> cases hvs) (fun j hj=> .inl (by simpa [aH,aF] using hj)) hK
 · unfold execOp
   simp only [ho]
   simp [Instr.alloc,zeroValue,typeInfo,h1,h2,h3,newVar,newRow]
 · rw [bA _ _ (show B+1≠B by omega)]
   show az env.bx (B+1) (some (.buf [])) (B+1)≠none
   rw [aZ]; simp
 · rw [bA _ _ (show B+1≠B by omega)] at hl
   have hl:az env.bx (B+1) (some (.buf [])) (B+1)=some (.buf l):=hl
   rw [aZ] at hl
   cases hl
   rw [bA _ _ (show B+1≠B by omega),aZ]
   rfl
 · show Value.pointer _=_
   rw [aZ]
theorem Qt (hP:bh P S au) (h:Inv P S w0 M0 s0 dq env a w μ) (hd: ∀ d,o.dst=some d→d<a.tmps.size) {B:Nat} {t:TypeId} (ho:o.op= .alloc t)
 (hnew: ∀ u ∈ us,B≤u.1→u.1<B+16→env.bx u.1=none)
 (hl:(match S.ty t with
  | some u=>aI S (.ptr B 0) [(B, .cells (zeroCells S u))]
  | none=>cond (xP S t) (aI S (.ptr B 0) [(B+1, .buf []),(B, .bn (B+1))]) .fail).leaf (V,us)) (hK:Goal P S w0 M0 s0 dq env a o.dst V us K):o.wp P a w K Q:=by
 split at hl
 · rename_i T ht
   obtain ⟨rfl,rfl⟩:=bL hl
   obtain ⟨⟨i,z,h1,h2,h3,h4,h5⟩,_⟩:=hP.ty t T ht
   obtain ⟨z1,z2,z3⟩:=O_ (P:=P) (w:=w) (μ:=μ) hP.tocU (s:=aN S w0 M0 s0 env.bx μ w) (bx:=env.bx) T
   refine O4 hP h hd (cells:=z.cells) (t:=t) ?_ (hnew (B, .cells (zeroCells S T)) (List.mem_singleton.2 rfl) (Nat.le_refl _) (by show B<B+16; omega)) z2 (by rw [h5]; exact z1) (fun v hv j hj=>by rw [z3 v hv] at hj; simp at hj) hK
   unfold execOp
   simp only [ho]
   simp [Instr.alloc,zeroValue,typeInfo,h1,h3,newVar,newRow]
 · cases hb:xP S t with
   | false=>rw [hb] at hl; exact hl.elim
   | true=>
    rw [hb] at hl
    obtain ⟨rfl,rfl⟩:=bL hl
    exact Q0 hP h hd ho hnew hb hK
theorem Q7 (hP:bh P S au) (h:Inv P S w0 M0 s0 dq env a w μ) (hd: ∀ d,o.dst=some d→d<a.tmps.size) {B:Nat} {t:TypeId} {x:Operand} (ho:o.op= .box t x)
 (hnew: ∀ u ∈ us,B≤u.1→u.1<B+16→env.bx u.1=none)
 (hl:(match S.ty t,aX S env.tm x with
  | some u,some v=>cond (fits S (cellsOf S v) (Ty.sz S u)) (match S.sp t with
   | false=>aI S (.ptr (B) 0) [(B, .cells (cellsOf S v))]
   | true=>match cellsOf S v with
    | .ptr c 0::vs=>aI S (.split B c) [(B, .cells vs)]
    | _=> .fail) .fail
  | _,_=> .fail).leaf (V,us)) (hK:Goal P S w0 M0 s0 dq env a o.dst V us K):o.wp P a w K Q:=by
 split at hl
 · rename_i T v ht hx
   cases hf:fits S (cellsOf S v) (Ty.sz S T) with
   | false=>rw [hf] at hl; exact hl.elim
   | true=>
    rw [hf,cond_true] at hl
    obtain ⟨f1,f2⟩:=EC hf
    obtain ⟨hv,dH⟩:=bI h hx
    obtain ⟨c1,c2⟩:=Eb hP.tocU f2 hv
    split at hl
    rotate_left
    · split at hl
      · rename_i c vs hcs
        obtain ⟨rfl,rfl⟩:=bL hl
        rw [hcs] at f2 c1 c2
        refine aaR hP h hd (cells:=(a.eval x).cells) (t:=t) ?_ (hnew (B, .cells vs) (List.mem_singleton.2 rfl) (Nat.le_refl _) (by show B<B+16; omega)) f2 c1 (fun v hv j hj=>dH j (c2 v hv j hj)) hK
        unfold execOp
        simp only [ho]
        simp [Instr.box,newVar,newRow]
      · exact hl.elim
    obtain ⟨rfl,rfl⟩:=bL hl
    refine O4 hP h hd (cells:=(a.eval x).cells) (t:=t) ?_ (hnew (B, .cells (cellsOf S v)) (List.mem_singleton.2 rfl) (Nat.le_refl _) (by show B<B+16; omega)) f2 c1 (fun v hv j hj=>dH j (c2 v hv j hj)) hK
    unfold execOp
    simp only [ho]
    simp [Instr.box,newVar,newRow]
 · exact hl.elim
end
end Go.Sy
namespace Go.Sy
theorem ve {w:World} {b o b' o':Nat} {cs vals:List Value} (h:w.rangeAt b' o' cs) (hd:b'≠b∨o'+cs.length≤o∨o+vals.length≤o'):(w.setCells b o vals).rangeAt b' o' cs:=fun j v hj=>by
 have hjl:=(List.getElem?_eq_some_iff.1 hj).1
 rw [World.cell?_setCells_out b vals o w ⟨b',o'+j,none⟩ fun hb _=>by
  have hb:b'=b:=hb
  show o'+j<o∨o+vals.length≤o'+j
  rcases hd with hd | hd | hd
  · exact absurd hb hd
  · omega
  · omega]
 exact h j v hj
theorem MD {w:World} {b o:Nat} {cs vals:List Value} (h:w.rangeAt b o cs) (k:Nat) (hk:k+vals.length≤cs.length):(w.setCells b (o+k) vals).rangeAt b o (cs.take k++vals++cs.drop (k+vals.length)):=fun j v hj=>by
 have hin:=World.cell?_setCells_in b vals (o+k) w (fun i hi=>by
  have :(cs[k+i]?).isSome=true:=by rw [List.getElem?_eq_getElem (by omega)]; rfl
  obtain ⟨u,hu⟩:=Option.isSome_iff_exists.1 this
  rw [Nat.add_assoc,h _ _ hu]; rfl)
 by_cases h1:j<k
 · rw [List.append_assoc,List.getElem?_append_left (by simp; omega),List.getElem?_take,if_pos h1] at hj
   rw [World.cell?_setCells_out b vals (o+k) w ⟨b,o+j,none⟩ fun _ _=> .inl (by show o+j<o+k; omega)]
   exact h j v hj
 · by_cases h2:j<k+vals.length
   · rw [List.append_assoc,List.getElem?_append_right (by simp; omega),List.getElem?_append_left (by simp; omega)] at hj
     have hlen:(List.take k cs).length=k:=by simp; omega
     rw [hlen] at hj
     have :=hin (j - k) (by omega)
     rw [show o+k+(j - k)=o+j from by omega] at this
     rw [this, ← hj,List.getElem?_eq_getElem]
   · rw [List.append_assoc,List.getElem?_append_right (by simp; omega),List.getElem?_append_right (by simp; omega),List.getElem?_drop] at hj
     have hlen:(List.take k cs).length=k:=by simp; omega
     rw [hlen] at hj
     rw [World.cell?_setCells_out b vals (o+k) w ⟨b,o+j,none⟩ fun _ _=> .inr (by show o+k+vals.length≤o+j; omega)]
     rw [show k+vals.length+(j - k - vals.length)=j from by omega] at hj
     exact h j v hj
theorem BY {w:World} {b o:Nat} {vals:List Value} (ht:w.there b o vals.length):(w.setCells b o vals).rangeAt b o vals:=fun j v hj=>by
 have hjl:=(List.getElem?_eq_some_iff.1 hj).1
 rw [World.cell?_setCells_in b vals o w (fun i hi=>(ht i hi).1) j hjl, ← hj,List.getElem?_eq_getElem]
theorem vY {w:World} {b o n b' o':Nat} {vals:List Value} (h:w.there b o n) (hs:w.there b' o' vals.length):(w.setCells b' o' vals).there b o n:=fun j hj=>by
 have hc:=br.setCells w b' o' vals hs
 have hlt:b<w.heap.size:=by
  obtain ⟨v,hv⟩:=Option.isSome_iff_exists.1 (h j hj).1
  exact World.block_lt_of_cell? w _ hv
 exact ⟨hc.some _ _ hlt (h j hj).1,(World.frozen?_setCells ..).trans (h j hj).2⟩
section
variable {P:Program} {S:bf} {au:Nat→Nat}
variable {w0:World} {M0 s0:St} {dq:List Deferred} {env:Env S.C} {a:Act} {w:World} {μ:Nat→Loc} {K:Act→World→Prop} {Q:Exit→Act→World→Prop} {o:Oper} {V:V S.C} {us:aP S.C}
theorem Vw {s:St} {bx:Bx S.C} {i:Nat} {L:Loc} {B:dX S.C} (hb:bx i=some B) (hl:live S bx i) (hB: ∀ l,B≠ .buf l) (h:RB P S w s μ bx L B):w.there L.b L.o L.n:=by
 unfold live at hl
 rw [hb] at hl
 cases B with
 | cells vs=>exact h.2.2.1
 | arr e l=>exact h.2.2.2.1
 | tail=>exact h
 | bX vs=>exact hl.elim
 | bR e l=>exact hl.elim
 | dead=>exact hl.elim
 | bn j=>
  obtain ⟨h1,h2,_,v,⟨T,e,p,_,h3,_⟩,_⟩:=h
  intro k hk
  rw [h1,h2] at *
  rw [Lib.cell_of_heap h3,Lib.frozen_of_heap h3]
  refine ⟨by simp; omega,rfl⟩
 | buf l=>exact absurd rfl (hB l)
theorem Inv.write (h:Inv P S w0 M0 s0 dq env a w μ) {i:Nat} {B0 B':dX S.C} (hi:env.bx i=some B0) (hl0:live S env.bx i) (SO: ∀ l,B0≠ .buf l) {o':Nat} {vals:List Value}
 (h1:(μ i).o≤o') (h2:o'+vals.length≤(μ i).o+(μ i).n) (hc:cL S (μ i) (μ i) B0 B')
 (hb:b7 w (aN S w0 M0 s0 env.bx μ w) (w.setCells (μ i).b o' vals) (aN S w0 M0 s0 (az env.bx i (some B')) μ (w.setCells (μ i).b o' vals))→
  (∀ V v,bP P S w (aN S w0 M0 s0 env.bx μ w) μ env.bx V v→(∀ j ∈ aF S V,env.bx j≠none)→
   bP P S (w.setCells (μ i).b o' vals) (aN S w0 M0 s0 (az env.bx i (some B')) μ (w.setCells (μ i).b o' vals)) μ (az env.bx i (some B')) V v)→
  RB P S (w.setCells (μ i).b o' vals) (aN S w0 M0 s0 (az env.bx i (some B')) μ (w.setCells (μ i).b o' vals)) μ (az env.bx i (some B')) (μ i) B')
 (hr: ∀ vs,(B'= .cells vs∨B'= .bX vs)→ ∀ v ∈ vs, ∀ j ∈ aF S v,env.bx j≠none):
 Inv P S w0 M0 s0 dq { env with bx:=az env.bx i (some B') } a (w.setCells (μ i).b o' vals) μ:=by
 have xG:=oG (Vw hi hl0 SO (h.cm i B0 hi)) h1 h2
 have hU: ∀ j, ¬ j=i→az env.bx i (some B') j=env.bx j∧μ j=μ j:=fun j hj=>⟨bA _ _ hj,rfl⟩
 have hT: ∀ b o,(b=(μ i).b∧o'≤o∧o<o'+vals.length)→b<w.heap.size→ ∃ j,j=i∧live S env.bx j∧(μ j).aM b o:=fun b o mR _=>
  ⟨i,rfl,hl0,mR.1,by omega,by omega⟩
 have hf: ∀ j,j=i→live S (az env.bx i (some B')) j→ ∀ b o,(μ j).aM b o→w.heap.size≤b∨ ∃ k,k=i∧live S env.bx k∧(μ k).aM b o:=by
  rintro j rfl _ b o hfo
  exact .inr ⟨j,rfl,hl0,hfo⟩
 have sD: ∀ j B0,env.bx j=some B0→ ∃ B1,az env.bx i (some B') j=some B1∧cL S (μ j) (μ j) B0 B1:=by
  intro j B1 hj
  by_cases e:j=i
  · subst e
    rw [hi] at hj
    cases hj
    exact ⟨B',aZ _ _ _,hc⟩
  · exact ⟨B1,by rw [bA _ _ e]; exact hj,cL.refl S _ _⟩
 have hw:=br.setCells w (μ i).b o' vals xG
 have hl:=h.later (U:=fun j=>j=i) hw hT hU hf
 refine h.step (U:=fun j=>j=i) hw hT hU hf sD ?_ ?_ ?_
 · rintro j k rfl rfl hne; exact absurd rfl hne
 · rintro j B1 rfl lG
   rw [aZ] at lG
   cases lG
   exact hb hl fun V v hv hr=>bP.step P S hl sD hr hv
 · rintro j vs rfl hvs v hv k hk
   rw [aZ] at hvs
   have h0:=hr vs (by rcases hvs with hvs | hvs <;> · cases hvs; simp) v hv k hk
   obtain ⟨B1,lG⟩:=Option.ne_none_iff_exists'.1 h0
   obtain ⟨B2,SN,_⟩:=sD k B1 lG
   rw [SN]; simp
theorem run_store (hP:bh P S au) {t:Nat} {T:Ty} (ht:S.ty t=some T) {b o':Nat} {v:Value} (hs:v.cells.size=Ty.sz S T) (cw:w.there b o' v.cells.toList.length) (h1: ∀ c ∈ v.cells.toList,c.oneCell'=true):
 (Instr.storeAt t (.pointer (some ⟨b,o',none⟩)) v).run P w= .ok () (w.setCells b o' v.cells.toList):=by
 obtain ⟨⟨i,z,hi,hsz,_⟩,_⟩:=hP.ty t T ht
 have h2:=run_storeAt_mid (P:=P) w b o' t v.cells (by simpa using cw) (by rw [hi]; simp [hsz,hs]) (Array.all_eq_true_iff_forall_mem.2 fun c hc=>h1 c (by simpa using hc))
 exact h2
theorem O6 (h:Inv P S w0 M0 s0 dq env a w μ) (hd: ∀ d,o.dst=some d→d<a.tmps.size) {w':World} {us:aP S.C}
 (hrun:(execOp a.eval o).run P w= .ok .skip w') (hI:Inv P S w0 M0 s0 dq { env with bx:=aA env.bx us } a w' μ)
 (hK:Goal P S w0 M0 s0 dq env a o.dst .skip us K):o.wp P a w K Q:=by
 unfold Oper.wp
 rw [hrun]
 refine hK _ w' μ (hI.put hd (V:= .skip) (v:=undef) rfl (by simp [aH,aF])) ?_
 cases o.dst <;> simp [Act.put]
theorem N_ {vs ws:List (Sy.V S.C)} {off:Nat} {p:Sy.V S.C→Bool} (h1:vs.all p=true) (h2:ws.all p=true):(setCells S vs off ws).all p=true:=by
 unfold Sy.setCells
 rw [List.all_eq_true] at *
 intro x hx
 simp only [List.mem_append] at hx
 rcases hx with (hx | hx) | hx
 · exact h1 x (List.mem_of_mem_take hx)
 · exact h2 x hx
 · exact h1 x (List.mem_of_mem_drop hx)
theorem Ob {vs ws:List (Sy.V S.C)} {off:Nat} {x:Sy.V S.C} (hx:x ∈ setCells S vs off ws):x ∈ vs∨x ∈ ws:=by
 unfold Sy.setCells at hx
 simp only [List.mem_append] at hx
 rcases hx with (hx | hx) | hx
 · exact .inl (List.mem_of_mem_take hx)
 · exact .inr hx
 · exact .inl (List.mem_of_mem_drop hx)
theorem Oa {vs ws:List (Sy.V S.C)} {off:Nat} (h:off+ws.length≤vs.length):(setCells S vs off ws).length=vs.length:=by
 unfold Sy.setCells; simp; omega
theorem H9 {s:St} {bx:Bx S.C} {vs ws:List (Sy.V S.C)} {cs ds:List Value} {off:Nat} (h1:aO P S w s μ bx vs cs) (h2:aO P S w s μ bx ws ds):
 aO P S w s μ bx (setCells S vs off ws) (cs.take off++ds++cs.drop (off+ds.length)):=by
 unfold Sy.setCells
 rw [aO.length P S h2]
 exact aO.append P S (aO.append P S (h1.take P S off) h2) (h1.drop P S _)
theorem wU {bx aq:Bx S.C} {t:Ty} {V:Sy.V S.C} (h: ∀ i ∈ aH S V,aq i=bx i):datum S aq t V=datum S bx t V∧dr S aq V=dr S bx V:=by
 have tY: ∀ (W:Sy.V S.C) (t:Ty),(∀ i ∈ aF S W,aq i=bx i)→cV S aq t W=cV S bx t W:=by
  intro W t hW
  cases W with
  | aY b=>simp only [cV]; rw [hW b (by simp [aF])]
  | _=>rfl
 have Km: ∀ (W:Sy.V S.C),(∀ i ∈ aF S W,aq i=bx i)→cM S aq W=cM S bx W:=by
  intro W hW
  cases W with
  | aY b=>simp only [cM]; rw [hW b (by simp [aF])]
  | _=>rfl
 have ZX: ∀ (ts:List Ty) (vs:List (Sy.V S.C)),(∀ v ∈ vs, ∀ i ∈ aF S v,aq i=bx i)→iS S aq ts vs=iS S bx ts vs:=by
  intro ts
  induction ts with
  | nil=>intro vs _; rfl
  | cons t ts ih=>
   intro vs hvs
   cases vs with
   | nil=>rfl
   | cons v vs=>
    simp only [iS]
    rw [tY v t (hvs v (by simp)),ih vs fun v hv=>hvs v (by simp [hv])]
 have imp_eq: ∀ (t:Ty) (vs:List (Sy.V S.C)),(∀ v ∈ vs, ∀ i ∈ aF S v,aq i=bx i)→jh S aq t vs=jh S bx t vs:=by
  intro t vs hvs
  cases t with
  | st u=>simp only [jh]; rw [ZX _ vs hvs]
  | _=>
   cases vs with
   | nil=>rfl
   | cons v vs=>exact tY v _ (hvs v (by simp))
 cases V with
 | agg u vs=>
  have hvs: ∀ v ∈ vs, ∀ i ∈ aF S v,aq i=bx i:=fun v hv i hi=>h i (by simp only [aH,List.mem_flatMap]; exact ⟨v,hv,hi⟩)
  refine ⟨?_, ?_⟩
  · cases t <;> simp only [datum]
    rw [imp_eq _ vs hvs]
  · simp only [dr]
    clear h
    induction vs with
    | nil=>rfl
    | cons v vs ih=>
     simp only [List.flatMap_cons]
     rw [Km v (hvs v (by simp)),ih fun v hv=>hvs v (by simp [hv])]
 | aY b=>exact ⟨by cases t <;> first | rfl | exact tY (.aY b) _ h,Km (.aY b) h⟩
 | _=>exact ⟨by cases t <;> rfl,rfl⟩
theorem Ou (hP:bh P S au) (h:Inv P S w0 M0 s0 dq env a w μ) (hd: ∀ d,o.dst=some d→d<a.tmps.size) {t:TypeId} {x y:Operand} {ids:List Nat} (ho:o.op= .store t x y)
 (gu: ∀ V,aX S env.tm y=some V→ ∀ i ∈ aH S V,restrict S env.bx ids i=env.bx i)
 (hl:(match S.ty t,aX S env.tm x,aX S env.tm y with
  | some u,some p,some v=>y8 S u (restrict S env.bx ids) v p
  | _,_,_=> .fail).leaf (V,us)) (hK:Goal P S w0 M0 s0 dq env a o.dst V us K):o.wp P a w K Q:=by
 split at hl
 · rename_i T p v ht hx hy
   obtain ⟨hp,_⟩:=bI h hx
   obtain ⟨hv,dH⟩:=bI h hy
   cases p with
   | ptr b off=>
    simp only [y8] at hl
    split at hl
    · rename_i vs hb
      have hb:=fu hb
      cases hf:fits S (cellsOf S v) (Ty.sz S T)&&Nat.ble (off+Ty.sz S T) vs.length with
      | false=>rw [hf] at hl; exact hl.elim
      | true=>
       rw [hf] at hl
       obtain ⟨rfl,rfl⟩:=bL hl
       rw [Bool.and_eq_true] at hf
       obtain ⟨f1,f2⟩:=EC hf.1
       have f3:=Nat.le_of_ble_eq_true hf.2
       obtain ⟨c1,c2⟩:=Eb hP.tocU f2 hv
       have Rn:=aO.length P S c1
       obtain ⟨b1,b2,b3,cs,b4,b5⟩:=h.cm b _ hb
       have aaV:=aO.length P S b5
       have cn:live S env.bx b:=by unfold live; rw [hb]; trivial
       have hle:off+(a.eval y).cells.toList.length≤cs.length:=by omega
       have cw:w.there (μ b).b ((μ b).o+off) (a.eval y).cells.toList.length:=oG b3 (by omega) (by omega)
       have hp:a.eval x= .pointer (some ⟨(μ b).b,(μ b).o+off,none⟩):=hp
       have hrun:(execOp a.eval o).run P w= .ok .skip (w.setCells (μ b).b ((μ b).o+off) (a.eval y).cells.toList):=by
        unfold execOp
        simp only [ho,hp]
        have :=run_store hP ht (b:=(μ b).b) (o':=(μ b).o+off) (v:=a.eval y) (w:=w) (by rw [← f1, ← Rn]; simp) cw (y5 f2 c1)
        simp [this]
       refine O6 h hd hrun ?_ hK
       show Inv P S w0 M0 s0 dq { env with bx:=az env.bx b (some (.cells (setCells S vs off (cellsOf S v)))) } a _ μ
       refine h.write hb cn (fun _ e=>nomatch e) (by omega) (by omega) rfl (fun hl oY=>⟨N_ b1 f2,by rw [Oa (by omega)]; exact b2,vY b3 cw,_,MD b4 off hle, ?_⟩) fun ws jH u hu j hj=> ?_
       · refine H9 (aO.map oY (fun v hv=>h.l5 b vs (.inl hb) v hv) b5) (aO.map oY (fun u hu j hj=>dH j (c2 u hu j hj)) c1)
       · rcases jH with jH | jH
         · cases jH
           rcases Ob hu with hu | hu
           · exact h.l5 b vs (.inl hb) u hu j hj
           · exact dH j (c2 u hu j hj)
         · cases jH
    · exact hl.elim
   | fH b i off=>
    simp only [y8] at hl
    split at hl
    · rename_i e l hb
      have hb:=fu hb
      split at hl
      · rename_i z hz
        obtain ⟨d1,d2⟩:=wU (t:=T) (gu v hy)
        rw [d1] at hz
        rw [d2] at hl
        cases hf:Nat.ble (off+Ty.sz S T) (Ty.sz S e)&&(dr S env.bx v).all (fun u=> !Nat.beq u.1 b) with
        | false=>rw [hf] at hl; exact hl.elim
        | true=>
         rw [hf,cond_true] at hl
         rw [Bool.and_eq_true] at hf
         split at hl
         · rename_i e' he'
           obtain ⟨rfl,rfl⟩:=bL hl
           have f3:=Nat.le_of_ble_eq_true hf.1
           obtain ⟨k1,r1⟩:=zS hP.tocU h (Tk.refl S env.bx) hv hz
           have h1:=h.tk k1
           have gr:aA env.bx (dr S env.bx v) b=some (.arr e l):=by
            rw [v_ _ _ fun u hu=> ?_]
            · exact hb
            · have :=List.all_eq_true.1 hf.2 u hu
              intro e
              rw [e,Nat.beq_refl] at this
              cases this
           obtain ⟨_,kQ⟩:=h1.kJ 0 |> fun _=>(show RV P S w (aN S w0 M0 s0 env.bx μ w) μ env.bx (.fH b i off) (a.eval x) from hp)
           obtain ⟨i0,i1,Lm⟩:=kQ e l (.inl hb)
           obtain ⟨g1,g2,g3,g4,g5⟩:=h1.cm b _ gr
           have Ff:l[i.toNat]? =some (iE S e l i):=uu i0 (by omega)
           obtain ⟨ds,Ry,Rz,n,RA⟩:=g5 _ _ Ff
           have r2:cz S w (aN S w0 M0 s0 (aA env.bx (dr S env.bx v)) μ w) T z (a.eval y):=by
            refine r1.mono S fun b' o' ⟨q1,q2,q3⟩=>⟨⟨q1,q2,fun j hj=> ?_⟩,rfl⟩
            rcases q3 j ((eM S (k1.eg hj)).1 hj) with ⟨_,_,hq⟩ | hq
            · unfold live at hj; rw [hq] at hj; exact hj.elim
            · exact hq
           obtain ⟨m,r3⟩:=r2.2
           have hvl:=r3.length S
           have hrow:(i.toNat+1)*Ty.sz S e≤(μ b).cap*Ty.sz S e:=Nat.mul_le_mul_right _ (by omega)
           rw [Nat.add_mul,Nat.one_mul] at hrow
           have cn:live S (aA env.bx (dr S env.bx v)) b:=by unfold live; rw [gr]; trivial
           have cw:w.there (μ b).b ((μ b).o+(i.toNat*Ty.sz S e+off)) (a.eval y).cells.toList.length:=oG g4 (by omega) (by omega)
           obtain ⟨x1,x2,x3⟩:=nP (P:=P) hP.tocU μ (aA env.bx (dr S env.bx v)) r3
           obtain ⟨y1,y2,y3⟩:=nP (P:=P) hP.tocU μ (aA env.bx (dr S env.bx v)) RA
           have abw:=aO.length P S x1
           have abx:=aO.length P S y1
           have hrun:(execOp a.eval o).run P w= .ok .skip (w.setCells (μ b).b ((μ b).o+(i.toNat*Ty.sz S e+off)) (a.eval y).cells.toList):=by
            unfold execOp
            rw [show (μ b).o+i.toNat*Ty.sz S e+off=(μ b).o+(i.toNat*Ty.sz S e+off) from by omega] at Lm
            simp only [ho,Lm]
            have :=run_store hP ht (b:=(μ b).b) (o':=(μ b).o+(i.toNat*Ty.sz S e+off)) (v:=a.eval y) (w:=w) (by rw [← hvl]; simp) cw (y5 x2 x1)
            simp [this]
           refine O6 h hd hrun ?_ hK
           rw [jX]
           show Inv P S w0 M0 s0 dq { env with bx:=az (aA env.bx (dr S env.bx v)) b (some (.arr e (l.set i.toNat e'))) } a _ μ
           refine h1.write (B':= .arr e (l.set i.toNat e')) gr cn (fun _ e=>nomatch e) (by omega) (by omega) ⟨rfl,rfl,by simp⟩ (fun hl oY=>⟨g1,g2,by simpa using g3,vY g4 cw,fun k q hk=> ?_⟩) fun ws jH=>by rcases jH with jH | jH <;> cases jH
           by_cases ek:i.toNat=k
           · subst ek
             rw [List.getElem?_set_self (by omega)] at hk
             cases hk
             rw [show (μ b).o+(i.toNat*Ty.sz S e+off)=(μ b).o+i.toNat*Ty.sz S e+off from by omega] at hl ⊢
             refine ⟨_, ?_,MD (cs:=ds) (vals:=(a.eval y).cells.toList) Rz off (by omega), ?_⟩
             · rw [List.length_append,List.length_append,List.length_take,List.length_drop]; omega
             · obtain ⟨q,hq⟩:=Ly (P:=P) hP.tocU (H9 (off:=off) y1 x1) he'
               refine ⟨q, ?_⟩
               have :=hq.mono S hl (Nat.le_refl _)
               rw [List.take_of_length_le (by rw [List.length_append,List.length_append,List.length_take,List.length_drop]; omega)] at this
               exact this
           · rw [List.getElem?_set_ne ek] at hk
             obtain ⟨ds',p1,p2,p3,p4⟩:=g5 k q hk
             refine ⟨ds',p1,ve p2 (.inr ?_),p3,p4.mono S hl (Nat.le_refl _)⟩
             rcases Nat.lt_or_gt_of_ne ek with hlt | hlt
             · right
               have :(i.toNat+1)*Ty.sz S e≤k*Ty.sz S e:=Nat.mul_le_mul_right _ (by omega)
               rw [Nat.add_mul,Nat.one_mul] at this
               omega
             · left
               have :(k+1)*Ty.sz S e≤i.toNat*Ty.sz S e:=Nat.mul_le_mul_right _ (by omega)
               rw [Nat.add_mul,Nat.one_mul] at this
               omega
         · exact hl.elim
      · exact hl.elim
    · exact hl.elim
   | _=>exact hl.elim
 · exact hl.elim
end
end Go.Sy
