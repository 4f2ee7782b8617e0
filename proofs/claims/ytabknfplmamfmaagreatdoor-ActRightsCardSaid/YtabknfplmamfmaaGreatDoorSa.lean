import Derived.WalkKit
import Derived.Deep.LoopGhost
import Derived.Deep.AppendSrc
import Derived.Deep.MidRow
import Derived.Lib.FrozenHead2
import Derived.Lib.Strings
set_option linter.unusedVariables false
set_option linter.unusedSimpArgs false
namespace Go.Sy
inductive Ty where
 | int (k:IntKind) | bool | str | st (t:Nat) | sl (e:Ty) | pt
 deriving DecidableEq,Inhabited
def Ty.den (C:Nat→Type):Ty→Type
 | .int _=>Int
 | .bool=>Bool
 | .str=>List UInt8
 | .st t=>C t
 | .sl e=>List (e.den C)
 | .pt=>Unit   -- a pointer in a struct
def aq (C:Nat→Type):List Ty→Type
 | []=>Unit
 | [t]=>t.den C
 | t::u::ts=>t.den C×aq C (u::ts)
def aq.cons {C:Nat→Type} {t:Ty} : {ts:List Ty} →t.den C→aq C ts→aq C (t::ts)
 | [],x,_=>x
 | _::_,x,r=>(x,r)
def aq.head {C:Nat→Type} {t:Ty} : {ts:List Ty} →aq C (t::ts)→t.den C
 | [],x=>x
 | _::_,x=>x.1
def aq.tail {C:Nat→Type} {t:Ty} : {ts:List Ty} →aq C (t::ts)→aq C ts
 | [],_=>()
 | _::_,x=>x.2
structure aS where
 C:Nat→Type
 F:Nat→List Ty
 ex:(t:Nat)→C t→aq C (F t)
 im:(t:Nat)→aq C (F t)→C t
 eG:Nat→Nat→Option (Nat×Ty)
 z:(t:Nat)→C t
 ty:Nat→Option Ty
 pt:Nat→Bool
 ar:Nat→Option (Nat×Ty)
 eq:Nat→Bool
 oX:Nat→Bool
 gl:List ((Nat×Nat)×(Value→Prop))
 gb:List (Nat×(Obj→Prop))
 bt:Option (Nat×Nat)
 sp:Nat→Bool
inductive CK where
 | data (t:Ty)
 | aZ (e:Ty)      -- a slice whose room behind its end is its holder's alone
 | aQ (e:Ty)      -- a slice whose array is its holder's alone
 deriving DecidableEq,Inhabited
inductive K where
 | val (c:CK)
 | obj (cs:List CK)
 | opt (cs:List CK)
 | nil
 | ro (t:Ty)
 | fn (a r:List Ty)
 | cF (cs:List CK)  -- a slice whose array is cells of its holder's own
 | err                 -- an error: is it nil?
 | aX                 -- a builder of a text
 | b_ (t:Ty) (cs:List CK)  -- an object whose first cell points to an object of its own
 deriving DecidableEq,Inhabited
def CK.den (C:Nat→Type):CK→Type
 | .data t=>t.den C
 | .aZ e=>List (e.den C)
 | .aQ e=>List (e.den C)
def bH (C:Nat→Type):List CK→Type
 | []=>Unit
 | [t]=>t.den C
 | t::u::ts=>t.den C×bH C (u::ts)
def K.den (C:Nat→Type):K→Type
 | .val c=>c.den C
 | .obj cs=>bH C cs
 | .opt cs=>Option (bH C cs)
 | .nil=>Unit
 | .ro t=>t.den C
 | .fn a r=>aq C a→Option (aq C r)
 | .cF cs=>bH C cs
 | .err=>Bool
 | .aX=>List UInt8
 | .b_ t cs=>t.den C×bH C cs
def Ks (C:Nat→Type):List K→Type
 | []=>Unit
 | [t]=>t.den C
 | t::u::ts=>t.den C×Ks C (u::ts)
def bH.cons {C:Nat→Type} {t:CK} : {ts:List CK} →t.den C→bH C ts→bH C (t::ts)
 | [],x,_=>x
 | _::_,x,r=>(x,r)
def bH.head {C:Nat→Type} {t:CK} : {ts:List CK} →bH C (t::ts)→t.den C
 | [],x=>x
 | _::_,x=>x.1
def bH.tail {C:Nat→Type} {t:CK} : {ts:List CK} →bH C (t::ts)→bH C ts
 | [],_=>()
 | _::_,x=>x.2
def Ks.cons {C:Nat→Type} {t:K} : {ts:List K} →t.den C→Ks C ts→Ks C (t::ts)
 | [],x,_=>x
 | _::_,x,r=>(x,r)
def Ks.head {C:Nat→Type} {t:K} : {ts:List K} →Ks C (t::ts)→t.den C
 | [],x=>x
 | _::_,x=>x.1
def Ks.tail {C:Nat→Type} {t:K} : {ts:List K} →Ks C (t::ts)→Ks C ts
 | [],_=>()
 | _::_,x=>x.2
inductive V (C:Nat→Type) where
 | undef
 | skip
 | d (t:Ty) (x:t.den C)
 | pr (p:Prop) (i:Decidable p)
 | aZ (b:Nat) (e:Ty) (l:List (e.den C))
 | aQ (b:Nat)
 | pre (b:Nat) (n:Int)
 | win (b:Nat) (i n:Int)
 | ptr (b off:Nat)
 | cF (b n:Nat)
 | split (b c:Nat)
 | l8 (c:Nat)
 | err (b:Bool)
 | eY (b:Nat) (i:Int) (off:Nat)
 | dw (t:Ty) (x:t.den C)
 | nil
 | cI
 | fv (a r:List Ty) (g:aq C a→Option (aq C r))
 | fC (f:Nat) (caps:List (V C))
 | agg (t:Nat) (vs:List (V C))
 | iy (vs:List (V C))
inductive dP (C:Nat→Type) where
 | cells (vs:List (V C))
 | bW (vs:List (V C))
 | arr (e:Ty) (l:List (e.den C))
 | bM (e:Ty) (l:List (e.den C))
 | tail
 | dead
 | aX (j:Nat)           -- a builder; its bytes are in 'j'
 | buf (l:List UInt8)    -- a builder's bytes
structure Env (C:Nat→Type) where
 tm:Nat→V C
 bx:Nat→Option (dP C)
 df:Bool   -- has the function's deferred call been laid down?
def au {α:Type} (f:Nat→α) (k:Nat) (v:α):Nat→α:=fun i=>cond (Nat.beq i k) v (f i)
abbrev aI (C:Nat→Type):=List (Nat×dP C)
abbrev Bx (C:Nat→Type):=Nat→Option (dP C)
def av {C:Nat→Type} (bx:Bx C):aI C→Bx C
 | []=>bx
 | u::us=>av (au bx u.1 (some u.2)) us
def ux {C:Nat→Type} (tm:Nat→V C) (dst:Option Nat) (v:V C):Nat→V C:=match dst with
 | some d=>au tm d v
 | none=>tm
def Env.apply {C:Nat→Type} (e:Env C) (dst:Option Nat) (v:V C) (us:aI C):Env C:=
 { tm:=ux e.tm dst v,bx:=av e.bx us,df:=e.df }
structure Gd where
 p:Prop
 i:Decidable p
def gd (p:Prop) [i:Decidable p]:Gd:=⟨p,i⟩
inductive Tr (X:Type):Type 1 where
 | fail
 | ret (x:X)
 | ite (p:Prop) (i:Decidable p) (a b:Tr X)
 | bind (α:Type) (m:Option α) (k:α→Tr X)
 | opt (α:Type) (m:Option α) (n:Tr X) (s:α→Tr X)
def Tr.run {X:Type} {R:Type} :Tr X→(X→Option R)→Option R
 | .fail,_=>none
 | .ret x,k=>k x
 | .ite _ i a b,k=> @_root_.ite _ _ i (a.run k) (b.run k)
 | .bind _ m f,k=>m.bind fun x=>(f x).run k
 | .opt _ m n s,k=>match m with
  | none=>n.run k
  | some x=>(s x).run k
def Tr.gd {X:Type} :List Gd→Tr X→Tr X
 | [],r=>r
 | g::gs,r=> .ite g.p g.i (Tr.gd gs r) .fail
section
variable (S:aS)
def eF (t u:Ty) (x:t.den S.C):Option (u.den S.C):=if h:t=u then some (h▸x) else none
def Ty.zero:(t:Ty)→t.den S.C
 | .int _=>(0:Int)
 | .bool=>false
 | .str=>([]:List UInt8)
 | .sl _=> []
 | .st u=>S.z u
 | .pt=>()
def Ty.sz:Ty→Nat
 | .st u=>(S.F u).length
 | _=>1
def cU (bx:Bx S.C) (t:Ty) (v:V S.C):Option (t.den S.C):=
 match v with
 | .d u x=>eF S u t x
 | .pr p i=>eF S .bool t (@decide p i)
 | .aZ _ e l=>eF S (.sl e) t l
 | .cI=>match t with
  | .sl _=>some []
  | _=>none
 | .aQ b=>match bx b with
  | some (.arr e l) | some (.bM e l)=>eF S (.sl e) t l
  | _=>none
 | _=>none
def pR:(ts:List Ty)→aq S.C ts→List (V S.C)
 | [],_=> []
 | t::ts,x=> .d t (aq.head x)::pR ts (aq.tail x)
def jl:(t:Ty)→t.den S.C→List (V S.C)
 | .st u,x=>pR S (S.F u) (S.ex u x)
 | t,x=> [.d t x]
def gR (bx:Bx S.C):(ts:List Ty)→List (V S.C)→Option (aq S.C ts)
 | [],_=>some ()
 | t::ts,v::vs=>(cU S bx t v).bind fun x=>(gR bx ts vs).bind fun y=>some (aq.cons x y)
 | _::_,[]=>none
def h_ (bx:Bx S.C) (t:Ty) (vs:List (V S.C)):Option (t.den S.C):=
 match t with
 | .st u=>(gR S bx (S.F u) vs).bind fun x=>some (S.im u x)
 | t=>match vs with
  | v::_=>cU S bx t v
  | []=>none
def zeroCell:Ty→V S.C
 | .sl _=> .cI
 | .pt=> .nil
 | t=> .d t (Ty.zero S t)
def zeroCells:Ty→List (V S.C)
 | .st u=>(S.F u).map (zeroCell S)
 | t=> [zeroCell S t]
end
end Go.Sy
namespace Go.Sy
section
variable (S:aS)
def outs:List K→List K
 | []=> []
 | .obj cs::r=> .obj cs::outs r
 | .aX::r=> .aX::outs r
 | .b_ t cs::r=> .b_ t cs::outs r
 | _::r=>outs r
structure Entry where
 f:Nat
 ps:List K
 rs:List K
 sp:Ks S.C ps→Option (Ks S.C (rs++outs ps))
structure gA where
 f:Nat
 a:List Ty
 c:List Ty
 r:List Ty
 sp:aq S.C a→aq S.C c→Option (aq S.C r)
structure gC where
 es:List (Entry S)
 fs:List (gA S)
 nl:Bool
 vw:Bool
 dc:Option (Nat×List Operand)   -- the call that it defers
 de:List (Entry S)                -- callees that may be deferred
def yA:Ty→Bool
 | .sl _=>false
 | .st u=>(S.F u).all fun | .sl _=>false | .st _=>false | _=>true
 | _=>true
def qq:CK→Bool
 | .data t=>yA S t
 | .aZ _=>false
 | .aQ e=>yA S e
def sW:K→Bool
 | .val c=>qq S c
 | .obj cs | .opt cs=>cs.all (qq S)
 | .nil | .err | .aX=>true
 | .ro _ | .fn _ _ | .b_ _ _=>false
 | .cF cs=>cs.all (qq S)
def datum (bx:Bx S.C) (t:Ty) (v:V S.C):Option (t.den S.C):=
 match v with
 | .agg u vs=>match t with
  | .st w=>if u=w then h_ S bx (.st w) vs else none
  | _=>none
 | v=>match t with
  | .st w=>match v with
   | .d u x=>eF S u (.st w) x
   | _=>none
  | t=>cU S bx t v
def cN (bx:Bx S.C):V S.C→aI S.C
 | .aQ b=>match bx b with
  | some (.arr e l)=> [(b, .bM e l)]
  | _=> []
 | _=> []
def dh (bx:Bx S.C) (v:V S.C):aI S.C:=
 match v with
 | .agg _ vs=>vs.flatMap (cN S bx)
 | v=>cN S bx v
def cellsOf (v:V S.C):List (V S.C):=
 match v with
 | .d t x=>jl S t x
 | .agg _ vs=>vs
 | v=> [v]
def az:V S.C→List Nat
 | .aZ b _ _ | .aQ b | .ptr b _ | .eY b _ _ | .pre b _ | .win b _ _ | .cF b _ | .l8 b=> [b]
 | .split b c=> [b,c]
 | _=> []
def aA:V S.C→List Nat
 | .agg _ vs | .fC _ vs | .iy vs=>vs.flatMap (az S)
 | v=>az S v
def cy (id:Nat):(c:CK)→c.den S.C→List (V S.C)×aI S.C×Nat
 | .data t,x=>(jl S t x,[],id)
 | .aZ e,x=>([.aZ id e x],[(id, .tail)],id+1)
 | .aQ e,x=>([.aQ id],[(id, .arr e x)],id+1)
def bu (id:Nat):(cs:List CK)→bH S.C cs→List (V S.C)×aI S.C×Nat
 | [],_=>([],[],id)
 | c::cs,x=>
  let a:=cy S id c (bH.head x)
  let b:=bu a.2.2 cs (bH.tail x)
  (a.1++b.1,a.2.1++b.2.1,b.2.2)
def CK.sz:CK→Nat
 | .data t=>Ty.sz S t
 | _=>1
def CK.cD:List CK→Nat
 | []=>0
 | c::cs=>CK.sz S c+CK.cD cs
def Ix (id:Nat):(k:K)→k.den S.C→(V S.C×aI S.C×Nat→Tr (V S.C×aI S.C))→Tr (V S.C×aI S.C)
 | .val (.data t),x,κ=>κ (.d t x,[],id)
 | .val (.aZ e),x,κ=>κ (.aZ id e x,[(id, .tail)],id+1)
 | .val (.aQ e),x,κ=>κ (.aQ id,[(id, .arr e x)],id+1)
 | .obj cs,x,κ=>let a:=bu S (id+1) cs x; κ (.ptr id 0,(id, .cells a.1)::a.2.1,a.2.2)
 | .opt cs,x,κ=> .opt _ x (κ (.nil,[],id)) fun y=>let a:=bu S (id+1) cs y; κ (.ptr id 0,(id, .cells a.1)::a.2.1,a.2.2)
 | .fn a r,g,κ=>κ (.fv a r g,[],id)
 | .ro t,x,κ=>κ (.dw t x,[],id)
 | .nil,_,κ=>κ (.nil,[],id)
 | .err,x,κ=>κ (.err x,[],id)
 | .aX,x,κ=>κ (.ptr id 0,[(id, .aX (id+1)),(id+1, .buf x)],id+2)
 | .cF cs,x,κ=>let a:=bu S (id+1) cs x; κ (.cF id (CK.cD S cs),(id, .cells a.1)::a.2.1,a.2.2)
 | .b_ _ _,_,_=> .fail
def dX (bx:Bx S.C) (c:CK) (vs:List (V S.C)):Option (c.den S.C×aI S.C):=
 match c with
 | .data t=>(h_ S bx t vs).bind fun x=>some (x,(vs.take (Ty.sz S t)).flatMap (cN S bx))
 | .aZ e=>match vs with
  | .aZ b e' l::_=>match bx b with
   | some .tail=>(eF S (.sl e') (.sl e) l).bind fun x=>some (x,[(b, .dead)])
   | _=>none
  | .cI::_=>some ([],[])
  | _=>none
 | .aQ e=>match vs with
  | .aQ b::_=>match bx b with
   | some (.arr e' l)=>(eF S (.sl e') (.sl e) l).bind fun x=>some (x,[(b, .dead)])
   | _=>none
  | .pre b n::_=>match bx b with
   | some (.arr e' l)=>(eF S (.sl e') (.sl e) (List.take n.toNat l)).bind fun x=>some (x,[(b, .dead)])
   | _=>none
  | .cI::_=>some ([],[])
  | _=>none
def dN (bx:Bx S.C):(cs:List CK)→List (V S.C)→Option (bH S.C cs×aI S.C)
 | [],_=>some ((),[])
 | c::cs,vs=>(dX S bx c vs).bind fun a=>
  (dN (av bx a.2) cs (vs.drop (CK.sz S c))).bind fun b=>some (bH.cons a.1 b.1,a.2++b.2)
def IB:V S.C→Bool
 | .aQ _=>false
 | _=>true
def mH (bx:Bx S.C) (t:Ty) (v:V S.C):Option (t.den S.C):=match v with
 | .ptr b 0=>match bx b with
  | some (.bW ws)=>cond (ws.all (IB S)) (h_ S bx t ws) none
  | _=>none
 | .dw u x=>eF S u t x
 | _=>none
def caps (bx:Bx S.C):(ts:List Ty)→List (V S.C)→Option (aq S.C ts)
 | [],[]=>some ()
 | t::ts,v::vs=>(mH S bx t v).bind fun x=>(caps bx ts vs).bind fun r=>some (aq.cons x r)
 | _,_=>none
def qt (fs:List (gA S)) (bx:Bx S.C) (a r:List Ty):V S.C→Option (aq S.C a→Option (aq S.C r))
 | .fv a' r' g=>if h:a'=a then if h':r'=r then some (h'▸h▸g) else none else none
 | .fC f vs=>fs.findSome? fun e=>
  if e.f=f then (if h:e.a=a then if h':e.r=r then (caps S bx e.c vs).bind fun y=>some (h'▸h▸fun x=>e.sp x y) else none else none) else none
 | _=>none
def f_ (bx:Bx S.C) (cs:List CK) (b:Nat):Option (bH S.C cs×aI S.C):=match bx b with
 | some (.cells vs)=>cond (Nat.beq vs.length (CK.cD S cs)) ((dN S (au bx b (some .dead)) cs (vs.drop 0)).bind fun a=>some (a.1,(b, .dead)::a.2)) none
 | _=>none
def cv (fs:List (gA S)) (bx:Bx S.C) (k:K) (v:V S.C):Option (k.den S.C×aI S.C):=
 match k with
 | .val (.data t)=>(datum S bx t v).bind fun x=>some (x,dh S bx v)
 | .val (.aZ e)=>dX S bx (.aZ e) [v]
 | .val (.aQ e)=>dX S bx (.aQ e) [v]
 | .obj cs=>match v with
  | .ptr b off=>match bx b with
   | some (.cells vs)=>cond (Nat.beq off 0&&Nat.beq vs.length (CK.cD S cs)) ((dN S (au bx b (some .dead)) cs (vs.drop off)).bind fun a=>some (a.1,(b, .dead)::a.2)) none
   | _=>none
  | _=>none
 | .nil=>match v with
  | .nil=>some ((),[])
  | _=>none
 | .ro t=>(mH S bx t v).bind fun x=>some (x,[])
 | .fn a r=>(qt S fs bx a r v).bind fun g=>some (g,[])
 | .opt cs=>match v with
  | .nil=>some (none,[])
  | .ptr b off=>match bx b with
   | some (.cells vs)=>cond (Nat.beq off 0&&Nat.beq vs.length (CK.cD S cs)) ((dN S (au bx b (some .dead)) cs (vs.drop off)).bind fun a=>some (some a.1,(b, .dead)::a.2)) none
   | _=>none
  | _=>none
 | .err=>match v with
  | .err b=>some (b,[])
  | _=>none
 | .aX=>match v with
  | .ptr b off=>match bx b with
   | some (.aX j)=>match bx j with
    | some (.buf l)=>cond (Nat.beq off 0) (some (l,[(b, .dead),(j, .dead)])) none
    | _=>none
   | _=>none
  | _=>none
 | .cF cs=>match v with
  | .cF b n=>match bx b with
   | some (.cells vs)=>cond (Nat.beq n vs.length&&Nat.beq vs.length (CK.cD S cs)) ((dN S (au bx b (some .dead)) cs (vs.drop 0)).bind fun a=>some (a.1,(b, .dead)::a.2)) none
   | _=>none
  | _=>none
 | .b_ t cs=>match v with
  | .split b c=>(f_ S bx [.data t] c).bind fun x=>(f_ S (av bx x.2) cs b).bind fun y=>some ((x.1,y.1),x.2++y.2)
  | _=>none
def eg (fs:List (gA S)) (bx:Bx S.C):(ks:List K)→List (V S.C)→Option (Ks S.C ks×aI S.C)
 | [],[]=>some ((),[])
 | k::ks,v::vs=>(cv S fs bx k v).bind fun a=>(eg fs (av bx a.2) ks vs).bind fun b=>some (Ks.cons a.1 b.1,a.2++b.2)
 | _,_=>none
def setCells (vs:List (V S.C)) (off:Nat) (ws:List (V S.C)):List (V S.C):=vs.take off++ws++vs.drop (off+ws.length)
def e9 (id:Nat):(ks:List K)→List (V S.C)→Ks S.C (outs ks)→aI S.C
 | [],_,_=> []
 | .obj cs::ks,v::vs,x=>match v with
  | .ptr b _=>
   let a:=bu S id cs (Ks.head (t:= .obj cs) x)
   (b, .cells a.1)::a.2.1++e9 a.2.2 ks vs (Ks.tail (t:= .obj cs) x)
  | _=> []
 | .aX::ks,v::vs,x=>match v with
  | .ptr b _=>(b, .aX id)::(id, .buf (Ks.head (t:= .aX) x))::e9 (id+1) ks vs (Ks.tail (t:= .aX) x)
  | _=> []
 | .b_ t cs::ks,v::vs,x=>match v with
  | .split b c=>
   let y:=Ks.head (t:= .b_ t cs) x
   let a0:=bu S id [.data t] y.1
   let a:=bu S id cs y.2
   (c, .cells a0.1)::(b, .cells a.1)::a.2.1++e9 a.2.2 ks vs (Ks.tail (t:= .b_ t cs) x)
  | _=> []
 | .val _::ks,_::vs,x=>e9 id ks vs x
 | .opt _::ks,_::vs,x=>e9 id ks vs x
 | .nil::ks,_::vs,x=>e9 id ks vs x
 | .ro _::ks,_::vs,x=>e9 id ks vs x
 | .fn _ _::ks,_::vs,x=>e9 id ks vs x
 | .cF _::ks,_::vs,x=>e9 id ks vs x
 | .err::ks,_::vs,x=>e9 id ks vs x
 | _::_,[],_=> []
def dy:List K→List (V S.C)→List Nat
 | .obj _::ks, .ptr b _::vs=>b::dy ks vs
 | .aX::ks, .ptr b _::vs=>b::dy ks vs
 | .b_ _ _::ks, .split b c::vs=>c::b::dy ks vs
 | _::ks,_::vs=>dy ks vs
 | _,_=> []
def jN (fE:Bool) (us:aI S.C):aI S.C:=cond fE us (us.filter fun u=>match u.2 with
 | .bM _ _=>false
 | _=>true)
end
end Go.Sy
namespace Go.Sy
section
variable (S:aS)
variable (T:gC S)
abbrev Rt:=Tr (V S.C×aI S.C)
def aB (v:V S.C) (us:aI S.C):Rt S:= .ret (v,us)
def lu (t:Nat):Option Nat:=match S.ar t with
 | some _=>none
 | none=>match S.ty t with
  | some (.st u)=>some u
  | _=>none
def oG (t:Nat):Option (Nat×Ty×Nat):=match S.ar t with
 | some (n,e)=>match e,S.ty t with
  | .st _,_=>none
  | e,some (.st u)=>some (n,e,u)
  | _,_=>none
 | none=>none
def xY (t:Nat):Option (Nat×Nat×Nat):=match S.ar t with
 | some (n,e)=>match e,S.ty t with
  | .st w,some (.st u)=>some (n,w,u)
  | _,_=>none
 | none=>none
def eM (t:Nat):Option Ty:=match S.ty t with
 | some (.sl e)=>some e
 | _=>none
def arith (op:BinOp) (k:IntKind) (x y:Int):Option (List Gd×V S.C):=
 match op with
 | .add=>some ([], .d (.int k) (k.wrap (x+y)))
 | .sub=>some ([], .d (.int k) (k.wrap (x - y)))
 | .mul=>some ([], .d (.int k) (k.wrap (x*y)))
 | .quo=>some ([gd (¬ y=0)], .d (.int k) (k.wrap (x.tdiv y)))
 | .rem=>some ([gd (¬ y=0)], .d (.int k) (x.tmod y))
 | .and=>some ([], .d (.int k) (k.wrap ((BitVec.ofInt k.bits x &&& BitVec.ofInt k.bits y).toNat:Nat)))
 | .shl=>some ([gd (0≤y)], .d (.int k) (k.wrap (x*2 ^ (min y.toNat k.bits))))
 | .shr=>some ([gd (0≤y)], .d (.int k) (x.fdiv (2 ^ (min y.toNat k.bits))))
 | .eql=>some ([], .pr (x=y) inferInstance)
 | .neq=>some ([], .pr (x≠y) inferInstance)
 | .lss=>some ([], .pr (x<y) inferInstance)
 | .leq=>some ([], .pr (x≤y) inferInstance)
 | .gtr=>some ([], .pr (y<x) inferInstance)
 | .geq=>some ([], .pr (y≤x) inferInstance)
 | _=>none
def Ez (op:BinOp) (x y:List UInt8):Option (List Gd×V S.C):=
 match op with
 | .add=>some ([gd (x.length+y.length≤9223372036854775807)], .d .str (x++y))
 | .eql=>some ([], .pr (x=y) inferInstance)
 | .neq=>some ([], .pr (x≠y) inferInstance)
 | _=>none
def V.int? {D:Nat→Type} :V D→Option (IntKind×Int)
 | .d (.int k) n=>some (k,n)
 | _=>none
def V.pQ {D:Nat→Type} :V D→Option (List UInt8)
 | .d .str s=>some s
 | _=>none
def V.bool? {D:Nat→Type} :V D→Option Bool
 | .d .bool b=>some b
 | .pr p i=>some (@decide p i)
 | _=>none
def HT:BinOp→Bool
 | .shl | .shr=>true
 | _=>false
def xZ (op:BinOp) (t:Nat) (x y:V S.C):Option (List Gd×V S.C):=
 match x.int?,y.int? with
 | some (k,a),some (k',b)=>if HT op=true∨k=k' then arith S op k a b else none
 | _,_=>match x.pQ,y.pQ with
  | some a,some b=>Ez S op a b
  | _,_=>match x.bool?,y.bool? with
   | some a,some b=>cond (match S.ty t with | some .bool=>true | _=>false) (match op with
    | .eql=>some ([], .pr (a=b) inferInstance)
    | .neq=>some ([], .pr (a≠b) inferInstance)
    | _=>none) none
   | _,_=>cond (S.pt t) (match x,y with
    | .nil, .nil=>match op with
     | .eql=>some ([], .d .bool true)
     | .neq=>some ([], .d .bool false)
     | _=>none
    | .ptr _ _, .nil=>match op with
     | .eql=>some ([], .d .bool false)
     | .neq=>some ([], .d .bool true)
     | _=>none
    | _,_=>none) none
def sP:(t:Ty)→t.den S.C→t.den S.C→Prop
 | .int _,x,y=> @Eq Int x y
 | .bool,x,y=> @Eq Bool x y
 | .str,x,y=> @Eq (List UInt8) x y
 | _,_,_=>False
def Gb:(t:Ty)→(x y:t.den S.C)→Decidable (sP S t x y)
 | .int _,x,y=>(inferInstance:DecidableEq Int) x y
 | .bool,x,y=>(inferInstance:DecidableEq Bool) x y
 | .str,x,y=>(inferInstance:DecidableEq (List UInt8)) x y
 | .st _,_,_=>instDecidableFalse
 | .sl _,_,_=>instDecidableFalse
 | .pt,_,_=>instDecidableFalse
def jk:(ts:List Ty)→aq S.C ts→aq S.C ts→Prop
 | [],_,_=>True
 | [t],x,y=>sP S t x y
 | t::u::ts,x,y=>sP S t x.1 y.1∧jk (u::ts) x.2 y.2
def vj:(ts:List Ty)→(x y:aq S.C ts)→Decidable (jk S ts x y)
 | [],_,_=>instDecidableTrue
 | [t],x,y=>Gb S t x y
 | t::u::ts,x,y=> @instDecidableAnd _ _ (Gb S t x.1 y.1) (vj (u::ts) x.2 y.2)
def structEq (op:BinOp) (t:Nat) (x y:V S.C):Rt S:=
 match S.ty t with
 | some (.st u)=>match datum S (fun _=>none) (.st u) x,datum S (fun _=>none) (.st u) y with
  | some a,some b=>match op with
   | .eql=>aB S (.pr (jk S (S.F u) (S.ex u a) (S.ex u b)) (vj S (S.F u) (S.ex u a) (S.ex u b))) []
   | .neq=>aB S (.pr (¬ jk S (S.F u) (S.ex u a) (S.ex u b)) (@instDecidableNot _ (vj S (S.F u) (S.ex u a) (S.ex u b)))) []
   | _=> .fail
  | _,_=> .fail
 | _=> .fail
def FQ:Value→Option (V S.C)
 | .int k n=>some (.d (.int k) n)
 | .bool b=>some (.d .bool b)
 | .string s=>some (.d .str s.data.toList)
 | .pointer none=>some .nil
 | .slice none 0 0=>some .cI
 | _=>none
def aO (tm:Nat→V S.C):Operand→Option (V S.C)
 | .tmp t=>some (tm t)
 | .const v=>FQ S v
 | .func f=>some (.fC f [])
 | .global _=>none
def ju (tm:Nat→V S.C):Option Operand→Option (Option (V S.C))
 | none=>some none
 | some x=>(aO S tm x).bind fun v=>some (some v)
def bU:V S.C→Bool
 | .d (.st _) _=>false
 | .d _ _ | .pr _ _ | .aZ _ _ _ | .aQ _ | .ptr _ _ | .eY _ _ _ | .dw _ _ | .nil | .cI | .fv _ _ _=>true
 | _=>false
def fits (vs:List (V S.C)) (n:Nat):Bool:=Nat.beq vs.length n&&vs.all (bU S)
def vt (u:Nat) (vs:List (V S.C)):List (Nat×V S.C)→Option (List (V S.C))
 | []=>some vs
 | (i,v)::r=>match S.eG u i with
  | some (o,t)=>cond (fits S (cellsOf S v) (Ty.sz S t)&&Nat.ble (o+Ty.sz S t) vs.length) (vt u (setCells S vs o (cellsOf S v)) r) none
  | none=>none
def mL (bx:Bx S.C) (e:Ty) (l:List (e.den S.C)):List (Nat×V S.C)→Option (List (e.den S.C)×aI S.C)
 | []=>some (l,[])
 | (i,v)::r=>cond (Nat.blt i (List.length l)) ((datum S bx e v).bind fun x=>(mL bx e (l.set i x) r).bind fun b=>some (b.1,dh S bx v++b.2)) none
def gE (e:Ty) (l:List (e.den S.C)) (i:Int):e.den S.C:=l.getD i.toNat (Ty.zero S e)
def partOf (e:Ty) (x:e.den S.C) (off:Nat) (t:Ty):Option (t.den S.C):=h_ S (fun _=>none) t ((jl S e x).drop off)
def limit:Nat:=140737488355328
def Dg (t:Ty) (bx:Bx S.C):V S.C→Rt S
 | .ptr b off=>match bx b with
  | some (.cells vs) | some (.bW vs)=>match t with
   | .st u=>cond (Nat.ble (off+(S.F u).length) vs.length) (aB S (.agg u ((vs.drop off).take (S.F u).length)) []) .fail
   | _=>match vs[off]? with
    | some v=>aB S v []
    | none=> .fail
  | _=> .fail
 | .dw u x=>match eF S u t x with
  | some y=>aB S (.d t y) []
  | none=> .fail
 | .l8 c=>match t with
  | .pt=>aB S (.ptr c 0) []
  | _=> .fail
 | .eY b i off=>match bx b with
  | some (.arr e l) | some (.bM e l)=>match partOf S e (gE S e l i) off t with
   | some y=>aB S (.d t y) []
   | none=> .fail
  | _=> .fail
 | _=> .fail
def xq (t:Ty) (bx:Bx S.C) (v:V S.C):V S.C→Rt S
 | .ptr b off=>match bx b with
  | some (.cells vs)=>cond (fits S (cellsOf S v) (Ty.sz S t)&&Nat.ble (off+Ty.sz S t) vs.length) (aB S .skip [(b, .cells (setCells S vs off (cellsOf S v)))]) .fail
  | _=> .fail
 | .eY b i off=>match bx b with
  | some (.arr e l)=>match datum S bx t v with
   | some y=>cond (Nat.ble (off+Ty.sz S t) (Ty.sz S e)&&(dh S bx v).all fun u=> !Nat.beq u.1 b) (match h_ S (fun _=>none) e (setCells S (jl S e (gE S e l i)) off (jl S t y)) with
    | some e'=>aB S .skip (dh S bx v++ [(b, .arr e (l.set i.toNat e'))])
    | none=> .fail) .fail
   | none=> .fail
  | _=> .fail
 | _=> .fail
def Ey (u:Nat) (bx:Bx S.C) (v:V S.C):V S.C→Rt S
 | .ptr b off=>match bx b with
  | some (.cells vs)=>cond (fits S (cellsOf S v) (Ty.sz S (.st u))&&Nat.ble (off+Ty.sz S (.st u)) vs.length) (aB S .skip [(b, .bW (setCells S vs off (cellsOf S v)))]) .fail
  | _=> .fail
 | _=> .fail
def BZ (t f:Nat):V S.C→Rt S
 | .ptr b off=>match lu S t with
  | some u=>match S.eG u f with
   | some (o,_)=>aB S (.ptr b (off+o)) []
   | none=> .fail
  | _=> .fail
 | .dw (.st u) x=>match lu S t with
  | some u'=>cond (Nat.beq u u') (match S.eG u f with
   | some (o,w)=>match partOf S (.st u) x o w with
    | some y=>aB S (.dw w y) []
    | none=> .fail
   | none=> .fail) .fail
  | _=> .fail
 | .eY b i off=>match lu S t with
  | some u=>match S.eG u f with
   | some (o,_)=>aB S (.eY b i (off+o)) []
   | none=> .fail
  | _=> .fail
 | .split b c=>match lu S t with
  | some u=>match S.eG u f with
   | some (o,_)=>match o with
    | 0=>aB S (.l8 c) []
    | o+1=>aB S (.ptr b o) []
   | none=> .fail
  | _=> .fail
 | _=> .fail
def ey (i:Int) (n:Nat):List Gd:= [gd (0≤i),gd (i<(n:Int))]
def nP (v:V S.C):Option Int:=v.int?.map (·.2)
def DE (b:Nat) (i:Int) (j:Nat):Nat→Rt S
 | 0=> .fail
 | n+1=> .ite (i=(j:Int)) (Int.instDecidableEq i (j:Int)) (aB S (.ptr b j) []) (DE b i (j+1) n)
def C1 (e0:Ty) (bx:Bx S.C) (i:Int):V S.C→Rt S
 | .d (.sl e) l=>if e=e0 then .gd (ey i l.length) (aB S (.dw e (gE S e l i)) []) else .fail
 | .aZ _ e l=>if e=e0 then .gd (ey i l.length) (aB S (.dw e (gE S e l i)) []) else .fail
 | .aQ b=>match bx b with
  | some (.arr e l) | some (.bM e l)=>if e=e0 then .gd (ey i l.length) (aB S (.eY b i 0) []) else .fail
  | _=> .fail
 | .cF b n=>match e0 with
  | .sl _=> .gd (ey i n) (DE S b i 0 n)
  | _=> .fail
 | _=> .fail
def rowOf (e:Ty):List (V S.C)→Option (List (e.den S.C))
 | []=>some []
 | v::vs=>(cU S (fun _=>none) e v).bind fun x=>(rowOf e vs).bind fun r=>some (x::r)
def Bm (n:Nat) (e:Ty) (u:Nat) (bx:Bx S.C) (j:Int):V S.C→Rt S
 | .ptr b off=>match bx b with
  | some (.cells vs) | some (.bW vs)=>match rowOf S e ((vs.drop off).take n) with
   | some l=> .gd (ey j l.length) (aB S (.dw e (gE S e l j)) [(b, .bW vs)])
   | none=> .fail
  | _=> .fail
 | .dw t x=>match eF S t (.st u) x with
  | some y=>match rowOf S e ((jl S (.st u) y).take n) with
   | some l=> .gd (ey j l.length) (aB S (.dw e (gE S e l j)) [])
   | none=> .fail
  | none=> .fail
 | _=> .fail
def u7 (u:Nat):V S.C→Option (List (V S.C))
 | .agg u' vs=>cond (Nat.beq u u') (some vs) none
 | .d t x=>(eF S t (.st u) x).bind fun y=>some (jl S (.st u) y)
 | _=>none
def Bn (n:Nat) (e:Ty) (u:Nat) (j:Int) (v:V S.C):Rt S:=
 match u7 S u v with
 | some vs=>match rowOf S e (vs.take n) with
  | some l=> .gd (ey j l.length) (aB S (.d e (gE S e l j)) [])
  | none=> .fail
 | none=> .fail
def xX (w k:Nat) (j:Int) (vs:List (V S.C)):(i m:Nat)→Rt S
 | _,0=> .fail
 | i,m+1=> .ite (j=(i:Int)) inferInstance (aB S (.agg w ((vs.drop (i*k)).take k)) []) (xX w k j vs (i+1) m)
def bounds (n:Nat) (lo hi:Option (V S.C)):Option (List Gd×Int×Int):=
 match lo,hi with
 | none,none=>some ([],0,n)
 | some a,none=>(nP S a).bind fun l=>some ([gd (0≤l),gd (l≤(n:Int))],l,n)
 | none,some b=>(nP S b).bind fun h=>some ([gd (0≤h),gd (h≤(n:Int))],0,h)
 | some a,some b=>(nP S a).bind fun l=>(nP S b).bind fun h=>some ([gd (0≤h),gd (h≤(n:Int)),gd (0≤l),gd (l≤h)],l,h)
def cut {α:Type} (l:List α) (a b:Int):List α:=(l.take b.toNat).drop a.toNat
def cutFrom {α:Type} (l:List α) (a:Int):List α:=l.drop a.toNat
def jH {α:Type} (l:List α) (a b:Int) (hi:Option (V S.C)):List α:=match hi with
 | none=>cutFrom l a
 | some _=>cut l a b
def om (k:Nat) (a b:Int):Option (V S.C)→V S.C
 | none=> .pre k b
 | some _=> .win k a (b - a)
def mU {α:Type} (l:List α) (n i m:Int):List α:=l.take n.toNat++(l.drop i.toNat).take m.toNat++l.drop (n+m).toNat
def vf {α:Type} (z:α) (l:List α) (i m:Int):List α:=l.take i.toNat++List.replicate m.toNat z++l.drop (i+m).toNat
def Er (vw:Bool) (T0:Ty) (bx:Bx S.C) (lo hi:Option (V S.C)):V S.C→Rt S
 | .d .str s=>if T0= .str then match bounds S (List.length s) lo hi with
  | some (gs,a,b)=> .gd gs (aB S (.d .str (jH S s a b hi)) [])
  | none=> .fail else .fail
 | .d (.sl e) s=>if T0= .sl e then match bounds S (List.length s) lo hi with
  | some (gs,a,b)=> .gd gs (aB S (.d (.sl e) (jH S s a b hi)) [])
  | none=> .fail else .fail
 | .aZ k e s=>if T0= .sl e then match bounds S s.length lo hi with
  | some (gs,a,b)=> .gd gs (aB S (match hi with | none=> .aZ k e (cutFrom s a) | some _=> .d (.sl e) (cut s a b)) [])
  | none=> .fail else .fail
 | .aQ k=>match bx k with
  | some (.arr e s)=>if T0= .sl e then match bounds S s.length lo hi with
   | some (gs,a,b)=> .gd gs (cond vw (aB S (om S k a b lo) []) (aB S (.d (.sl e) (jH S s a b hi)) [(k, .bM e s)]))
   | none=> .fail else .fail
  | some (.bM e s)=>if T0= .sl e then match bounds S s.length lo hi with
   | some (gs,a,b)=> .gd gs (aB S (.d (.sl e) (jH S s a b hi)) [])
   | none=> .fail else .fail
  | _=> .fail
 | .pre k n=>match bx k with
  | some (.arr e s)=>if T0= .sl e then match bounds S (match hi with | none=>n.toNat | some _=>s.length) lo hi with
   | some (gs,a,b)=> .gd gs (aB S (om S k a b lo) [])
   | none=> .fail else .fail
  | _=> .fail
 | _=> .fail
def Ep (T0:Ty) (bx:Bx S.C) (lo hi mx:V S.C):V S.C→Rt S
 | .aQ k=>match bx k with
  | some (.arr e s)=>if T0= .sl e then match nP S lo,nP S hi,nP S mx with
   | some a,some b,some c=> .gd [gd (0≤a),gd (a≤b),gd (b≤c),gd (c≤(s.length:Int))] (aB S .undef [])
   | _,_,_=> .fail else .fail
  | _=> .fail
 | _=> .fail
def BA (e:Ty) (bx:Bx S.C):V S.C→Rt S
 | .win b i m=>match bx b with
  | some (.arr e' l)=>match eF S (.sl e') (.sl e) l with
   | some l=>aB S (.iy []) [(b, .arr e (vf (Ty.zero S e) l i m))]
   | none=> .fail
  | _=> .fail
 | _=> .fail
def sJ (B:Nat) (ak:Nat) (e:Ty) (bx:Bx S.C) (x:V S.C):V S.C→Rt S
 | .aZ b e' l=>match bx b with
  | some .tail=>match eF S (.sl e') (.sl e) l with
   | some l=>match datum S bx (.sl e) x with
    | some y=> .gd [gd ((List.length l+List.length y)*ak≤limit)] (aB S (.aZ (B) e (List.append l y)) [(b, .dead),(B, .tail)])
    | none=> .fail
   | none=> .fail
  | _=> .fail
 | .aQ b=>match bx b with
  | some (.arr e' l)=>match eF S (.sl e') (.sl e) l with
   | some l=>match datum S bx (.sl e) x with
    | some y=> .gd [gd ((List.length l+List.length y)*ak≤limit)] (aB S (.aQ (B)) [(b, .dead),(B, .arr e (List.append l y))])
    | none=> .fail
   | none=> .fail
  | _=> .fail
 | .pre b n=>match bx b,x with
  | some (.arr e' l), .win b' i m=>cond (Nat.beq b' b) (match eF S (.sl e') (.sl e) l with
   | some l=> .gd [gd (n≤i),gd (List.length l*ak≤limit)] (aB S (.pre B (n+m)) [(b, .dead),(B, .arr e (mU l n i m))])
   | none=> .fail) .fail
  | _,_=> .fail
 | .cI=>match datum S bx (.sl e) x with
  | some y=> .gd [gd (List.length y*ak≤limit)] (aB S (.aQ (B)) [(B, .arr e y)])
  | none=> .fail
 | _=> .fail
def C_ (T0:Ty) (bx:Bx S.C):V S.C→Rt S
 | .d .str s=>if T0= .str then aB S (.d (.int .i64) (List.length s:Int)) [] else .fail
 | .cI=>match T0 with
  | .sl _=>aB S (.d (.int .i64) (0:Int)) []
  | _=> .fail
 | .d (.sl e) l=>if T0= .sl e then aB S (.d (.int .i64) (List.length l:Int)) [] else .fail
 | .aZ _ e l=>if T0= .sl e then aB S (.d (.int .i64) (l.length:Int)) [] else .fail
 | .aQ b=>match bx b with
  | some (.arr e l) | some (.bM e l)=>if T0= .sl e then aB S (.d (.int .i64) (l.length:Int)) [] else .fail
  | _=> .fail
 | .pre b n=>match bx b with
  | some (.arr e _)=>if T0= .sl e then aB S (.d (.int .i64) n) [] else .fail
  | _=> .fail
 | _=> .fail
def zo (id:Nat):(rs:List K)→Ks S.C rs→(List (V S.C)×aI S.C×Nat→Rt S)→Rt S
 | [],_,κ=>κ ([],[],id)
 | k::rs,x,κ=>Ix S id k (Ks.head x) fun (v,us,id')=>zo id' rs (Ks.tail x) fun (vs,us',QE)=>κ (v::vs,us++us',QE)
def pS:List (V S.C)→V S.C
 | [v]=>v
 | vs=> .iy vs
def j5:(rs os:List K)→Ks S.C (rs++os)→Ks S.C rs×Ks S.C os
 | [],_,x=>((),x)
 | _::rs,os,x=>let (a,b):=j5 rs os (Ks.tail x); (Ks.cons (Ks.head x) a,b)
def oneMore (n:Nat):CK→Nat
 | .data _=>n
 | _=>n+1
def nO:K→Nat
 | .val (.data _) | .ro _ | .fn _ _ | .nil | .err=>0
 | .val _=>1
 | .obj cs | .opt cs | .cF cs=>1+cs.foldl oneMore 0
 | .aX=>2
 | .b_ _ cs=>2+cs.foldl oneMore 0
def iH:List K→Nat
 | []=>0
 | k::ks=>nO k+iH ks
def zh (e:Entry S):Bool:= !((e.rs++outs e.ps).all (sW S))
def oI (B:Nat) (bx:Bx S.C) (f:Nat) (args:List (V S.C)):Rt S:=
 match T.es.findSome? fun e=>if e.f=f then (eg S T.fs bx e.ps args).bind fun a=>some (⟨e,a⟩:(e:Entry S)×(Ks S.C e.ps×aI S.C)) else none with
 | some ⟨e,a⟩=>cond (Nat.ble (iH e.rs+iH (outs e.ps)) 16&&(dy S e.ps args).all fun b=> !(Nat.ble B b&&Nat.blt b (B+16))) (.bind _ (e.sp a.1) fun r=>
  let p:=j5 S e.rs (outs e.ps) r
  zo S B e.rs p.1 fun q=>aB S (pS S q.1) (jN S (zh S e) a.2++(q.2.1++e9 S q.2.2 e.ps args p.2))) .fail
 | none=> .fail
def rZ:(ts:List Ty)→aq S.C ts→List (V S.C)
 | [],_=> []
 | t::ts,x=> .d t (aq.head x)::rZ ts (aq.tail x)
def kf (bx:Bx S.C):(ts:List Ty)→List (V S.C)→Option (aq S.C ts×aI S.C)
 | [],[]=>some ((),[])
 | t::ts,v::vs=>(datum S bx t v).bind fun x=>(kf bx ts vs).bind fun b=>some (aq.cons x b.1,dh S bx v++b.2)
 | _,_=>none
def vc (B:Nat) (bx:Bx S.C) (args:List (V S.C)):V S.C→Rt S
 | .fv a r g=>match kf S bx a args with
  | some (x,us)=> .bind _ (g x) fun y=>aB S (pS S (rZ S r y)) us
  | none=> .fail
 | .fC f []=>oI S T B bx f args
 | .fC f vs=>match T.fs.find? (·.f == f) with
  | some e=>match caps S bx e.c vs,kf S bx e.a args with
   | some y,some (x,us)=> .bind _ (e.sp x y) fun z=>aB S (pS S (rZ S e.r z)) us
   | _,_=> .fail
  | none=> .fail
 | _=> .fail
def lQ (bx:Bx S.C):List (V S.C)→aI S.C
 | []=> []
 | .ptr b _::vs=>(match bx b with
  | some (.cells ws)=> [(b, .bW ws)]
  | _=> [])++lQ bx vs
 | _::vs=>lQ bx vs
def uE (e:Ty):List (V S.C)→Option (List (List (e.den S.C)))
 | []=>some []
 | .aZ _ e' l::vs=>(eF S (.sl e') (.sl e) l).bind fun x=>(uE e vs).bind fun r=>some (x::r)
 | _::_=>none
def vZ (t:Nat):Bool:=match S.bt with
 | some u=>Nat.beq u.1 t
 | none=>false
def settle (e:Option Ty) (bx:Bx S.C) (b n:Nat):Rt S:=
 match bx b with
 | some (.cells vs)=>match vs with
  | .cI::_=>aB S (.cF b n) []
  | vs=>match e with
   | some (.sl e)=>match uE S e vs with
    | some l=>cond (Nat.beq n vs.length) (aB S (.d (.sl (.sl e)) l) [(b, .bW vs)]) .fail
    | none=> .fail
   | _=> .fail
 | _=> .fail
def zm (l c:Operand):Option Nat:=match l,c with
 | .const (.int .i64 (.ofNat n)), .const (.int .i64 (.ofNat m))=>cond (Nat.beq n m&&Nat.ble n 8) (some n) none
 | _,_=>none
def C2:Ty→Bool
 | .sl _=>true
 | _=>false
def cP (ak:Nat→Nat) (B:Nat) (o:Op) (ty:Nat) (tm:Nat→V S.C) (bx:Bx S.C):Rt S:=
 let ev:=aO S tm
 match o with
 | .move x=>match ev x with
  | some .cI=>cond T.nl (aB S .cI []) (match eM S ty with
   | some e=>aB S (.aZ (B) e []) [(B, .tail)]
   | none=> .fail)
  | some v=>aB S v []
  | none=> .fail
 | .assign x=>match ev x with
  | some .cI=>cond T.nl (aB S .cI []) (match eM S ty with
   | some e=>aB S (.aZ (B) e []) [(B, .tail)]
   | none=> .fail)
  | some (.cF b n)=>settle S (eM S ty) bx b n
  | some v=>aB S v []
  | none=> .fail
 | .pick c a b=>match ev c with
  | some (.d .bool x)=>match (x:Bool) with
   | true=>match ev a with
    | some v=>aB S v []
    | none=> .fail
   | false=>match ev b with
    | some v=>aB S v []
    | none=> .fail
  | _=> .fail
 | .alloc t=>match S.ty t with
  | some u=>aB S (.ptr (B) 0) [(B, .cells (zeroCells S u))]
  | none=>cond (vZ S t) (aB S (.ptr B 0) [(B+1, .buf []),(B, .aX (B+1))]) .fail
 | .box t x=>match S.ty t,ev x with
  | some u,some v=>cond (fits S (cellsOf S v) (Ty.sz S u)) (match S.sp t with
   | false=>aB S (.ptr (B) 0) [(B, .cells (cellsOf S v))]
   | true=>match cellsOf S v with
    | .ptr c 0::vs=>aB S (.split B c) [(B, .cells vs)]
    | _=> .fail) .fail
  | _,_=> .fail
 | .build t parts=>match S.ty t with
  | some (.st u)=>match parts.toList.mapM (fun p=>(ev p.2).map fun v=>(p.1,v)) with
   | some ps=>match vt S u (zeroCells S (.st u)) ps with
    | some vs=>aB S (.agg u vs) []
    | none=> .fail
   | none=> .fail
  | _=> .fail
 | .buildSlice t len parts=>match eM S t with
  | some e=>cond (T.vw&&Nat.beq len 0) (match parts.toList with
   | []=>aB S (.aZ B e []) [(B, .tail)]
   | _=> .fail) (match parts.toList.mapM (fun p=>(ev p.2).map fun v=>(p.1,v)) with
   | some ps=>cond (Nat.ble (len*Ty.sz S e) 16777216) (match mL S bx e (List.replicate len (Ty.zero S e)) ps with
    | some (l,us)=>aB S (.aQ (B)) (us++ [(B, .arr e l)])
    | none=> .fail) .fail
   | none=> .fail)
  | none=> .fail
 | .load t x=>match S.ty t,ev x with
  | some T,some v=>Dg S T bx v
  | _,_=> .fail
 | .store t x y=>match oG S t with
  | some (_,_,u)=>match ev x,ev y with
   | some p,some v=>Ey S u bx v p
   | _,_=> .fail
  | none=>match S.ty t,ev x,ev y with
   | some u,some p,some v=>xq S u bx v p
   | _,_,_=> .fail
 | .nilCheck x=>match ev x with
  | some (.ptr b o)=>aB S (.ptr b o) []
  | some (.dw t x)=>aB S (.dw t x) []
  | some (.eY b i p)=>aB S (.eY b i p) []
  | some (.split b c)=>aB S (.split b c) []
  | _=> .fail
 | .binOp op t x (.const .nilIface) _=>match ev x with
  | some (.err b)=>cond (S.oX t) (match op with
   | .eql=>aB S (.d .bool b) []
   | .neq=>aB S (.d .bool (Bool.not b)) []
   | _=> .fail) .fail
  | _=> .fail
 | .binOp op t x y _=>cond (S.eq t) (match ev x,ev y with
  | some a,some b=>structEq S op t a b
  | _,_=> .fail) (match ev x,ev y with
  | some a,some b=>match xZ S op t a b with
   | some (gs,v)=> .gd gs (aB S v [])
   | none=> .fail
  | _,_=> .fail)
 | .unOp op _ x=>match op,ev x with
  | .not,some (.pr p i)=>aB S (.pr (¬ p) (@instDecidableNot p i)) []
  | .not,some (.d .bool b)=>aB S (.d .bool (Bool.not b)) []
  | .neg,some v=>match v.int? with
   | some (k,n)=>aB S (.d (.int k) (k.wrap (0 - n))) []
   | none=> .fail
  | _,_=> .fail
 | .convert s t x=>match S.ty s,S.ty t,ev x with
  | some _,some (.int k),some v=>match v.int? with
   | some (_,n)=>aB S (.d (.int k) (k.wrap n)) []
   | none=> .fail
  | some _,some .str,some v=>match v.pQ with
   | some s=>aB S (.d .str s) []
   | none=> .fail
  | _,_,_=> .fail
 | .makeFunc fn first cs=>match fn,first.toList with
  | .func f,[]=>match cs.toList.mapM ev with
   | some vs=>cond (vs.all (bU S)) (aB S (.fC f vs) (lQ S bx vs)) .fail
   | none=> .fail
  | _,_=> .fail
 | .makeSlice t l c=>match eM S t,ev l,ev c with
  | some e,some v,some w=>match cond (T.vw&&C2 e&&Nat.ble (ak t) 64) (zm l c) none with
   | some n=>aB S (.cF B n) [(B, .cells (List.replicate n .cI))]
   | none=>match v.int?,w.int? with
    | some (.i64,n),some (.i64,m)=> .gd [gd (0≤n),gd (n≤m),gd (m*ak t≤limit)] (aB S (.aQ (B)) [(B, .arr e (List.replicate n.toNat (Ty.zero S e)))])
    | _,_=> .fail
  | _,_,_=> .fail
 | .slice t x lo hi none=>match S.ty t,ev x,ju S tm lo,ju S tm hi with
  | some T0,some v,some l,some h=>Er S T.vw T0 bx l h v
  | _,_,_,_=> .fail
 | .slice t x (some lo) (some hi) (some mx)=>match S.ty t,ev x,ev lo,ev hi,ev mx with
  | some T0,some v,some l,some h,some m=>Ep S T0 bx l h m v
  | _,_,_,_,_=> .fail
 | .fieldAddr t x f=>match ev x with
  | some v=>BZ S t f v
  | none=> .fail
 | .field t x f=>match lu S t,ev x with
  | some u,some (.d (.st u') y)=>cond (Nat.beq u u') (match S.eG u' f with
   | some (o,w)=>match partOf S (.st u') y o w with
    | some z=>aB S (.d w z) []
    | none=> .fail
   | none=> .fail) .fail
  | some u,some (.agg u' vs)=>cond (Nat.beq u u'&&vs.length == (S.F u).length) (match S.eG u f with
   | some (o, .st w)=>aB S (.agg w ((vs.drop o).take (S.F w).length)) []
   | some (o,_)=>match vs[o]? with
    | some v=>aB S v []
    | none=> .fail
   | none=> .fail) .fail
  | _,_=> .fail
 | .indexAddr t x i=>match oG S t with
  | some (n,e,u)=>match ev x,ev i with
   | some v,some w=>match w.int? with
    | some (_,j)=>Bm S n e u bx j v
    | none=> .fail
   | _,_=> .fail
  | none=>match eM S t,ev x,ev i with
   | some e,some v,some w=>match w.int? with
    | some (_,n)=>C1 S e bx n v
    | none=> .fail
   | _,_,_=> .fail
 | .index t x i=>match oG S t with
  | some (n,e,u)=>match ev x,ev i with
   | some v,some w=>match w.int? with
    | some (_,j)=>Bn S n e u j v
    | none=> .fail
   | _,_=> .fail
  | none=>match xY S t with
   | some (n,m,u)=>match ev x,ev i with
    | some v,some w=>match u7 S u v,w.int? with
     | some vs,some (_,j)=>cond (Nat.beq vs.length (n*(S.F m).length)) (xX S m (S.F m).length j vs 0 n) .fail
     | _,_=> .fail
    | _,_=> .fail
   | none=>match ev x,ev i with
    | some v,some w=>match S.ty t,v.pQ,w.int? with
     | some .str,some s,some (_,n)=> .gd (ey n s.length) (aB S (.d (.int .u8) (((s.getD n.toNat 0).toNat:Nat):Int)) [])
     | _,_,_=> .fail
    | _,_=> .fail
 | .extract x i=>match ev x with
  | some (.iy vs)=>match vs[i]? with
   | some v=>aB S v []
   | none=> .fail
  | _=> .fail
 | .call c=>match c.args.toList.mapM ev with
  | none=> .fail
  | some args=>match c.callee with
   | .builtin .len=>match args,(c.argTypes[0]?).bind S.ty with
    | [v],some T=>C_ S T bx v
    | _,_=> .fail
   | .builtin .append=>match args,c.argTypes.toList with
    | [s,x],[t,u]=>match eM S t,eM S u with
     | some e,some e'=>if e=e' then sJ S B (ak t) e bx x s else .fail
     | _,_=> .fail
    | _,_=> .fail
   | .builtin .clear=>match args,c.argTypes.toList with
    | [v],[t]=>match eM S t with
     | some e=>BA S e bx v
     | none=> .fail
    | _,_=> .fail
   | .builtin b=>match args with
    | [v,w]=>match v.int?,w.int? with
     | some (k,x),some (k',y)=>if k=k' then match b with
      | .min=>aB S (.d (.int k) (Min.min (α:=Int) x y)) []
      | .max=>aB S (.d (.int k) (Max.max (α:=Int) x y)) []
      | _=> .fail else .fail
     | _,_=> .fail
    | _=> .fail
   | .value f=>match ev f with
    | some v=>vc S T B bx args v
    | none=> .fail
   | _=> .fail
 | _=> .fail
def nS (B:Nat):List Nat:=(List.range 16).map (B+ ·)
def tF (tm:Nat→V S.C) (x:Operand):List Nat:=match aO S tm x with
 | some v=>aA S v
 | none=> []
def deep (bx:Bx S.C) (ids:List Nat):List Nat:=ids++ids.flatMap fun i=>match bx i with
 | some (.cells vs) | some (.bW vs)=>vs.flatMap (az S)
 | some (.aX j)=> [j]
 | _=> []
def aF (vw:Bool) (B:Nat) (o:Op) (tm:Nat→V S.C) (bx:Bx S.C):List Nat×List Nat:=
 let ids:=o.operands.toList.flatMap (tF S tm)
 match o with
 | .load .. =>(ids,[])
 | .indexAddr t _ _=>(ids,match S.ar t with | some _=>ids | none=> [])
 | .call { callee:= .builtin .len, .. } =>(ids,[])
 | .slice .. =>(ids,cond vw [] (ids++nS B))
 | .call { callee:= .value _, .. } =>let ids:=deep S bx ids; (ids++nS B,ids++nS B)
 | .move x=>match aO S tm x with
  | some .cI=>(nS B,nS B)
  | _=>([],[])
 | .assign x=>match aO S tm x with
  | some .cI=>(nS B,nS B)
  | some (.cF b _)=>([b],[b])
  | _=>([],[])
 | .pick .. | .field .. | .fieldAddr .. | .extract .. | .unOp .. | .convert .. | .index .. | .binOp .. | .nilCheck _=>([],[])
 | _=>(ids++nS B,ids++nS B)
end
end Go.Sy
namespace Go.Sy
inductive AC where
 | skip
 | uq (id:Nat) (ops:Array Oper) (draw:Bool)
 | seq (a b:AC)
 | cut (n:Nat) (a b:AC)
 | cond (c:Operand) (a b:AC)
 | block (id:Nat) (a:AC)
 | loop (n:Nat) (a:AC)
 | exit (id:Nat)
 | ret
 | scope (a:AC)
 | bad (c:Code)
 deriving Inhabited
def AC.code:AC→Code
 | .skip=> .skip
 | .uq id ops draw=> .region id ops draw
 | .seq a b | .cut _ a b=> .seq a.code b.code
 | .cond c a b=> .cond c a.code b.code
 | .block id a=> .block id a.code
 | .loop _ a=> .loop a.code
 | .exit id=> .exit id
 | .ret=> .ret
 | .scope a=> .scope a.code
 | .bad c=>c
def AC.of (dI:List Nat):Code→(ls ss:Nat)→AC×Nat×Nat
 | .skip,l,s=>(.skip,l,s)
 | .region id ops draw,l,s=>(.uq id ops draw,l,s)
 | .seq a b,l,s=>
  let (x,l1,s1):=AC.of dI a l (s+1)
  let (y,l2,s2):=AC.of dI b l1 s1
  (match dI.idxOf? s with | some n=> .cut (2*n+1) x y | none=> .seq x y,l2,s2)
 | .cond c a b,l,s=>
  let (x,l1,s1):=AC.of dI a l s
  let (y,l2,s2):=AC.of dI b l1 s1
  (.cond c x y,l2,s2)
 | .block id a,l,s=>let (x,l1,s1):=AC.of dI a l s; (.block id x,l1,s1)
 | .loop a,l,s=>let (x,l1,s1):=AC.of dI a (l+1) s; (.loop (2*l) x,l1,s1)
 | .exit id,l,s=>(.exit id,l,s)
 | .ret,l,s=>(.ret,l,s)
 | .scope a,l,s=>let (x,l1,s1):=AC.of dI a l s; (.scope x,l1,s1)
 | c,l,s=>(.bad c,l,s)
theorem AC.Nx (dI:List Nat) (c:Code): ∀ l s,(AC.of dI c l s).1.code=c:=by
 induction c with
 | seq a b qZ q_=>
  intro l s
  simp only [AC.of]
  split <;> simp [AC.code,qZ,q_]
 | cond c a b qZ q_=>intro l s; simp [AC.of,AC.code,qZ,q_]
 | block id a ih=>intro l s; simp [AC.of,AC.code,ih]
 | loop a ih=>intro l s; simp [AC.of,AC.code,ih]
 | scope a ih=>intro l s; simp [AC.of,AC.code,ih]
 | _=>intro l s; simp [AC.of,AC.code]
section
variable (S:aS)
variable (T:gC S) (ak:Nat→Nat)
def v_ (a b:List Nat):Bool:=a.any fun x=>b.contains x
def meets (x y:List Nat×List Nat):Bool:=v_ x.2 y.1||v_ x.2 y.2||v_ y.2 x.1
def nD (ops:Array Oper) (ep:Array Nat):List (Nat×Option (List Nat×List Nat))→Bool
 | []=>true
 | (j,fj)::r=>nD ops ep r&&r.all fun (i,fi)=>
  (ep.getD j 0).testBit i||(Oper.apart ops (ops.getD i default) (ops.getD j default)&&
   match fi,fj with
   | some a,some b=> !meets a b
   | _,_=>true)
def xD (ops:Array Oper):Bool:=ops.toList.zipIdx.all fun p=>p.1.after.toList.all fun e=> !Region.binds .any e||Nat.blt e.on p.2
def restrict (bx:Bx S.C) (ids:List Nat):Bx S.C:=fun i=>cond (ids.contains i) (bx i) none
def mP (bx:Bx S.C) (B:Nat) (fp:List Nat) (us:aI S.C):Bool:=
 us.all fun u=>fp.contains u.1&&(!(Nat.ble B u.1&&Nat.blt u.1 (B+16))||(bx u.1).isNone)
def Ew {R:Type} (B:Nat) (dst:Option Nat) (o:Op) (ty:Nat) (env:Env S.C) (k:Env S.C→Option R):Option R:=
 let fp:=aF S T.vw B o env.tm env.bx
 (cP S T ak B o ty env.tm (restrict S env.bx fp.1)).run fun p=>
  cond (mP S env.bx B fp.2 p.2) (k (env.apply dst p.1 p.2)) none
def lI (cR n:Nat):Option Nat→Nat
 | _=>16*(100000+1000*cR+n)
def v7 (ops:Array Oper) (n:Nat):Bool:=ops.any fun o=>match o.guard with
 | some (j,_)=>Nat.beq j n
 | none=>false
def splitK {R:Type} (g:Bool) (dst:Option Nat) (env:Env S.C) (k:Env S.C→Option R):Option R:=
 match g with
 | false=>k env
 | true=>match dst with
  | none=>none
  | some t=>match env.tm t with
   | .d .bool x=>match (x:Bool) with
    | true=>k { env with tm:=au env.tm t (.d .bool true) }
    | false=>k { env with tm:=au env.tm t (.d .bool false) }
   | .pr _ i=> @ite _ _ i (k { env with tm:=au env.tm t (.d .bool true) }) (k { env with tm:=au env.tm t (.d .bool false) })
   | _=>none
def nk (ops:Array Oper) (o:Oper) (tm:Nat→V S.C):Option Bool:=
 match o.guard with
 | none=>some true
 | some (j,want)=>match (ops[j]?).bind (·.dst) with
  | none=>none
  | some t=>match tm t with
   | .d .bool x=>some (match (x:Bool) with | true=>want | false=> !want)
   | .skip=>some false
   | _=>none
noncomputable def agree {R:Type} (a b:Option R):Option R:=open Classical in if a=b then a else none
def wC (o:Op) (tm:Nat→V S.C):Option (Nat×Bool):=match o with
 | .binOp op t x (.const (.slice none 0 0)) _=>match eM S t with
  | some _=>match aO S tm x with
   | some (.d (.sl _) l)=>match op with
    | .eql=>some (List.length l,false)
    | .neq=>some (List.length l,true)
    | _=>none
   | _=>none
  | none=>none
 | _=>none
def y7:Op→Bool
 | .defer _=>true
 | _=>false
def Ek (tm:Nat→V S.C) (x y:Operand):Bool:=match x,y with
 | .const (.int k x), .const (.int k' y)=>decide (k=k')&&decide (x=y)
 | .tmp a, .tmp b=>match tm a,tm b with
  | .ptr b o, .ptr b' o'=>Nat.beq b b'&&Nat.beq o o'
  | _,_=>false
 | _,_=>false
def AG (tm:Nat→V S.C):List Operand→List Operand→Bool
 | [],[]=>true
 | a::as,b::bs=>Ek S tm a b&&AG tm as bs
 | _,_=>false
def yf (tm:Nat→V S.C) (dc:Option (Nat×List Operand)):Op→Bool
 | .defer ⟨.value (.func f),args,_⟩=>match dc with
  | some (g,ops)=>Nat.beq f g&&AG S tm args.toList ops
  | none=>false
 | _=>false
noncomputable def jA {R:Type} (cR:Nat) (ops:Array Oper) (draw:Bool) (ep:Array Nat) (k:Env S.C→Option R):List Oper→Nat→List (Nat×Option (List Nat×List Nat))→Env S.C→Option R
 | [],_,cZ,env=>cond (!draw||(nD ops ep cZ&&xD ops)) (k env) none
 | o::r,n,cZ,env=>match nk S ops o env.tm with
  | none=>none
  | some true=>match y7 o.op with
   | true=>cond (draw||env.df|| !yf S env.tm T.dc o.op) none (jA cR ops draw ep k r (n+1) ((n,none)::cZ) { env.apply o.dst .skip [] with df:=true })
   | false=>match wC S o.op env.tm with
   | some (m,v)=>cond draw none (@ite _ (m=0) (instDecidableEqNat m 0) (agree (splitK S (v7 ops n) o.dst (env.apply o.dst (.d .bool (Bool.not v)) []) fun e=>
    jA cR ops draw ep k r (n+1) ((n,some ([],[]))::cZ) e) (splitK S (v7 ops n) o.dst (env.apply o.dst (.d .bool v) []) fun e=>
    jA cR ops draw ep k r (n+1) ((n,some ([],[]))::cZ) e)) (splitK S (v7 ops n) o.dst (env.apply o.dst (.d .bool v) []) fun e=>
    jA cR ops draw ep k r (n+1) ((n,some ([],[]))::cZ) e))
   | none=>Ew S T ak (lI cR n o.dst) o.dst o.op o.type env fun e=>splitK S (v7 ops n) o.dst e fun e=>
    jA cR ops draw ep k r (n+1) ((n,some (aF S T.vw (lI cR n o.dst) o.op env.tm env.bx))::cZ) e
  | some false=>jA cR ops draw ep k r (n+1) ((n,none)::cZ) (env.apply o.dst .skip [])
inductive Ex where
 | normal | exit (id:Nat) | ret
 deriving Inhabited
abbrev Kt (R:Type):=Ex→Env S.C→Option R
noncomputable def exec {R:Type} (L:Nat→Env S.C→Option R):AC→Env S.C→Kt S R→Option R
 | .skip,env,k=>k .normal env
 | .uq id ops draw,env,k=>jA S T ak id ops draw (Region.before ops) (k .normal) ops.toList 0 [] env
 | .seq a b,env,k=>exec L a env fun e env'=>match e with
  | .normal=>exec L b env' k
  | e=>k e env'
 | .cut n a _,env,k=>exec L a env fun e env'=>match e with
  | .normal=>L n env'
  | e=>k e env'
 | .cond c a b,env,k=>match aO S env.tm c with
  | some (.d .bool x)=>match (x:Bool) with
   | true=>exec L a env k
   | false=>exec L b env k
  | some (.pr _ i)=> @ite _ _ i (exec L a env k) (exec L b env k)
  | _=>none
 | .block id a,env,k=>exec L a env fun e env'=>match e with
  | .exit j=>cond (Nat.beq j id) (k .normal env') (k (.exit j) env')
  | e=>k e env'
 | .loop n _,env,_=>L n env
 | .exit id,env,k=>k (.exit id) env
 | .ret,env,k=>k .ret env
 | .scope a,env,k=>exec L a env k
 | .bad _,_,_=>none
def wH (sl:List Nat) (ks:List K) (env:Env S.C):Option (Ks S.C ks):=
 (eg S T.fs env.bx ks (sl.map env.tm)).bind fun a=>some a.1
def eN (id:Nat):(k:K)→k.den S.C→V S.C×aI S.C
 | .val (.data t),x=>(.d t x,[])
 | .val (.aZ e),x=>(.aZ id e x,[(id, .tail)])
 | .val (.aQ e),x=>(.aQ id,[(id, .arr e x)])
 | .obj cs,x=>let a:=bu S (id+1) cs x; (.ptr id 0,(id, .cells a.1)::a.2.1)
 | .ro t,x=>(.dw t x,[])
 | .fn a r,g=>(.fv a r g,[])
 | .nil,_=>(.nil,[])
 | .err,x=>(.err x,[])
 | .aX,x=>(.ptr id 0,[(id, .aX (id+1)),(id+1, .buf x)])
 | .opt _,_=>(.undef,[])
 | .b_ t cs,x=>let a0:=bu S (id+1) [.data t] x.1; let a:=bu S (id+2) cs x.2; (.split (id+1) id,(id, .cells a0.1)::(id+1, .cells a.1)::a.2.1)
 | .cF cs,x=>let a:=bu S (id+1) cs x; (.cF id (CK.cD S cs),(id, .cells a.1)::a.2.1)
def fB:(ks:List K)→(sl:List Nat)→Ks S.C ks→Env S.C→Env S.C
 | [],_,_,env=>env
 | _::_,[],_,env=>env
 | k::r,t::sl,x,env=>
  let a:=eN S (16*t) k (Ks.head x)
  fB r sl (Ks.tail x) (env.apply (some t) a.1 a.2)
def Env.none (df:Bool):Env S.C:=⟨fun _=> .undef,fun _=>Option.none,df⟩
structure gB (R:Type) where
 sl:List Nat
 ks:List K
 fn:Ks S.C ks→Option R
 df:Bool
def JT:Bool→Bool→Bool
 | true,b=>b
 | false,true=>false
 | false,false=>true
noncomputable def za {R:Type} (env:Env S.C):List (gB S R)→Option R
 | []=>none
 | l::ls=>match cond (JT l.df env.df) (wH S T l.sl l.ks env) none with
  | some x=>l.fn x
  | none=>za env ls
noncomputable def gJ {R:Type} (ls:Nat→List (gB S R)) (n:Nat) (env:Env S.C):Option R:=za S T env (ls n)
def lq:List Nat→List K→Bool
 | [],[]=>true
 | t::sl,k::ks=>Nat.ble (nO k) 16&& !sl.contains t&&(match k with | .opt _=>false | _=>true)&&lq sl ks
 | _,_=>false
noncomputable def VC {R:Type} (l0 l1:Nat→List (gB S R)):AC→Kt S R→List Prop
 | .seq a b,k=>VC l0 l1 a (fun e env'=>match e with
  | .normal=>exec S T ak (gJ S T l0) b env' k
  | e=>k e env')++VC l0 l1 b k
 | .cut n a b,k=>VC l0 l1 a (fun e env'=>match e with
  | .normal=>gJ S T l0 n env'
  | e=>k e env')++VC l0 l1 b k++(l1 n).map fun l=> ∀ x,l.fn x=exec S T ak (gJ S T l0) b (fB S l.ks l.sl x (Env.none S l.df)) k
 | .cond _ a b,k=>VC l0 l1 a k++VC l0 l1 b k
 | .block id a,k=>VC l0 l1 a fun e env'=>match e with
  | .exit j=>cond (Nat.beq j id) (k .normal env') (k (.exit j) env')
  | e=>k e env'
 | .loop n a,k=>VC l0 l1 a (fun e env'=>match e with
  | .normal=>gJ S T l0 n env'
  | e=>k e env')++(l1 n).map fun l=> ∀ x,l.fn x=exec S T ak (gJ S T l0) a (fB S l.ks l.sl x (Env.none S l.df)) (fun e env'=>match e with
   | .normal=>gJ S T l0 n env'
   | e=>k e env')
 | .scope a,k=>VC l0 l1 a k
 | _,_=> []
def vz (ps:List K) (x:Ks S.C ps):Env S.C:=fB S ps (List.range' 0 ps.length) x (Env.none S false)
def m_ (env:Env S.C):ResultVar→V S.C
 | .tmp t=>env.tm t
 | .cell a t=>match S.ty t,env.tm a with
  | some (.st u), .ptr b 0=>match env.bx b with
   | some (.cells vs)=>cond (vs.length == (S.F u).length) (.agg u vs) .undef
   | _=> .undef
  | some _, .ptr b 0=>match env.bx b with
   | some (.cells [v])=>v
   | _=> .undef
  | _,_=> .undef
def ij:List K→Nat→List Nat
 | [],_=> []
 | .obj _::r,i=>i::ij r (i+1)
 | .aX::r,i=>i::ij r (i+1)
 | .b_ _ _::r,i=>i::ij r (i+1)
 | _::r,i=>ij r (i+1)
def lM:Nat:=1440000
def kM (fn:Func) (ps rs:List K):Kt S (Ks S.C (rs++outs ps)):=fun e env=>match e with
 | .exit _=>none
 | _=>match env.df with
  | false=>(eg S T.fs env.bx (rs++outs ps) (fn.results.toList.map (m_ S env)++(ij ps 0).map env.tm)).map (·.1)
  | true=>match T.dc with
   | some (f,ops)=>match ops.mapM (aO S env.tm) with
    | some vs=>(oI S ⟨T.de,T.fs,T.nl,T.vw,none,[]⟩ lM env.bx f vs).run fun p=>cond (p.2.all fun u=> !(Nat.ble lM u.1&&Nat.blt u.1 (lM+16))||(env.bx u.1).isNone)
     ((eg S T.fs (av env.bx p.2) (rs++outs ps) (fn.results.toList.map (m_ S (env.apply none .undef p.2))++(ij ps 0).map env.tm)).map (·.1)) none
    | none=>none
   | none=>none
end
end Go.Sy
namespace Go.Sy
abbrev St:=Nat→Nat→Prop
def At (w:World) (s:St) (b o:Nat) (cs:List Value):Prop:=
 ∀ j v,cs[j]? =some v→w.cell? ⟨b,o+j,none⟩=some v∧s b (o+j)
def bY (w:World) (s:St) (w':World) (s':St):Prop:=
 ∀ b o,s b o→s' b o∧w'.cell? ⟨b,o,none⟩=w.cell? ⟨b,o,none⟩
theorem bY.refl (w:World) (s:St):bY w s w s:=fun _ _ h=>⟨h,rfl⟩
theorem bY.trans {w w' w'':World} {s s' s'':St} (h:bY w s w' s') (h':bY w' s' w'' s''):bY w s w'' s'':=
 fun b o hs=>⟨(h' b o (h b o hs).1).1,((h' b o (h b o hs).1).2).trans (h b o hs).2⟩
theorem At.later {w w':World} {s s':St} {b o:Nat} {cs:List Value} (h:At w s b o cs) (hl:bY w s w' s'):At w' s' b o cs:=
 fun j v hj=>⟨(hl _ _ (h j v hj).2).2.trans (h j v hj).1,(hl _ _ (h j v hj).2).1⟩
theorem At.left {w:World} {s:St} {b o:Nat} {cs ds:List Value} (h:At w s b o (cs++ds)):At w s b o cs:=fun j v hj=>
 h j v (by rw [List.getElem?_append_left (List.getElem?_eq_some_iff.1 hj).1]; exact hj)
theorem At.right {w:World} {s:St} {b o:Nat} {cs ds:List Value} (h:At w s b o (cs++ds)):At w s b (o+cs.length) ds:=fun j v hj=>by
 have :=h (cs.length+j) v (by rw [List.getElem?_append_right (by omega)]; simpa using hj)
 rw [← Nat.add_assoc] at this
 exact this
theorem At.append {w:World} {s:St} {b o:Nat} {cs ds:List Value} (h:At w s b o cs) (h':At w s b (o+cs.length) ds):At w s b o (cs++ds):=fun j v hj=>by
 by_cases hlt:j<cs.length
 · exact h j v (by rw [List.getElem?_append_left hlt] at hj; exact hj)
 · have :=h' (j - cs.length) v (by rw [List.getElem?_append_right (by omega)] at hj; exact hj)
   rw [show o+cs.length+(j - cs.length)=o+j from by omega] at this
   exact this
def isAgg:Value→Bool
 | .agg _=>true
 | _=>false
def bq:Ty→Bool
 | .st _=>true
 | _=>false
def gT (M:St):Prop:= ∀ b o, ¬ M b o
def gU (M A B:St):Prop:=(∀ b o,M b o↔A b o∨B b o)∧ ∀ b o,A b o→B b o→False
section
variable (P:Program) (S:aS)
def bF (R:(t:Ty)→t.den S.C→List Value→Prop):(ts:List Ty)→aq S.C ts→List Value→Prop
 | [],_,cs=>cs= []
 | t::ts,x,cs=> ∃ c r,cs=c::r∧R t (aq.head x) [c]∧bF R ts (aq.tail x) r
def uN (R:(t:Ty)→t.den S.C→List Value→Prop) (w:World) (s:St) (e:Ty) (b o:Nat) (l:List (e.den S.C)):Prop:=
 ∀ (i:Nat) (x:e.den S.C),l[i]? =some x→ ∃ ds,ds.length=Ty.sz S e∧At w s b (o+i*Ty.sz S e) ds∧R e x ds
def aC (w:World) (s:St):Nat→(t:Ty)→t.den S.C→List Value→Prop
 | 0,_,_,_=>False
 | n+1,t,x,cs=>match t,x with
  | .int k,x=>cs= [.int k x]
  | .bool,x=>cs= [.bool x]
  | .str,x=>cs= [.string ⟨List.toArray x⟩]
  | .pt,_=>cs= [.pointer none]
  | .sl e,l=> ∃ a cap,cs= [.slice a (List.length l) cap]∧List.length l≤cap∧
   (List.length l=0∨ ∃ b o,a=some ⟨b,o,none⟩∧uN S (fun t x cs=>aC w s n t x cs) w s e b o l)
  | .st u,x=>bF S (fun t x cs=>aC w s n t x cs) (S.F u) (S.ex u x) cs
def cA (w:World) (s:St) (t:Ty) (x:t.den S.C) (v:Value):Prop:=isAgg v=bq t∧ ∃ n,aC S w s n t x v.cells.toList
theorem bF.mono {R R':(t:Ty)→t.den S.C→List Value→Prop} (h: ∀ t x cs,R t x cs→R' t x cs):
 ∀ (ts:List Ty) (x:aq S.C ts) (cs:List Value),bF S R ts x cs→bF S R' ts x cs
 | [],_,_,hr=>hr
 | _::ts,_,_,⟨c,r,hc,h1,h2⟩=>⟨c,r,hc,h _ _ _ h1,bF.mono h ts _ _ h2⟩
theorem aC.mono {w w':World} {s s':St} (hl:bY w s w' s'): ∀ {n m:Nat},n≤m→ ∀ {t:Ty} {x:t.den S.C} {cs:List Value},aC S w s n t x cs→aC S w' s' m t x cs
 | 0,_,_,_,_,_,h=>h.elim
 | n+1,0,hm,_,_,_,_=>by omega
 | n+1,m+1,hm,t,x,cs,h=>by
  have ih:=fun {t:Ty} {x:t.den S.C} {cs:List Value} =>aC.mono hl (n:=n) (m:=m) (by omega) (t:=t) (x:=x) (cs:=cs)
  cases t with
  | int k=>exact h
  | bool=>exact h
  | str=>exact h
  | pt=>exact h
  | sl e=>
   obtain ⟨a,cap,hcs,hc,h⟩:=h
   refine ⟨a,cap,hcs,hc,h.imp id ?_⟩
   rintro ⟨b,o,ha,he⟩
   refine ⟨b,o,ha,fun i x hi=> ?_⟩
   obtain ⟨ds,hd,cG,hr⟩:=he i x hi
   exact ⟨ds,hd,cG.later hl,ih hr⟩
  | st u=>exact bF.mono S (fun t x cs h=>ih h) _ _ _ h
theorem cA.mono {w w':World} {s s':St} (hl:bY w s w' s') {t:Ty} {x:t.den S.C} {v:Value} (h:cA S w s t x v):cA S w' s' t x v:=
 ⟨h.1,h.2.imp fun _ hn=>aC.mono S hl (Nat.le_refl _) hn⟩
theorem aC.up {w:World} {s:St} {n m:Nat} (hm:n≤m) {t:Ty} {x:t.den S.C} {cs:List Value} (h:aC S w s n t x cs):aC S w s m t x cs:=
 aC.mono S (bY.refl w s) hm h
theorem bF.length {R:(t:Ty)→t.den S.C→List Value→Prop} : ∀ (ts:List Ty) (x:aq S.C ts) (cs:List Value),bF S R ts x cs→cs.length=ts.length
 | [],_,_,h=>by cases h; rfl
 | _::ts,_,_,⟨c,r,hc,_,h2⟩=>by subst hc; simp [bF.length ts _ _ h2]
theorem aC.length {w:World} {s:St} {n:Nat} {t:Ty} {x:t.den S.C} {cs:List Value} (h:aC S w s n t x cs):cs.length=Ty.sz S t:=by
 cases n with
 | zero=>exact h.elim
 | succ n=>cases t with
  | int k=>cases h; rfl
  | bool=>cases h; rfl
  | str=>cases h; rfl
  | pt=>cases h; rfl
  | sl e=>obtain ⟨a,cap,rfl,_⟩:=h; rfl
  | st u=>exact bF.length S _ _ _ h
theorem bF.flat {w w':World} {s s':St} {n m:Nat} : ∀ (ts:List Ty) (x:aq S.C ts) (cs:List Value),(ts.all fun | .sl _=>false | .st _=>false | _=>true)=true→
 bF S (fun t x cs=>aC S w s n t x cs) ts x cs→bF S (fun t x cs=>aC S w' s' (m+1) t x cs) ts x cs
 | [],_,_,_,h=>h
 | t::ts,x,cs,hf,⟨c,r,hc,h1,h2⟩=>by
  simp only [List.all_cons,Bool.and_eq_true] at hf
  refine ⟨c,r,hc, ?_,bF.flat ts _ _ hf.2 h2⟩
  cases n with
  | zero=>exact h1.elim
  | succ n=>cases t with
   | int k=>exact h1
   | bool=>exact h1
   | str=>exact h1
   | pt=>exact h1
   | sl e=>simp at hf
   | st u=>simp at hf
end
end Go.Sy
namespace Go.Sy
structure aY (w w':World) (T:St):Prop where
 os:w'.os=w.os
 tape:w'.tape=w.tape
 output:w'.output=w.output
 size:w.heap.size≤w'.heap.size
 same: ∀ b,b<w.heap.size→(∀ o, ¬ T b o)→w'.heap[b]? =w.heap[b]?
 cell: ∀ b o,b<w.heap.size→ ¬ T b o→w'.cell? ⟨b,o,none⟩=w.cell? ⟨b,o,none⟩
 some: ∀ b o,b<w.heap.size→(w.cell? ⟨b,o,none⟩).isSome=true→(w'.cell? ⟨b,o,none⟩).isSome=true
 yD: ∀ b o,b<w.heap.size→ ¬ T b o→w'.frozen? ⟨b,o,none⟩=w.frozen? ⟨b,o,none⟩
theorem aY.refl (w:World) (T:St):aY w w T:=⟨rfl,rfl,rfl,Nat.le_refl _,fun _ _ _=>rfl,fun _ _ _ _=>rfl,fun _ _ _ h=>h,fun _ _ _ _=>rfl⟩
theorem aY.mono {w w':World} {T T':St} (h:aY w w' T) (ht: ∀ b o,T b o→T' b o):aY w w' T':=
 ⟨h.os,h.tape,h.output,h.size,fun b hb hn=>h.same b hb fun o ho=>hn o (ht b o ho),fun b o hb hn=>h.cell b o hb fun ho=>hn (ht b o ho),h.some,fun b o hb hn=>h.yD b o hb fun ho=>hn (ht b o ho)⟩
theorem aY.trans {w w' w'':World} {T T' A6:St} (h:aY w w' T) (h':aY w' w'' T') (h1: ∀ b o,T b o→A6 b o) (h2: ∀ b o,b<w.heap.size→T' b o→A6 b o):aY w w'' A6:=
 ⟨h'.os.trans h.os,h'.tape.trans h.tape,h'.output.trans h.output,Nat.le_trans h.size h'.size,
  fun b hb hn=>(h'.same b (Nat.lt_of_lt_of_le hb h.size) fun o ho=>hn o (h2 b o hb ho)).trans (h.same b hb fun o ho=>hn o (h1 b o ho)),
  fun b o hb hn=>(h'.cell b o (Nat.lt_of_lt_of_le hb h.size) fun ho=>hn (h2 b o hb ho)).trans (h.cell b o hb fun ho=>hn (h1 b o ho)),
  fun b o hb hs=>h'.some b o (Nat.lt_of_lt_of_le hb h.size) (h.some b o hb hs),
  fun b o hb hn=>(h'.yD b o (Nat.lt_of_lt_of_le hb h.size) fun ho=>hn (h2 b o hb ho)).trans (h.yD b o hb fun ho=>hn (h1 b o ho))⟩
theorem cell_of_heap {w w':World} {b o:Nat} (h:w'.heap[b]? =w.heap[b]?):w'.cell? ⟨b,o,none⟩=w.cell? ⟨b,o,none⟩:=by
 simp [World.cell?,h]
theorem yE {w w':World} {b o:Nat} (h:w'.heap[b]? =w.heap[b]?):w'.frozen? ⟨b,o,none⟩=w.frozen? ⟨b,o,none⟩:=by
 simp [World.frozen?,h]
theorem aY.drew (w:World) (T:St):aY w w.drew T:=⟨rfl,rfl,rfl,Nat.le_refl _,fun _ _ _=>rfl,fun _ _ _ _=>rfl,fun _ _ _ h=>h,fun _ _ _ _=>rfl⟩
theorem heap_alloc (w:World) (o:Obj) (b:Nat) (h:b<w.heap.size):(w.alloc o).heap[b]? =w.heap[b]? :=RowKit.Below.heap_alloc w o b h
theorem aY.alloc (w:World) (o:Obj) (T:St):aY w (w.alloc o) T:=
 ⟨rfl,rfl,rfl,by simp,fun b hb _=>heap_alloc w o b hb,fun b o' hb _=>cell_of_heap (heap_alloc w o b hb),fun b o' hb h=>by rw [cell_of_heap (heap_alloc w o b hb)]; exact h,fun b o' hb _=>yE (heap_alloc w o b hb)⟩
theorem os_setCells (b:Nat): ∀ (vs:List Value) (o:Nat) (w:World),(w.setCells b o vs).os=w.os∧(w.setCells b o vs).tape=w.tape∧(w.setCells b o vs).output=w.output∧(w.setCells b o vs).heap.size=w.heap.size
 | [],_,_=>⟨rfl,rfl,rfl,rfl⟩
 | v::r,o,w=>by
  obtain ⟨h1,h2,h3,h4⟩:=os_setCells b r (o+1) (w.setCell ⟨b,o,none⟩ v)
  exact ⟨h1,h2,h3,h4.trans (by simp)⟩
theorem Hg (b:Nat): ∀ (vs:List Value) (o:Nat) (w:World) (k:Nat),k≠b→(w.setCells b o vs).heap[k]? =w.heap[k]?
 | [],_,_,_,_=>rfl
 | v::r,o,w,k,hk=>(Hg b r (o+1) (w.setCell ⟨b,o,none⟩ v) k hk).trans (RowKit.Below.heap_setCell w _ v k hk)
theorem UL (w:World) (b o:Nat):w.setCells b o []=w:=rfl
theorem aY.setCells (w:World) (b o:Nat) (vs:List Value) (ht:w.there b o vs.length):aY w (w.setCells b o vs) (fun b' o'=>b'=b∧o≤o'∧o'<o+vs.length):=by
 obtain ⟨h1,h2,h3,h4⟩:=os_setCells b vs o w
 refine ⟨h1,h2,h3,by omega,fun k hk hn=> ?_,fun k o' hk hn=> ?_,fun k o' hk hs=> ?_,fun k o' hk _=> ?_⟩
 · by_cases e:k=b
   · subst e
     cases vs with
     | nil=>rfl
     | cons v r=>exact absurd ⟨rfl,Nat.le_refl _,by simp⟩ (hn o)
   · exact Hg b vs o w k e
 · exact World.cell?_setCells_out b vs o w ⟨k,o',none⟩ fun hb _=>by
    have hb:k=b:=hb
    by_cases e:o≤o'∧o'<o+vs.length
    · exact absurd ⟨hb,e⟩ hn
    · show o'<o∨o+vs.length≤o'
      omega
 · by_cases e:k=b∧o≤o'∧o'<o+vs.length
   · obtain ⟨rfl,e1,e2⟩:=e
     have :=World.cell?_setCells_in k vs o w (fun i hi=>(ht i hi).1) (o' - o) (by omega)
     rw [show o+(o' - o)=o' from by omega] at this
     rw [this]; rfl
   · rw [World.cell?_setCells_out b vs o w ⟨k,o',none⟩ fun hb _=>by
      have hb:k=b:=hb
      show o'<o∨o+vs.length≤o'
      omega]
     exact hs
 · exact World.frozen?_setCells ..
structure Loc where
 b:Nat
 o:Nat
 n:Nat
 cap:Nat
 nil:Bool
def Loc.aF (L:Loc):St:=fun b o=>b=L.b∧L.o≤o∧o<L.o+L.n
def E3 (L:Loc) (a:Option Addr) (len cap sz:Nat):Prop:=
 (a=none∧cap=0∧L.n=0)∨ ∃ b o,a=some ⟨b,o,none⟩∧L.n=(cap - len)*sz∧(len<cap→L.b=b∧L.o=o+len*sz)
structure ov (L:Loc) (a:Option Addr) (len cap sz:Nat):Prop where
 addr:a=if L.nil then none else some ⟨L.b,L.o,none⟩
 lJ:cap=L.cap
 cells:L.n=L.cap*sz
 isNil:L.nil=true→L.cap=0
 fits:len≤cap
def jc (P:Program) (f:Nat):Prop:= ∃ fn,P.funcs[f]? =some fn∧(fn.name == "runtime.NumGoroutine")=false∧fn.body.isNone=false
def kN:List Value→Value
 | [v]=>v
 | vs=> .tuple vs.toArray
def grown (s:St) (w w':World):St:=fun b o=>s b o∨(w.heap.size≤b∧b<w'.heap.size)
section
variable (P:Program) (S:aS)
def fK (w:World) (s:St):(ts:List Ty)→aq S.C ts→List Value→Prop
 | [],_,vs=>vs= []
 | t::ts,x,vs=> ∃ v r,vs=v::r∧cA S w s t (aq.head x) v∧fK w s ts (aq.tail x) r
theorem fK.mono {w w':World} {s s':St} (hl:bY w s w' s'): ∀ (ts:List Ty) (x:aq S.C ts) (vs:List Value),fK S w s ts x vs→fK S w' s' ts x vs
 | [],_,_,h=>h
 | _::ts,_,_,⟨v,r,h1,h2,h3⟩=>⟨v,r,h1,h2.mono S hl,fK.mono hl ts _ _ h3⟩
def iz (S:aS) (w:World) (M:St):Prop:=(∀ g ∈ S.gl,g.1.1<w.heap.size∧ ¬ M g.1.1 g.1.2∧ ∃ v,w.cell? ⟨g.1.1,g.1.2,none⟩=some v∧g.2 v)∧
 ∀ g ∈ S.gb,g.1<w.heap.size∧(∀ o, ¬ M g.1 o)∧ ∃ ob,w.heap[g.1]? =some ob∧g.2 ob
theorem iz.at {S:aS} {w0 w:World} {M0 M:St} (hG:iz S w0 M0) (hc:aY w0 w M0) (hM: ∀ b o,M b o→w0.heap.size≤b∨M0 b o):iz S w M:=
 ⟨fun g hg=>by
  obtain ⟨g1,g2,v,g3,g4⟩:=hG.1 g hg
  refine ⟨Nat.lt_of_lt_of_le g1 hc.size,fun hm=> ?_,v,(hc.cell g.1.1 g.1.2 g1 g2).trans g3,g4⟩
  rcases hM _ _ hm with h1 | h1
  · exact absurd g1 (Nat.not_lt.2 h1)
  · exact g2 h1,fun g hg=>by
  obtain ⟨g1,g2,v,g3,g4⟩:=hG.2 g hg
  refine ⟨Nat.lt_of_lt_of_le g1 hc.size,fun o hm=> ?_,v,(hc.same g.1 g1 g2).trans g3,g4⟩
  rcases hM _ _ hm with h1 | h1
  · exact absurd g1 (Nat.not_lt.2 h1)
  · exact g2 o h1⟩
def EU (w:World):Prop:=iz S w (fun _ _=>False)
def mB (w:World) (s:St) (a r:List Ty) (g:aq S.C a→Option (aq S.C r)) (v:Value):Prop:=
 ∃ f first cap,v= .func (.func f) first cap∧jc P f∧ ∀ w1 s1,bY w s w1 s1→EU S w1→ ∀ x args y,fK S w1 s1 a x args→g x=some y→
  Calls P f (first++args.toArray++cap) w1 fun e w'=> ∃ us,e= .returned (kN us)∧aY w1 w' (fun _ _=>False)∧fK S w' (grown s1 w1 w') r y us
theorem mB.mono {w w':World} {s s':St} (hl:bY w s w' s') {a r:List Ty} {g:aq S.C a→Option (aq S.C r)} {v:Value} (h:mB P S w s a r g v):mB P S w' s' a r g v:=by
 obtain ⟨f,first,cap,hv,hf,h⟩:=h
 exact ⟨f,first,cap,hv,hf,fun w1 s1 cx=>h w1 s1 (hl.trans cx)⟩
def mD (w:World) (s:St) (t:Ty) (x:t.den S.C) (v:Value):Prop:=
 ∃ b o ds,v= .pointer (some ⟨b,o,none⟩)∧At w s b o ds∧ds.length=Ty.sz S t∧ ∃ n,aC S w s n t x ds
theorem mD.mono {w w':World} {s s':St} (hl:bY w s w' s') {t:Ty} {x:t.den S.C} {v:Value} (h:mD S w s t x v):mD S w' s' t x v:=by
 obtain ⟨b,o,ds,hv,cG,hd,n,hr⟩:=h
 exact ⟨b,o,ds,hv,cG.later hl,hd,n,hr.mono S hl (Nat.le_refl _)⟩
def uQ:Bool→Value→Prop
 | true,v=>v= .nilIface
 | false,v=> ∃ t p,v= .iface t p
def bI (w:World) (s:St) (μ:Nat→Loc) (bx:Bx S.C):V S.C→Value→Prop
 | .undef,_=>True
 | .skip,v=>v=Go.undef
 | .d t x,v=>cA S w s t x v
 | .pr p i,v=>v= .bool (@decide p i)
 | .aZ b e l,v=>cA S w s (.sl e) l v∧(bx b=some .tail→ ∃ a cap,v= .slice a l.length cap∧E3 (μ b) a l.length cap (Ty.sz S e))
 | .aQ b,v=>(∃ a n c,v= .slice a n c)∧ ∀ e (l:List (e.den S.C)),(bx b=some (.arr e l)∨bx b=some (.bM e l))→ ∃ a cap,v= .slice a l.length cap∧ov (μ b) a l.length cap (Ty.sz S e)
 | .pre b n,v=>(∃ a n c,v= .slice a n c)∧ ∀ e (l:List (e.den S.C)),bx b=some (.arr e l)→0≤n∧n.toNat≤l.length∧ ∃ a cap,v= .slice a n.toNat cap∧ov (μ b) a n.toNat cap (Ty.sz S e)
 | .win b i n,v=>(∃ a n c,v= .slice a n c)∧ ∀ e (l:List (e.den S.C)),bx b=some (.arr e l)→0≤i∧0≤n∧i.toNat+n.toNat≤l.length∧ ∃ a cap,v= .slice a n.toNat cap∧n.toNat≤cap∧(n.toNat=0∨a=some ⟨(μ b).b,(μ b).o+i.toNat*Ty.sz S e,none⟩)
 | .ptr b off,v=>v= .pointer (some ⟨(μ b).b,(μ b).o+off,none⟩)
 | .split b c,v=> ∃ k q,v= .pointer (some ⟨k,q,none⟩)∧At w s k q [.pointer (some ⟨(μ c).b,(μ c).o,none⟩)]∧(μ b).b=k∧(μ b).o=q+1
 | .l8 c,v=> ∃ k q,v= .pointer (some ⟨k,q,none⟩)∧At w s k q [.pointer (some ⟨(μ c).b,(μ c).o,none⟩)]
 | .cF b n,v=>v= .slice (some ⟨(μ b).b,(μ b).o,none⟩) n n
 | .eY b i off,v=>(∃ p,v= .pointer (some p))∧ ∀ e (l:List (e.den S.C)),(bx b=some (.arr e l)∨bx b=some (.bM e l))→0≤i∧i.toNat<l.length∧v= .pointer (some ⟨(μ b).b,(μ b).o+i.toNat*Ty.sz S e+off,none⟩)
 | .dw t x,v=>mD S w s t x v
 | .nil,v=>v= .pointer none
 | .err b,v=>uQ b v
 | .cI,v=>v= .slice none 0 0
 | .fv a r g,v=>mB P S w s a r g v
 | .fC _ _,_=>False
 | .agg _ _,_=>False
 | .iy _,_=>False
def aH (w:World) (s:St) (μ:Nat→Loc) (bx:Bx S.C):List (V S.C)→List Value→Prop
 | [],cs=>cs= []
 | v::vs,cs=> ∃ c r,cs=c::r∧bI P S w s μ bx v c∧aH w s μ bx vs r
def RV (w:World) (s:St) (μ:Nat→Loc) (bx:Bx S.C):V S.C→Value→Prop
 | .agg u vs,v=> ∃ cs:Array Value,v= .agg cs∧vs.length=(S.F u).length∧vs.all (bU S)=true∧aH P S w s μ bx vs cs.toList
 | .iy vs,v=> ∃ us,v= .tuple us∧aH P S w s μ bx vs us.toList
 | .fC f vs,v=> ∃ cs:Array Value,v= .func (.func f) #[] cs∧aH P S w s μ bx vs cs.toList
 | v,c=>bI P S w s μ bx v c
def live (bx:Bx S.C) (i:Nat):Prop:=match bx i with
 | some (.cells _) | some (.arr _ _) | some .tail | some (.aX _) | some (.buf _)=>True
 | _=>False
def eX (L:Loc) (n:Nat):Value:= .slice (if L.nil then none else some ⟨L.b,0,none⟩) n L.cap
def uL (w:World) (b:Nat) (v:Value):Prop:=
 ∃ T e p,S.bt=some (T,e)∧w.heap[b]? =some (.cells #[p,v] T (0,0))∧(p= .pointer none∨p= .pointer (some ⟨b,0,none⟩))
def mA (w:World) (L:Loc) (l:List UInt8):Prop:=
 L.o=0∧L.n=L.cap∧(L.nil=true→L.cap=0)∧ ∃ T e,S.bt=some (T,e)∧w.ownsRowF 0 e 1 (eX L l.length) l.length (Lib.byteCells l)
def RB (w:World) (s:St) (μ:Nat→Loc) (bx:Bx S.C) (L:Loc):dP S.C→Prop
 | .cells vs=>vs.all (bU S)=true∧L.n=vs.length∧w.there L.b L.o L.n∧ ∃ cs,w.rangeAt L.b L.o cs∧aH P S w s μ bx vs cs
 | .bW vs=>vs.all (bU S)=true∧ ∃ cs,At w s L.b L.o cs∧aH P S w s μ bx vs cs
 | .arr e l=>L.n=L.cap*Ty.sz S e∧(L.nil=true→L.cap=0)∧l.length≤L.cap∧w.there L.b L.o L.n∧
  ∀ i x,l[i]? =some x→ ∃ ds,ds.length=Ty.sz S e∧w.rangeAt L.b (L.o+i*Ty.sz S e) ds∧ ∃ n,aC S w s n e x ds
 | .bM e l=>(L.nil=true→L.cap=0)∧l.length≤L.cap∧
  ∀ i x,l[i]? =some x→ ∃ ds,ds.length=Ty.sz S e∧At w s L.b (L.o+i*Ty.sz S e) ds∧ ∃ n,aC S w s n e x ds
 | .tail=>w.there L.b L.o L.n
 | .dead=>True
 | .aX j=>L.o=0∧L.n=2∧bx j≠none∧ ∃ v,uL S w L.b v∧ ∀ l,bx j=some (.buf l)→v=eX (μ j) l.length
 | .buf l=>mA S w L l
end
end Go.Sy
namespace Go.Sy
section
variable (P:Program) (S:aS)
theorem aR {α:Type} (f:Nat→α) (k:Nat) (v:α):au f k v k=v:=by
 unfold au
 rw [show Nat.beq k k=true from Nat.beq_refl k]; rfl
theorem bg {α:Type} (f:Nat→α) {k i:Nat} (v:α) (h:i≠k):au f k v i=f i:=by
 unfold au
 cases e:Nat.beq i k with
 | true=>exact absurd (Nat.eq_of_beq_eq_true e) h
 | false=>rfl
def cM (m m':Loc):dP S.C→dP S.C→Prop
 | .cells _, .cells _=>m'=m
 | .cells _, .bW _=>m'=m
 | .bW _, .bW _=>m'=m
 | .arr e l, .arr e' l'=>m'=m∧e'=e∧l'.length=l.length
 | .arr e l, .bM e' l'=>m'=m∧e'=e∧l'.length=l.length
 | .bM e l, .bM e' l'=>m'=m∧e'=e∧l'.length=l.length
 | .tail, .tail=>m'=m
 | .aX _, .aX _=>m'=m
 | .cells _, .aX _=>m'=m
 | .aX _, .cells _=>m'=m
 | .buf l, .buf l'=>m'=m∧l'.length=l.length
 | _, .dead=>m'=m
 | _,_=>False
def rj:dP S.C→Prop
 | .cells _ | .aX _=>True
 | _=>False
theorem Nz {m m':Loc} {B B':dP S.C} (h:rj S B) (h':rj S B') (e:m'=m):cM S m m' B B':=by
 cases B <;> first | exact h.elim | (cases B' <;> first | exact h'.elim | exact e)
theorem cM.refl (m:Loc) (B:dP S.C):cM S m m B B:=by cases B <;> simp [cM]
def aG (w0:World) (M0 s0:St) (bx:Bx S.C) (μ:Nat→Loc) (w:World):St:=
 fun b o=>b<w.heap.size∧(s0 b o∨M0 b o∨w0.heap.size≤b)∧ ∀ i,live S bx i→ ¬ (μ i).aF b o
structure Inv (w0:World) (M0 s0:St) (dq:List Deferred) (env:Env S.C) (a:Act) (w:World) (μ:Nat→Loc):Prop where
 jE: ∀ t,RV P S w (aG S w0 M0 s0 env.bx μ w) μ env.bx (env.tm t) (a.tmps.getD t Go.undef)
 cg: ∀ i B,env.bx i=some B→RB P S w (aG S w0 M0 s0 env.bx μ w) μ env.bx (μ i) B
 dr: ∀ i j,i≠j→live S env.bx i→live S env.bx j→ ∀ b o,(μ i).aF b o→(μ j).aF b o→False
 own: ∀ i,live S env.bx i→ ∀ b o,(μ i).aF b o→w0.heap.size≤b∨M0 b o
 ref: ∀ t i,i ∈ aA S (env.tm t)→env.bx i≠none
 kL: ∀ i vs,(env.bx i=some (.cells vs)∨env.bx i=some (.bW vs))→ ∀ v ∈ vs, ∀ j ∈ az S v,env.bx j≠none
 gY:aY w0 w M0
 sO:a.defers=cond env.df dq []
 qv:iz S w0 M0
theorem bI.step {w w':World} {s s':St} {μ μ':Nat→Loc} {bx ai:Bx S.C} (hl:bY w s w' s')
 (hc: ∀ i B0,bx i=some B0→ ∃ B,ai i=some B∧cM S (μ i) (μ' i) B0 B) {V:V S.C} {v:Value}
 (hr: ∀ i ∈ az S V,bx i≠none) (h:bI P S w s μ bx V v):bI P S w' s' μ' ai V v:=by
 cases V with
 | undef=>trivial
 | skip=>exact h
 | d t x=>exact cA.mono S hl h
 | pr p i=>exact h
 | aZ b e l=>
  refine ⟨cA.mono S hl h.1,fun hb=> ?_⟩
  obtain ⟨B0,bS⟩:=Option.ne_none_iff_exists'.1 (hr b (by simp [az]))
  obtain ⟨B,hB,cH⟩:=hc b B0 bS
  rw [hb] at hB
  obtain rfl:=Option.some.inj hB
  cases B0 <;> simp only [cM] at cH
  rw [cH]
  exact h.2 bS
 | aQ b=>
  refine ⟨h.1,fun e l hb=> ?_⟩
  replace h:=h.2
  obtain ⟨B0,bS⟩:=Option.ne_none_iff_exists'.1 (hr b (by simp [az]))
  obtain ⟨B,hB,cH⟩:=hc b B0 bS
  rcases hb with hb | hb <;>
  · rw [hb] at hB
    obtain rfl:=Option.some.inj hB
    cases B0 <;> simp only [cM] at cH
    all_goals
     obtain ⟨hm,rfl,hlen⟩:=cH
     rw [hm,hlen]
     first
     | exact h _ _ (.inl bS)
     | exact h _ _ (.inr bS)
 | pre b n=>
  refine ⟨h.1,fun e l hb=> ?_⟩
  replace h:=h.2
  obtain ⟨B0,bS⟩:=Option.ne_none_iff_exists'.1 (hr b (by simp [az]))
  obtain ⟨B,hB,cH⟩:=hc b B0 bS
  rw [hb] at hB
  obtain rfl:=Option.some.inj hB
  cases B0 <;> simp only [cM] at cH
  obtain ⟨hm,rfl,hlen⟩:=cH
  rw [hm,hlen]
  exact h _ _ bS
 | win b i n=>
  refine ⟨h.1,fun e l hb=> ?_⟩
  replace h:=h.2
  obtain ⟨B0,bS⟩:=Option.ne_none_iff_exists'.1 (hr b (by simp [az]))
  obtain ⟨B,hB,cH⟩:=hc b B0 bS
  rw [hb] at hB
  obtain rfl:=Option.some.inj hB
  cases B0 <;> simp only [cM] at cH
  obtain ⟨hm,rfl,hlen⟩:=cH
  rw [hm,hlen]
  exact h _ _ bS
 | ptr b off=>
  obtain ⟨B0,bS⟩:=Option.ne_none_iff_exists'.1 (hr b (by simp [az]))
  obtain ⟨B,hB,cH⟩:=hc b B0 bS
  have hm:μ' b=μ b:=by
   cases B0 <;> cases B <;> simp only [cM] at cH <;> first | exact cH | exact cH.1
  show v=_
  rw [hm]
  exact h
 | cF b n=>
  obtain ⟨B0,bS⟩:=Option.ne_none_iff_exists'.1 (hr b (by simp [az]))
  obtain ⟨B,hB,cH⟩:=hc b B0 bS
  have hm:μ' b=μ b:=by
   cases B0 <;> cases B <;> simp only [cM] at cH <;> first | exact cH | exact cH.1
  show v=_
  rw [hm]
  exact h
 | split b c=>
  have hm: ∀ i ∈ [b,c],μ' i=μ i:=fun i hb=>by
   obtain ⟨B0,bS⟩:=Option.ne_none_iff_exists'.1 (hr i hb)
   obtain ⟨B,hB,cH⟩:=hc i B0 bS
   cases B0 <;> cases B <;> simp only [cM] at cH <;> first | exact cH | exact cH.1
  obtain ⟨k,q,h1,h2,h3,h4⟩:=h
  rw [← hm c (by simp)] at h2
  rw [← hm b (by simp)] at h3 h4
  exact ⟨k,q,h1,h2.later hl,h3,h4⟩
 | l8 c=>
  have hm:μ' c=μ c:=by
   obtain ⟨B0,bS⟩:=Option.ne_none_iff_exists'.1 (hr c (by simp [az]))
   obtain ⟨B,hB,cH⟩:=hc c B0 bS
   cases B0 <;> cases B <;> simp only [cM] at cH <;> first | exact cH | exact cH.1
  obtain ⟨k,q,h1,h2⟩:=h
  rw [← hm] at h2
  exact ⟨k,q,h1,h2.later hl⟩
 | eY b i off=>
  refine ⟨h.1,fun e l hb=> ?_⟩
  replace h:=h.2
  obtain ⟨B0,bS⟩:=Option.ne_none_iff_exists'.1 (hr b (by simp [az]))
  obtain ⟨B,hB,cH⟩:=hc b B0 bS
  rcases hb with hb | hb <;>
  · rw [hb] at hB
    obtain rfl:=Option.some.inj hB
    cases B0 <;> simp only [cM] at cH
    all_goals
     obtain ⟨hm,rfl,hlen⟩:=cH
     rw [hm,hlen]
     first
     | exact h _ _ (.inl bS)
     | exact h _ _ (.inr bS)
 | dw t x=>exact mD.mono S hl h
 | nil=>exact h
 | err b=>exact h
 | cI=>exact h
 | fv a r g=>exact mB.mono P S hl h
 | fC f vs=>exact h.elim
 | agg u vs=>exact h.elim
 | iy vs=>exact h.elim
theorem aH.step {w w':World} {s s':St} {μ μ':Nat→Loc} {bx ai:Bx S.C} (hl:bY w s w' s')
 (hc: ∀ i B0,bx i=some B0→ ∃ B,ai i=some B∧cM S (μ i) (μ' i) B0 B): ∀ {vs:List (V S.C)} {cs:List Value},
 (∀ v ∈ vs, ∀ i ∈ az S v,bx i≠none)→aH P S w s μ bx vs cs→aH P S w' s' μ' ai vs cs
 | [],_,_,h=>h
 | v::vs,_,hr,⟨c,r,h1,h2,h3⟩=>⟨c,r,h1,bI.step P S hl hc (hr v (by simp)) h2,aH.step hl hc (fun v hv=>hr v (by simp [hv])) h3⟩
theorem RV.step {w w':World} {s s':St} {μ μ':Nat→Loc} {bx ai:Bx S.C} (hl:bY w s w' s')
 (hc: ∀ i B0,bx i=some B0→ ∃ B,ai i=some B∧cM S (μ i) (μ' i) B0 B) {V:V S.C} {v:Value}
 (hr: ∀ i ∈ aA S V,bx i≠none) (h:RV P S w s μ bx V v):RV P S w' s' μ' ai V v:=by
 cases V with
 | agg u vs=>
  obtain ⟨cs,h1,h2,h3,h4⟩:=h
  exact ⟨cs,h1,h2,h3,aH.step P S hl hc (fun v hv i hi=>hr i (by simp only [aA,List.mem_flatMap]; exact ⟨v,hv,hi⟩)) h4⟩
 | iy vs=>
  obtain ⟨cs,h1,h4⟩:=h
  exact ⟨cs,h1,aH.step P S hl hc (fun v hv i hi=>hr i (by simp only [aA,List.mem_flatMap]; exact ⟨v,hv,hi⟩)) h4⟩
 | fC f vs=>
  obtain ⟨cs,h1,h4⟩:=h
  exact ⟨cs,h1,aH.step P S hl hc (fun v hv i hi=>hr i (by simp only [aA,List.mem_flatMap]; exact ⟨v,hv,hi⟩)) h4⟩
 | undef=>exact trivial
 | skip=>exact bI.step P S hl hc (V:= .skip) hr h
 | d t x=>exact bI.step P S hl hc (V:= .d t x) hr h
 | pr p i=>exact bI.step P S hl hc (V:= .pr p i) hr h
 | aZ b e l=>exact bI.step P S hl hc (V:= .aZ b e l) hr h
 | aQ b=>exact bI.step P S hl hc (V:= .aQ b) hr h
 | pre b n=>exact bI.step P S hl hc (V:= .pre b n) hr h
 | win b i n=>exact bI.step P S hl hc (V:= .win b i n) hr h
 | ptr b off=>exact bI.step P S hl hc (V:= .ptr b off) hr h
 | cF b n=>exact bI.step P S hl hc (V:= .cF b n) hr h
 | split b c=>exact bI.step P S hl hc (V:= .split b c) hr h
 | l8 c=>exact bI.step P S hl hc (V:= .l8 c) hr h
 | eY b i off=>exact bI.step P S hl hc (V:= .eY b i off) hr h
 | dw t x=>exact bI.step P S hl hc (V:= .dw t x) hr h
 | nil=>exact bI.step P S hl hc (V:= .nil) hr h
 | err b=>exact bI.step P S hl hc (V:= .err b) hr h
 | cI=>exact bI.step P S hl hc (V:= .cI) hr h
 | fv a r g=>exact bI.step P S hl hc (V:= .fv a r g) hr h
theorem aH.length {w:World} {s:St} {μ:Nat→Loc} {bx:Bx S.C} : ∀ {vs:List (V S.C)} {cs:List Value},aH P S w s μ bx vs cs→cs.length=vs.length
 | [],_,h=>by cases h; rfl
 | _::_,_,⟨c,r,h1,_,h3⟩=>by subst h1; simp [aH.length h3]
theorem aH.append {w:World} {s:St} {μ:Nat→Loc} {bx:Bx S.C} : ∀ {vs ws:List (V S.C)} {cs ds:List Value},aH P S w s μ bx vs cs→aH P S w s μ bx ws ds→aH P S w s μ bx (vs++ws) (cs++ds)
 | [],_,_,_,h,h'=>by cases h; exact h'
 | _::_,_,_,ds,⟨c,r,h1,h2,h3⟩,h'=>⟨c,r++ds,by simp [h1],h2,aH.append h3 h'⟩
theorem aH.take {w:World} {s:St} {μ:Nat→Loc} {bx:Bx S.C} : ∀ (n:Nat) {vs:List (V S.C)} {cs:List Value},aH P S w s μ bx vs cs→aH P S w s μ bx (vs.take n) (cs.take n)
 | 0,_,_,_=>by simp [aH]
 | _+1,[],_,h=>by cases h; simp [aH]
 | n+1,_::_,_,⟨c,r,h1,h2,h3⟩=>⟨c,r.take n,by simp [h1],h2,aH.take n h3⟩
theorem aH.drop {w:World} {s:St} {μ:Nat→Loc} {bx:Bx S.C} : ∀ (n:Nat) {vs:List (V S.C)} {cs:List Value},aH P S w s μ bx vs cs→aH P S w s μ bx (vs.drop n) (cs.drop n)
 | 0,_,_,h=>h
 | _+1,[],_,h=>by cases h; simp [aH]
 | n+1,_::_,_,⟨c,r,h1,h2,h3⟩=>by subst h1; exact aH.drop n h3
theorem aH.get {w:World} {s:St} {μ:Nat→Loc} {bx:Bx S.C} : ∀ {vs:List (V S.C)} {cs:List Value} (n:Nat) {v:V S.C},aH P S w s μ bx vs cs→vs[n]? =some v→ ∃ c,cs[n]? =some c∧bI P S w s μ bx v c
 | [],_,_,_,_,hv=>by simp at hv
 | _::_,_,0,_,⟨c,r,h1,h2,h3⟩,hv=>by subst h1; simp at hv; subst hv; exact ⟨c,by simp,h2⟩
 | _::_,_,n+1,_,⟨c,r,h1,h2,h3⟩,hv=>by
  subst h1
  obtain ⟨c',gH,hr⟩:=aH.get n h3 (by simpa using hv)
  exact ⟨c',by simpa using gH,hr⟩
theorem qj {w:World} {b o:Nat} {cs:Array Value} {T:TypeId} {fz:Nat×Nat} (h:w.heap[b]? =some (.cells cs T fz)):(w.cell? ⟨b,o,none⟩).isSome=true↔o<cs.size:=by
 rw [Lib.cell_of_heap h]; simp
theorem uL.cells {w:World} {b:Nat} {v:Value} (h:uL S w b v) {o:Nat} :(w.cell? ⟨b,o,none⟩).isSome=true↔o<2:=by
 obtain ⟨T,e,p,_,h,_⟩:=h
 exact qj h
theorem mA.row {w:World} {L:Loc} {l:List UInt8} (h:mA S w L l):L.n=0∧L.nil=true∧l= []∨ ∃ T e cur fz,S.bt=some (T,e)∧w.heap[L.b]? =some (.cells cur e fz)∧cur.size=L.n∧L.nil=false:=by
 obtain ⟨h1,h2,h3,T,e,h4,h5,h6⟩:=h
 rcases h6 with ⟨h6,h7⟩ | ⟨g,cap,cur,fz,h6, -,h7, -, -, -,h8, -⟩
 · unfold eX at h6
   simp only [Value.slice.injEq] at h6
   obtain ⟨h6,_,h8⟩:=h6
   refine .inl ⟨by omega, ?_,List.length_eq_zero_iff.1 h7⟩
   cases hn:L.nil with
   | true=>rfl
   | false=>rw [hn] at h6; simp at h6
 · unfold eX at h6
   simp only [Value.slice.injEq] at h6
   obtain ⟨h6,_,h9⟩:=h6
   cases hn:L.nil with
   | true=>rw [hn] at h6; simp at h6
   | false=>
    rw [hn] at h6
    simp at h6
    subst h6
    exact .inr ⟨T,e,cur,fz,h4,h7,by omega,rfl⟩
theorem lZ {w:World} {s:St} {μ:Nat→Loc} {bx:Bx S.C} {i:Nat} (h: ∀ B,bx i=some B→RB P S w s μ bx (μ i) B) (hi:live S bx i) {b o:Nat} (hf:(μ i).aF b o):
 b<w.heap.size∧(w.cell? ⟨b,o,none⟩).isSome=true:=by
 have key:w.there (μ i).b (μ i).o (μ i).n→b<w.heap.size∧(w.cell? ⟨b,o,none⟩).isSome=true:=fun ht=>by
  obtain ⟨rfl,h1,h2⟩:=hf
  have :=(ht (o - (μ i).o) (by omega)).1
  rw [show (μ i).o+(o - (μ i).o)=o from by omega] at this
  obtain ⟨v,hv⟩:=Option.isSome_iff_exists.1 this
  exact ⟨World.block_lt_of_cell? w _ hv,this⟩
 unfold live at hi
 split at hi
 · rename_i vs hb; exact key (h _ hb).2.2.1
 · rename_i e l hb; exact key (h _ hb).2.2.2.1
 · rename_i hb; exact key (h _ hb)
 · rename_i j hb
   obtain ⟨h1,h2,_,v,h3,_⟩:=h _ hb
   obtain ⟨rfl,h4,h5⟩:=hf
   have :=(h3.cells S (o:=o)).2 (by omega)
   obtain ⟨v,hv⟩:=Option.isSome_iff_exists.1 this
   exact ⟨World.block_lt_of_cell? w _ hv,this⟩
 · rename_i l hb
   obtain ⟨rfl,h4,h5⟩:=hf
   have h1:mA S w (μ i) l:=h _ hb
   rcases h1.row with ⟨h2, -⟩ | ⟨T,e,cur,fz, -,h2,h3, -⟩
   · omega
   · have :=(qj (o:=o) h2).2 (by have :=h1.1; omega)
     obtain ⟨v,hv⟩:=Option.isSome_iff_exists.1 this
     exact ⟨World.block_lt_of_cell? w _ hv,this⟩
 · exact hi.elim
theorem eA {bx ai:Bx S.C} {i:Nat} (h:ai i=bx i):live S ai i↔live S bx i:=by unfold live; rw [h]
variable {P S}
theorem Inv.later {w0:World} {M0 s0:St} {dq:List Deferred} {env:Env S.C} {a:Act} {w:World} {μ:Nat→Loc} (h:Inv P S w0 M0 s0 dq env a w μ)
 {w':World} {T:St} {ai:Bx S.C} {μ':Nat→Loc} {U:Nat→Prop} (hw:aY w w' T)
 (hT: ∀ b o,T b o→b<w.heap.size→ ∃ i,U i∧live S env.bx i∧(μ i).aF b o)
 (hU: ∀ i, ¬ U i→ai i=env.bx i∧μ' i=μ i)
 (hf: ∀ i,U i→live S ai i→ ∀ b o,(μ' i).aF b o→w.heap.size≤b∨ ∃ j,U j∧live S env.bx j∧(μ j).aF b o):
 bY w (aG S w0 M0 s0 env.bx μ w) w' (aG S w0 M0 s0 ai μ' w'):=by
 intro b o ⟨h1,h2,h3⟩
 refine ⟨⟨Nat.lt_of_lt_of_le h1 hw.size,h2,fun i hi hfo=> ?_⟩, ?_⟩
 · by_cases hu:U i
   · rcases hf i hu hi b o hfo with hlt | ⟨j,_,hj,PE⟩
     · omega
     · exact h3 j hj PE
   · rw [eA S (hU i hu).1] at hi
     rw [(hU i hu).2] at hfo
     exact h3 i hi hfo
 · exact hw.cell b o h1 fun ht=>by
    obtain ⟨i,_,hi,hfo⟩:=hT b o ht h1
    exact h3 i hi hfo
theorem Inv.step {w0:World} {M0 s0:St} {dq:List Deferred} {env:Env S.C} {a:Act} {w:World} {μ:Nat→Loc} (h:Inv P S w0 M0 s0 dq env a w μ)
 {w':World} {T:St} {ai:Bx S.C} {μ':Nat→Loc} {U:Nat→Prop} (hw:aY w w' T)
 (hT: ∀ b o,T b o→b<w.heap.size→ ∃ i,U i∧live S env.bx i∧(μ i).aF b o)
 (hU: ∀ i, ¬ U i→ai i=env.bx i∧μ' i=μ i)
 (hf: ∀ i,U i→live S ai i→ ∀ b o,(μ' i).aF b o→w.heap.size≤b∨ ∃ j,U j∧live S env.bx j∧(μ j).aF b o)
 (hc: ∀ i B0,env.bx i=some B0→ ∃ B,ai i=some B∧cM S (μ i) (μ' i) B0 B)
 (hd: ∀ i j,U i→U j→i≠j→live S ai i→live S ai j→ ∀ b o,(μ' i).aF b o→(μ' j).aF b o→False)
 (hb: ∀ i B,U i→ai i=some B→RB P S w' (aG S w0 M0 s0 ai μ' w') μ' ai (μ' i) B)
 (hr: ∀ i vs,U i→(ai i=some (.cells vs)∨ai i=some (.bW vs))→ ∀ v ∈ vs, ∀ j ∈ az S v,ai j≠none):
 Inv P S w0 M0 s0 dq { env with bx:=ai } a w' μ':=by
 have hl:=h.later hw hT hU hf
 have hne: ∀ i,env.bx i≠none→ai i≠none:=fun i hi=>by
  obtain ⟨B0,bS⟩:=Option.ne_none_iff_exists'.1 hi
  obtain ⟨B,hB,_⟩:=hc i B0 bS
  rw [hB]; simp
 have G9: ∀ i j, ¬ U i→U j→live S ai i→live S ai j→ ∀ b o,(μ' i).aF b o→(μ' j).aF b o→False:=by
  intro i j hi hj li lj b o fi fj
  rw [eA S (hU i hi).1] at li
  rw [(hU i hi).2] at fi
  rcases hf j hj lj b o fj with hlt | ⟨k,hk,lk,fk⟩
  · exact absurd (lZ P S (h.cg i) li fi).1 (by omega)
  · exact h.dr i k (fun e=>hi (e▸hk)) li lk b o fi fk
 refine ⟨fun t=>RV.step P S hl hc (h.ref t) (h.jE t), ?_, ?_, ?_,fun t i hi=>hne i (h.ref t i hi), ?_, ?_,h.sO,h.qv⟩
 · intro i B hB
   by_cases hu:U i
   · exact hb i B hu hB
   · have gF:env.bx i=some B:=(hU i hu).1▸hB
     have hold:=h.cg i B gF
     rw [(hU i hu).2]
     have hcell:live S env.bx i→ ∀ o,(μ i).aF (μ i).b o→w'.cell? ⟨(μ i).b,o,none⟩=w.cell? ⟨(μ i).b,o,none⟩∧w'.frozen? ⟨(μ i).b,o,none⟩=w.frozen? ⟨(μ i).b,o,none⟩:=fun li o fo=>by
      have hlt:=(lZ P S (h.cg i) li fo).1
      exact ⟨hw.cell _ _ hlt fun ht=>by
       obtain ⟨j,uj,lj,fj⟩:=hT _ _ ht hlt
       exact h.dr i j (fun e=>hu (e▸uj)) li lj _ _ fo fj,hw.yD _ _ hlt fun ht=>by
       obtain ⟨j,uj,lj,fj⟩:=hT _ _ ht hlt
       exact h.dr i j (fun e=>hu (e▸uj)) li lj _ _ fo fj⟩
     have lT:live S env.bx i→(∀ o,(w.cell? ⟨(μ i).b,o,none⟩).isSome=true→(μ i).aF (μ i).b o)→(μ i).b<w.heap.size→w'.heap[(μ i).b]? =w.heap[(μ i).b]? :=fun li hin hlt=>
      hw.same _ hlt fun o ht=>by
       obtain ⟨j,uj,lj,fj⟩:=hT _ _ ht hlt
       exact h.dr i j (fun e=>hu (e▸uj)) li lj _ _ (hin o (lZ P S (h.cg j) lj fj).2) fj
     have vS:live S env.bx i→w.there (μ i).b (μ i).o (μ i).n→w'.there (μ i).b (μ i).o (μ i).n:=fun li ht j hj=>by
      obtain ⟨c1,c2⟩:=hcell li ((μ i).o+j) ⟨rfl,by omega,by omega⟩
      rw [c1,c2]; exact ht j hj
     have HJ:live S env.bx i→ ∀ o cs,(μ i).o≤o→o+cs.length≤(μ i).o+(μ i).n→w.rangeAt (μ i).b o cs→w'.rangeAt (μ i).b o cs:=fun li o cs h1 h2 jo j v hj=>by
      have hjl:=(List.getElem?_eq_some_iff.1 hj).1
      rw [(hcell li (o+j) ⟨rfl,by omega,by omega⟩).1]
      exact jo j v hj
     cases B with
     | cells vs=>
      have li:live S env.bx i:=by unfold live; rw [gF]; trivial
      obtain ⟨h1,h2,h3,cs,h4,h5⟩:=hold
      have hlen:=aH.length P S h5
      exact ⟨h1,h2,vS li h3,cs,HJ li _ _ (Nat.le_refl _) (by omega) h4,aH.step P S hl hc (h.kL i vs (.inl gF)) h5⟩
     | bW vs=>
      obtain ⟨h1,cs,h4,h5⟩:=hold
      exact ⟨h1,cs,h4.later hl,aH.step P S hl hc (h.kL i vs (.inr gF)) h5⟩
     | arr e l=>
      have li:live S env.bx i:=by unfold live; rw [gF]; trivial
      obtain ⟨h1,h2,h3,h4,h5⟩:=hold
      refine ⟨h1,h2,h3,vS li h4,fun k x hk=> ?_⟩
      obtain ⟨ds,hds,jo,n,gi⟩:=h5 k x hk
      have hkl:=(List.getElem?_eq_some_iff.1 hk).1
      refine ⟨ds,hds,HJ li _ _ (by omega) ?_ jo,n,gi.mono S hl (Nat.le_refl _)⟩
      have :(k+1)*Ty.sz S e≤(μ i).cap*Ty.sz S e:=Nat.mul_le_mul_right _ (by omega)
      rw [Nat.add_mul,Nat.one_mul] at this
      omega
     | bM e l=>
      obtain ⟨h2,h3,h5⟩:=hold
      refine ⟨h2,h3,fun k x hk=> ?_⟩
      obtain ⟨ds,hds,jo,n,gi⟩:=h5 k x hk
      exact ⟨ds,hds,jo.later hl,n,gi.mono S hl (Nat.le_refl _)⟩
     | tail=>
      have li:live S env.bx i:=by unfold live; rw [gF]; trivial
      exact vS li hold
     | dead=>trivial
     | aX k=>
      have li:live S env.bx i:=by unfold live; rw [gF]; trivial
      obtain ⟨h1,h2,h3,v,h4,h5⟩:=hold
      have hlt:(μ i).b<w.heap.size:=by
       obtain ⟨v,hv⟩:=Option.isSome_iff_exists.1 ((h4.cells S (o:=0)).2 (by omega))
       exact World.block_lt_of_cell? w _ hv
      have hb:=lT li (fun o ho=>by have :=(h4.cells S).1 ho; exact ⟨rfl,by omega,by omega⟩) hlt
      refine ⟨h1,h2,hne k h3,v, ?_,fun l hl'=> ?_⟩
      · obtain ⟨T,e,p,q1,q2,q3⟩:=h4
        exact ⟨T,e,p,q1,hb.trans q2,q3⟩
      · obtain ⟨B0,bS⟩:=Option.ne_none_iff_exists'.1 h3
        obtain ⟨B1,ki,cH⟩:=hc k B0 bS
        have hl':ai k=some (.buf l):=hl'
        rw [hl'] at ki
        cases ki
        cases B0 <;> simp only [cM] at cH
        obtain ⟨hm,hlen⟩:=cH
        rw [hm,hlen]
        exact h5 _ bS
     | buf l=>
      have li:live S env.bx i:=by unfold live; rw [gF]; trivial
      have hold:mA S w (μ i) l:=hold
      rcases hold.row with ⟨q1,q2,q3⟩ | ⟨T,e,cur,fz,q1,q2,q3,q4⟩
      · obtain ⟨r1,r2,r3,T,e,r4,r5⟩:=hold
        refine ⟨r1,r2,r3,T,e,r4, ?_⟩
        subst q3
        have hv:eX (μ i) ([]:List UInt8).length= .slice none 0 0:=by unfold eX; rw [q2,r3 q2]; rfl
        rw [hv]
        exact World.ownsRowF_nil ..
      · have hlt:(μ i).b<w.heap.size:=(Array.getElem?_eq_some_iff.1 q2).1
        have hb:=lT li (fun o ho=>by have :=(qj q2).1 ho; exact ⟨rfl,by have :=hold.1; omega,by have :=hold.1; omega⟩) hlt
        obtain ⟨r1,r2,r3,T',e',r4,r5,r6⟩:=hold
        refine ⟨r1,r2,r3,T',e',r4,r5, ?_⟩
        rcases r6 with r6 | ⟨g,cap,cur',lR,r6,r7,r8,r9⟩
        · exact .inl r6
        · have hg:g=(μ i).b:=by
           unfold eX at r6
           rw [q4] at r6
           simp at r6
           exact r6.1.symm
          subst hg
          exact .inr ⟨_,cap,cur',lR,r6,r7,hb.trans r8,r9⟩
 · intro i j hij li lj b o fi fj
   by_cases hi:U i
   · by_cases hj:U j
     · exact hd i j hi hj hij li lj b o fi fj
     · exact G9 j i hj hi lj li b o fj fi
   · by_cases hj:U j
     · exact G9 i j hi hj li lj b o fi fj
     · have l1:=(eA S (hU i hi).1).1 li
       have l2:=(eA S (hU j hj).1).1 lj
       rw [(hU i hi).2] at fi
       rw [(hU j hj).2] at fj
       exact h.dr i j hij l1 l2 b o fi fj
 · intro i li b o fi
   by_cases hi:U i
   · rcases hf i hi li b o fi with hlt | ⟨j,_,lj,fj⟩
     · exact .inl (Nat.le_trans h.gY.size hlt)
     · exact h.own j lj b o fj
   · have l1:=(eA S (hU i hi).1).1 li
     rw [(hU i hi).2] at fi
     exact h.own i l1 b o fi
 · intro i vs hvs v hv j hj
   by_cases hu:U i
   · exact hr i vs hu hvs v hv j hj
   · have vW:ai i=some (.cells vs)∨ai i=some (.bW vs):=hvs
     rw [(hU i hu).1] at vW
     exact hne j (h.kL i vs vW v hv j hj)
 · refine h.gY.trans hw (fun _ _ h=>h) fun b o hb ht=> ?_
   obtain ⟨i,_,li,fi⟩:=hT b o ht (Nat.lt_of_lt_of_le hb h.gY.size)
   rcases h.own i li b o fi with hlt | hm
   · omega
   · exact hm
theorem Inv.put {w0:World} {M0 s0:St} {dq:List Deferred} {env:Env S.C} {a:Act} {w:World} {μ:Nat→Loc} (h:Inv P S w0 M0 s0 dq env a w μ) {dst:Option Nat} {V:V S.C} {v:Value}
 (hd: ∀ d,dst=some d→d<a.tmps.size) (hv:RV P S w (aG S w0 M0 s0 env.bx μ w) μ env.bx V v) (hr: ∀ i ∈ aA S V,env.bx i≠none):
 Inv P S w0 M0 s0 dq { env with tm:=ux env.tm dst V } (a.put dst v) w μ:=by
 cases dst with
 | none=>exact h
 | some d=>
  have hlt:=hd d rfl
  refine ⟨fun t=> ?_,h.cg,h.dr,h.own,fun t i hi=> ?_,h.kL,h.gY,h.sO,h.qv⟩
  · show RV P S w _ μ env.bx (au env.tm d V t) ((a.tmps.setIfInBounds d v).getD t Go.undef)
    by_cases e:t=d
    · subst e
      have :(a.tmps.setIfInBounds t v).getD t Go.undef=v:=by simp [Array.getD,hlt]
      rw [this,show au env.tm t V t=V from aR _ _ _]
      exact hv
    · have :(a.tmps.setIfInBounds d v).getD t Go.undef=a.tmps.getD t Go.undef:=by
       simp [Array.getElem?_setIfInBounds_ne (Ne.symm e)]
      rw [this,show au env.tm d V t=env.tm t from bg _ _ e]
      exact h.jE t
  · have hi':i ∈ aA S (au env.tm d V t):=hi
    by_cases e:t=d
    · subst e
      rw [show au env.tm t V t=V from aR _ _ _] at hi'
      exact hr i hi'
    · rw [show au env.tm d V t=env.tm t from bg _ _ e] at hi'
      exact h.ref t i hi'
end
end Go.Sy
namespace Go.Sy
structure cT (S:aS):Prop where
  flat: ∀ u,(S.F u).all (fun t=> !bq t)=true
  sQ: ∀ u y,S.ex u (S.im u y)=y
section
variable (P:Program) (S:aS)
def Le (w:World) (s M:St) (e:Ty) (l:List (e.den S.C)) (cs:List Value):Prop:=
  ∃ a cap L,cs= [.slice a l.length cap]∧ov L a l.length cap (Ty.sz S e)∧w.there L.b L.o L.n∧(∀ b o,M b o↔L.aF b o)∧
    ∀ (i:Nat) (x:e.den S.C),l[i]? =some x→ ∃ ds,ds.length=Ty.sz S e∧w.rangeAt L.b (L.o+i*Ty.sz S e) ds∧ ∃ n,aC S w s n e x ds
def Lz (w:World) (s M:St) (e:Ty) (l:List (e.den S.C)) (cs:List Value):Prop:=
  ∃ a cap L,cs= [.slice a l.length cap]∧(∃ n,aC S w s n (.sl e) l cs)∧E3 L a l.length cap (Ty.sz S e)∧w.there L.b L.o L.n∧ ∀ b o,M b o↔L.aF b o
def lC (w:World) (s M:St):(c:CK)→c.den S.C→List Value→Prop
  | .data t,x,cs=>gT M∧ ∃ n,aC S w s n t x cs
  | .aZ e,l,cs=>Lz S w s M e l cs
  | .aQ e,l,cs=>Le S w s M e l cs
def gS (w:World) (s:St):(M:St)→(cs:List CK)→bH S.C cs→List Value→Prop
  | M,[],_,vs=>gT M∧vs= []
  | M,c::cs,x,vs=> ∃ M1 M2 EF KT,gU M M1 M2∧vs=EF++KT∧EF.length=CK.sz S c∧lC S w s M1 c (bH.head x) EF∧gS w s M2 cs (bH.tail x) KT
def eo (w:World) (s M:St) (cs:List CK) (x:bH S.C cs) (v:Value):Prop:=
  ∃ b o ds M',v= .pointer (some ⟨b,o,none⟩)∧w.there b o ds.length∧w.rangeAt b o ds∧
    gU M (fun b' o'=>b'=b∧o≤o'∧o'<o+ds.length) M'∧gS S w s M' cs x ds
def K_ (w:World) (s M:St) (cs:List CK) (x:bH S.C cs) (v:Value):Prop:=
  ∃ p,v= .slice (some p) (CK.cD S cs) (CK.cD S cs)∧eo S w s M cs x (.pointer (some p))
def nv (w:World) (M:St) (l:List UInt8) (v:Value):Prop:=
  ∃ b L,v= .pointer (some ⟨b,0,none⟩)∧uL S w b (eX L l.length)∧mA S w L l∧gU M (Loc.mk b 0 2 0 false).aF L.aF
def Lm (w:World) (s M:St) (t:Ty) (cs:List CK) (x:t.den S.C×bH S.C cs) (v:Value):Prop:=
  ∃ b o p M1 M2,v= .pointer (some ⟨b,o,none⟩)∧At w s b o [.pointer (some p)]∧gU M M1 M2∧eo S w s M1 [.data t] x.1 (.pointer (some p))∧eo S w s M2 cs x.2 (.pointer (some ⟨b,o+1,none⟩))
def mC (w:World) (s M:St):(k:K)→k.den S.C→Value→Prop
  | .val c,x,v=>lC S w s M c x v.cells.toList∧isAgg v=(match c with | .data t=>bq t | _=>false)
  | .obj cs,x,v=>eo S w s M cs x v
  | .opt cs,x,v=>match (x:Option (bH S.C cs)) with
    | none=>gT M∧v= .pointer none
    | some y=>eo S w s M cs y v
  | .nil,_,v=>gT M∧v= .pointer none
  | .ro t,x,v=>gT M∧mD S w s t x v
  | .fn a r,g,v=>gT M∧mB P S w s a r g v
  | .cF cs,x,v=>K_ S w s M cs x v
  | .err,x,v=>gT M∧uQ x v
  | .aX,x,v=>nv S w M x v
  | .b_ t cs,x,v=>Lm S w s M t cs x v
def cc (w:World) (s:St):(M:St)→(ks:List K)→Ks S.C ks→List Value→Prop
  | M,[],_,vs=>gT M∧vs= []
  | M,k::ks,x,vs=> ∃ M1 M2 v r,gU M M1 M2∧vs=v::r∧mC P S w s M1 k (Ks.head x) v∧cc w s M2 ks (Ks.tail x) r
theorem lC.mono {w:World} {s s' M:St} (hl:bY w s w s') {c:CK} {x:c.den S.C} {cs:List Value} (h:lC S w s M c x cs):lC S w s' M c x cs:=by
  cases c with
  | data t=>exact ⟨h.1,h.2.imp fun _ hn=>hn.mono S hl (Nat.le_refl _)⟩
  | aZ e=>
    obtain ⟨a,cap,L,h1,⟨n,h2⟩,h3,h4,h5⟩:=h
    exact ⟨a,cap,L,h1,⟨n,h2.mono S hl (Nat.le_refl _)⟩,h3,h4,h5⟩
  | aQ e=>
    obtain ⟨a,cap,L,h1,h2,h3,h4,h5⟩:=h
    refine ⟨a,cap,L,h1,h2,h3,h4,fun i y hi=> ?_⟩
    obtain ⟨ds,d1,d2,n,d3⟩:=h5 i y hi
    exact ⟨ds,d1,d2,n,d3.mono S hl (Nat.le_refl _)⟩
theorem gS.mono {w:World} {s s':St} (hl:bY w s w s'): ∀ {M:St} {cs:List CK} {x:bH S.C cs} {vs:List Value},gS S w s M cs x vs→gS S w s' M cs x vs
  | _,[],_,_,h=>h
  | _,_::_,_,_,⟨M1,M2,v1,v2,h1,h2,h3,h4,h5⟩=>⟨M1,M2,v1,v2,h1,h2,h3,h4.mono S hl,gS.mono hl h5⟩
theorem eo.mono {w:World} {s s' M:St} (hl:bY w s w s') {cs:List CK} {x:bH S.C cs} {v:Value} (h:eo S w s M cs x v):eo S w s' M cs x v:=by
  obtain ⟨b,o,ds,M',h1,h2,h3,h4,h5⟩:=h
  exact ⟨b,o,ds,M',h1,h2,h3,h4,h5.mono S hl⟩
theorem mC.mono {w:World} {s s' M:St} (hl:bY w s w s') {k:K} {x:k.den S.C} {v:Value} (h:mC P S w s M k x v):mC P S w s' M k x v:=by
  cases k with
  | val c=>exact ⟨h.1.mono S hl,h.2⟩
  | obj cs=>exact eo.mono S hl h
  | opt cs=>
    cases x with
    | none=>exact h
    | some y=>exact eo.mono S hl h
  | nil=>exact h
  | ro t=>exact ⟨h.1,h.2.mono S hl⟩
  | fn a r=>exact ⟨h.1,h.2.mono P S hl⟩
  | cF cs=>
    obtain ⟨p,h1,h2⟩:=h
    exact ⟨p,h1,eo.mono S hl h2⟩
  | err=>exact h
  | aX=>exact h
  | b_ t cs=>
    obtain ⟨b,o,p,M1,M2,h1,h2,h3,h4,h5⟩:=h
    exact ⟨b,o,p,M1,M2,h1,h2.later hl,h3,eo.mono S hl h4,eo.mono S hl h5⟩
theorem cc.mono {w:World} {s s':St} (hl:bY w s w s'): ∀ {M:St} {ks:List K} {x:Ks S.C ks} {vs:List Value},cc P S w s M ks x vs→cc P S w s' M ks x vs
  | _,[],_,_,h=>h
  | _,_::_,_,_,⟨M1,M2,v,r,h1,h2,h3,h4⟩=>⟨M1,M2,v,r,h1,h2,h3.mono P S hl,cc.mono hl h4⟩
def gz (w:World) (s:St):(ts:List Ty)→aq S.C ts→List Value→Prop
  | [],_,vs=>vs= []
  | t::ts,x,vs=> ∃ v r,vs=v::r∧mD S w s t (aq.head x) v∧gz w s ts (aq.tail x) r
def fq (e:gA S):Prop:=jc P e.f∧ ∀ (w:World) (s:St) (x:aq S.C e.a) (c:aq S.C e.c) (y:aq S.C e.r) (args caps:List Value),
  EU S w→fK S w s e.a x args→gz S w s e.c c caps→e.sp x c=some y→
  Calls P e.f (args++caps).toArray w fun en w'=> ∃ us,en= .returned (kN us)∧aY w w' (fun _ _=>False)∧fK S w' (grown s w w') e.r y us
def Tk (bx ai:Bx S.C):Prop:= ∀ i,ai i=bx i∨(ai i=some .dead∧live S bx i)∨ ∃ e l,bx i=some (.arr e l)∧ai i=some (.bM e l)
theorem Tk.refl (bx:Bx S.C):Tk S bx bx:=fun _=> .inl rfl
theorem Tk.trans {bx ai jj:Bx S.C} (h:Tk S bx ai) (h':Tk S ai jj):Tk S bx jj:=by
  intro i
  rcases h' i with e | ⟨e,l⟩ | ⟨e,l,h1,h2⟩
  · rw [e]; exact h i
  · rcases h i with e' | ⟨e',l'⟩ | ⟨e',l',h1,h2⟩
    · exact .inr (.inl ⟨e,(eA S e').1 l⟩)
    · exact .inr (.inl ⟨e,l'⟩)
    · exact .inr (.inl ⟨e,by unfold live; rw [h1]; trivial⟩)
  · rcases h i with e' | ⟨e',l'⟩ | ⟨e',l',h3,h4⟩
    · exact .inr (.inr ⟨e,l,e'▸h1,h2⟩)
    · rw [e'] at h1; cases h1
    · rw [h4] at h1; cases h1
def cE (w0:World) (M0 s0:St) (fM bx:Bx S.C) (μ:Nat→Loc) (w:World):St:=
  fun b o=>b<w.heap.size∧(s0 b o∨M0 b o∨w0.heap.size≤b)∧ ∀ i,live S fM i→(∃ e l,bx i=some (.bM e l))∨ ¬ (μ i).aF b o
theorem ng (w0:World) (M0 s0:St) (fM bx:Bx S.C) (μ:Nat→Loc) (w:World):bY w (aG S w0 M0 s0 fM μ w) w (cE S w0 M0 s0 fM bx μ w):=
  fun b o ⟨h1,h2,h3⟩=>⟨⟨h1,h2,fun i hi=> .inr (h3 i hi)⟩,rfl⟩
theorem uB {w0:World} {M0 s0:St} {fM bx ai:Bx S.C} {μ:Nat→Loc} {w:World} (h:Tk S bx ai):bY w (cE S w0 M0 s0 fM bx μ w) w (cE S w0 M0 s0 fM ai μ w):=
  fun b o ⟨h1,h2,h3⟩=>⟨⟨h1,h2,fun i hi=>(h3 i hi).imp (fun ⟨e,l,hb⟩=>by
    rcases h i with e' | ⟨_,l'⟩ | ⟨e',l',h1,_⟩
    · exact ⟨e,l,e'.trans hb⟩
    · unfold live at l'; rw [hb] at l'; exact l'.elim
    · rw [hb] at h1; cases h1) id⟩,rfl⟩
variable {P S}
theorem gz.mono {w w':World} {s s':St} (hl:bY w s w' s'): ∀ (ts:List Ty) (x:aq S.C ts) (vs:List Value),gz S w s ts x vs→gz S w' s' ts x vs
  | [],_,_,h=>h
  | _::ts,_,_,⟨v,r,h1,h2,h3⟩=>⟨v,r,h1,h2.mono S hl,gz.mono hl ts _ _ h3⟩
theorem ew {t u:Ty} {x:t.den S.C} {y:u.den S.C} (h:eF S t u x=some y): ∃ e:t=u,e▸x=y:=by
  unfold eF at h
  split at h
  · rename_i e; exact ⟨e,Option.some.inj h⟩
  · cases h
theorem aC.lK {t:Ty} {v:Value} (h:isAgg v=bq t) (ht:bq t=false):v.cells.toList= [v]:=by
  rw [ht] at h
  cases v <;> first | rfl | simp [isAgg] at h
theorem Tk.KQ {bx:Bx S.C} {b:Nat} {e:Ty} {l:List (e.den S.C)} (h:bx b=some (.arr e l)):Tk S bx (au bx b (some (.bM e l))):=fun i=>by
  by_cases hi:i=b
  · subst hi; exact .inr (.inr ⟨e,l,h,aR _ _ _⟩)
  · exact .inl (bg _ _ hi)
theorem Tk.uG {bx:Bx S.C} {b:Nat} (h:live S bx b):Tk S bx (au bx b (some .dead)):=fun i=>by
  by_cases hi:i=b
  · subst hi; exact .inr (.inl ⟨aR _ _ _,h⟩)
  · exact .inl (bg _ _ hi)
theorem Tk.cN (bx:Bx S.C) (v:V S.C):Tk S bx (av bx (cN S bx v)):=by
  cases v with
  | aQ b=>
    unfold Sy.cN
    dsimp only
    split
    · rename_i e l hb; exact Tk.KQ hb
    · exact Tk.refl S bx
  | _=>exact Tk.refl S bx
theorem ja (bx:Bx S.C) (us vs:aI S.C):av bx (us++vs)=av (av bx us) vs:=by
  induction us generalizing bx with
  | nil=>rfl
  | cons u us ih=>exact ih _
theorem GG (bx ai:Bx S.C) (h: ∀ i,ai i=bx i∨ ∃ e l,bx i=some (.arr e l)∧ai i=some (.bM e l)) (v:V S.C):
    (∀ i,av ai (cN S bx v) i=bx i∨ ∃ e l,bx i=some (.arr e l)∧av ai (cN S bx v) i=some (.bM e l))∧Tk S ai (av ai (cN S bx v)):=by
  have og:(∀ i,av ai [] i=bx i∨ ∃ e l,bx i=some (.arr e l)∧av ai [] i=some (.bM e l))∧Tk S ai (av ai []):=⟨h,Tk.refl S ai⟩
  cases v with
  | aQ b=>
    unfold Sy.cN
    dsimp only
    split
    · rename_i e l hb
      refine ⟨fun i=> ?_,fun i=> ?_⟩ <;>
      · show _∨_
        by_cases hi:i=b
        · subst hi
          have e1:av ai [(i, .bM e l)] i=some (.bM e l):=aR _ _ _
          first
          | exact .inr ⟨e,l,hb,e1⟩
          | (rcases h i with h1 | ⟨e',l',h1,h2⟩
             · exact .inr (.inr ⟨e,l,h1.trans hb,e1⟩)
             · rw [hb] at h1
               cases h1
               exact .inl (e1.trans h2.symm))
        · have e1:av ai [(b, .bM e l)] i=ai i:=bg _ _ hi
          first
          | (rw [e1]; exact h i)
          | exact .inl e1
    · exact og
  | _=>exact og
theorem vA (bx:Bx S.C): ∀ (vs:List (V S.C)) (ai:Bx S.C),(∀ i,ai i=bx i∨ ∃ e l,bx i=some (.arr e l)∧ai i=some (.bM e l))→
    (∀ i,av ai (vs.flatMap (cN S bx)) i=bx i∨ ∃ e l,bx i=some (.arr e l)∧av ai (vs.flatMap (cN S bx)) i=some (.bM e l))∧Tk S ai (av ai (vs.flatMap (cN S bx)))
  | [],ai,h=>⟨h,Tk.refl S ai⟩
  | v::vs,ai,h=>by
    simp only [List.flatMap_cons,ja]
    obtain ⟨h1,h2⟩:=GG bx ai h v
    obtain ⟨h3,h4⟩:=vA bx vs _ h1
    exact ⟨h3,h2.trans S h4⟩
end
end Go.Sy
namespace Go.Sy
section
variable {P:Program} {S:aS}
variable {w0:World} {M0 s0:St} {dq:List Deferred} {env:Env S.C} {a:Act} {w:World} {μ:Nat→Loc}
theorem Tk.dU {bx ai:Bx S.C} (h:Tk S bx ai) {i:Nat} (hl:live S ai i):ai i=bx i:=by
 rcases h i with e | ⟨e,_⟩ | ⟨e,l,_,e'⟩
 · exact e
 · unfold live at hl; rw [e] at hl; exact hl.elim
 · unfold live at hl; rw [e'] at hl; exact hl.elim
theorem B8 (h:Inv P S w0 M0 s0 dq env a w μ) {bx:Bx S.C} (hk:Tk S env.bx bx) {b:Nat} {e:Ty} {l:List (e.den S.C)} (hb:bx b=some (.bM e l)) {v:Value}
 (hv:bI P S w (aG S w0 M0 s0 env.bx μ w) μ env.bx (.aQ b) v): ∃ n,aC S w (cE S w0 M0 s0 env.bx bx μ w) n (.sl e) l [v]:=by
 have hl:=ng S w0 M0 s0 env.bx bx μ w
 have key:(∃ n, ∀ (i:Nat) (x:e.den S.C),l[i]? =some x→ ∃ ds,ds.length=Ty.sz S e∧At w (cE S w0 M0 s0 env.bx bx μ w) (μ b).b ((μ b).o+i*Ty.sz S e) ds∧aC S w (cE S w0 M0 s0 env.bx bx μ w) n e x ds)→
  (∃ a cap,v= .slice a l.length cap∧ov (μ b) a l.length cap (Ty.sz S e))→ ∃ n,aC S w (cE S w0 M0 s0 env.bx bx μ w) n (.sl e) l [v]:=by
  rintro ⟨n,hel⟩ ⟨a,cap,rfl,ha⟩
  refine ⟨n+1,a,cap,rfl,ha.fits, ?_⟩
  by_cases hn:(μ b).nil=true
  · exact .inl (by have :=ha.isNil hn; have :=ha.lJ; have :=ha.fits; show l.length=0; omega)
  · refine .inr ⟨(μ b).b,(μ b).o,by rw [ha.addr]; simp [hn],fun i x hi=> ?_⟩
    exact hel i x hi
 have bound:(∀ (i:Nat) (x:e.den S.C),l[i]? =some x→ ∃ ds,ds.length=Ty.sz S e∧At w (cE S w0 M0 s0 env.bx bx μ w) (μ b).b ((μ b).o+i*Ty.sz S e) ds∧ ∃ n,aC S w (cE S w0 M0 s0 env.bx bx μ w) n e x ds)→
  ∃ n, ∀ (i:Nat) (x:e.den S.C),l[i]? =some x→ ∃ ds,ds.length=Ty.sz S e∧At w (cE S w0 M0 s0 env.bx bx μ w) (μ b).b ((μ b).o+i*Ty.sz S e) ds∧aC S w (cE S w0 M0 s0 env.bx bx μ w) n e x ds:=by
  intro hall
  have : ∀ m,m≤l.length→ ∃ n, ∀ (i:Nat) (x:e.den S.C),i<m→l[i]? =some x→ ∃ ds,ds.length=Ty.sz S e∧At w (cE S w0 M0 s0 env.bx bx μ w) (μ b).b ((μ b).o+i*Ty.sz S e) ds∧aC S w (cE S w0 M0 s0 env.bx bx μ w) n e x ds:=by
   intro m
   induction m with
   | zero=>exact fun _=>⟨0,fun i x hi=>by omega⟩
   | succ m ih=>
    intro hm
    obtain ⟨n,hn⟩:=ih (by omega)
    obtain ⟨ds,h1,h2,n',h3⟩:=hall m l[m] (by simp)
    refine ⟨max n n',fun i x hi hx=> ?_⟩
    by_cases e:i=m
    · subst e
      have :x=l[i]:=by simpa [List.getElem?_eq_getElem (show i<l.length by omega)] using hx.symm
      subst this
      exact ⟨ds,h1,h2,h3.up S (by omega)⟩
    · obtain ⟨ds,h1,h2,h3⟩:=hn i x (by omega) hx
      exact ⟨ds,h1,h2,h3.up S (by omega)⟩
  obtain ⟨n,hn⟩:=this l.length (Nat.le_refl _)
  exact ⟨n,fun i x hx=>hn i x (List.getElem?_eq_some_iff.1 hx).1 hx⟩
 rcases hk b with e1 | ⟨e1,_⟩ | ⟨e',l',e1,e2⟩
 · rw [hb] at e1
   obtain ⟨_,_,h3⟩:=h.cg b _ e1.symm
   refine key (bound fun i x hi=> ?_) (hv.2 e l (.inr e1.symm))
   obtain ⟨ds,d1,d2,n,d3⟩:=h3 i x hi
   exact ⟨ds,d1,d2.later hl,n,d3.mono S hl (Nat.le_refl _)⟩
 · rw [hb] at e1; cases e1
 · rw [hb] at e2
   cases e2
   have cj:live S env.bx b:=by unfold live; rw [e1]; trivial
   obtain ⟨g1,g2,g3,g4,h3⟩:=h.cg b _ e1
   refine key (bound fun i x hi=> ?_) (hv.2 e l (.inl e1))
   obtain ⟨ds,d1,d2,n,d3⟩:=h3 i x hi
   refine ⟨ds,d1,fun j u hj=>⟨d2 j u hj, ?_⟩,n,d3.mono S hl (Nat.le_refl _)⟩
   have hj':=(List.getElem?_eq_some_iff.1 hj).1
   have tg:=(List.getElem?_eq_some_iff.1 hi).1
   have hO:(μ b).aF (μ b).b ((μ b).o+i*Ty.sz S e+j):=by
    refine ⟨rfl,by omega, ?_⟩
    have :(i+1)*Ty.sz S e≤(μ b).cap*Ty.sz S e:=Nat.mul_le_mul_right _ (by omega)
    rw [Nat.add_mul,Nat.one_mul] at this
    omega
   refine ⟨(lZ P S (h.cg b) cj hO).1,(h.own b cj _ _ hO).elim (fun h=> .inr (.inr h)) (fun h=> .inr (.inl h)),fun k hk'=> ?_⟩
   by_cases ek:k=b
   · subst ek; exact .inl ⟨e,l,hb⟩
   · exact .inr fun hf=>h.dr k b ek hk' cj _ _ hf hO
theorem Bo (h:Inv P S w0 M0 s0 dq env a w μ) {bx ai:Bx S.C} (hk:Tk S env.bx bx) (hk':Tk S bx ai) {t:Ty} (ht:bq t=false) {V:V S.C} {v:Value} {x:t.den S.C}
 (hf: ∀ b e (l:List (e.den S.C)),V= .aQ b→bx b=some (.arr e l)→ai b=some (.bM e l))
 (hv:bI P S w (aG S w0 M0 s0 env.bx μ w) μ env.bx V v) (hx:cU S bx t V=some x): ∃ n,aC S w (cE S w0 M0 s0 env.bx ai μ w) n t x [v]:=by
 have hl:=ng S w0 M0 s0 env.bx ai μ w
 have hd: ∀ (u:Ty) (y:u.den S.C),cA S w (aG S w0 M0 s0 env.bx μ w) u y v→eF S u t y=some x→ ∃ n,aC S w (cE S w0 M0 s0 env.bx ai μ w) n t x [v]:=by
  intro u y hr hc
  obtain ⟨rfl,rfl⟩:=ew hc
  obtain ⟨h1,n,hn⟩:=hr
  rw [aC.lK h1 ht] at hn
  exact ⟨n,hn.mono S hl (Nat.le_refl _)⟩
 cases V with
 | d u y=>exact hd u y hv hx
 | pr p i=>
  obtain ⟨rfl,rfl⟩:=ew hx
  cases hv
  exact ⟨1,rfl⟩
 | aZ b e l=>exact hd (.sl e) l hv.1 hx
 | cI=>
  cases t with
  | sl e=>
   cases hx
   cases hv
   exact ⟨1,none,0,rfl,Nat.le_refl _, .inl rfl⟩
  | _=>cases hx
 | aQ b=>
  have ok: ∀ (e:Ty) (l:List (e.den S.C)),ai b=some (.bM e l)→eF S (.sl e) t l=some x→ ∃ n,aC S w (cE S w0 M0 s0 env.bx ai μ w) n t x [v]:=by
   intro e l hb hc
   obtain ⟨rfl,rfl⟩:=ew hc
   exact B8 h (hk.trans S hk') hb hv
  simp only [cU] at hx
  split at hx
  · rename_i e l hb; exact ok e l (hf b e l rfl hb) hx
  · rename_i e l hb
    refine ok e l ?_ hx
    rcases hk' b with e1 | ⟨_,e1⟩ | ⟨_,_,e1,_⟩
    · exact e1.trans hb
    · unfold live at e1; rw [hb] at e1; exact e1.elim
    · rw [hb] at e1; cases e1
  · cases hx
 | _=>cases hx
theorem KF (h:Inv P S w0 M0 s0 dq env a w μ) {bx ai:Bx S.C} (hk:Tk S env.bx bx) (hk':Tk S bx ai): ∀ (ts:List Ty) (hts:ts.all (fun t=> !bq t)=true) {vs:List (V S.C)} {cs:List Value} {x:aq S.C ts},
 (∀ V ∈ vs.take ts.length, ∀ b e (l:List (e.den S.C)),V= .aQ b→bx b=some (.arr e l)→ai b=some (.bM e l))→
 aH P S w (aG S w0 M0 s0 env.bx μ w) μ env.bx vs cs→gR S bx ts vs=some x→
 ∃ n,bF S (fun t x cs=>aC S w (cE S w0 M0 s0 env.bx ai μ w) n t x cs) ts x (cs.take ts.length)
 | [],_,_,cs,_,_,_,_=>⟨0,by simp [bF]⟩
 | t::ts,hts,[],_,_,_,_,hx=>by simp [gR] at hx
 | t::ts,hts,V::vs,cs,x,hf,⟨c,r,hcs,hv,hr⟩,hx=>by
  simp only [List.all_cons,Bool.and_eq_true,Bool.not_eq_true'] at hts
  simp only [gR] at hx
  obtain ⟨y,hy,hx⟩:=Option.bind_eq_some_iff.1 hx
  obtain ⟨z,hz,hx⟩:=Option.bind_eq_some_iff.1 hx
  cases hx
  obtain ⟨n,hn⟩:=Bo h hk hk' hts.1 (hf V (by simp)) hv hy
  obtain ⟨m,hm⟩:=KF h hk hk' ts hts.2 (fun V hV=>hf V (by simp [hV])) hr hz
  refine ⟨max n m,c,r.take ts.length,by simp [hcs], ?_, ?_⟩
  · rw [show aq.head (aq.cons y z)=y from by cases ts <;> rfl]
    exact hn.up S (by omega)
  · rw [show aq.tail (aq.cons y z)=z from by cases ts <;> rfl]
    exact bF.mono S (fun t x cs hr=>hr.up S (by omega)) _ _ _ hm
theorem C0 (hS:cT S) (h:Inv P S w0 M0 s0 dq env a w μ) {bx ai:Bx S.C} (hk:Tk S env.bx bx) (hk':Tk S bx ai) {t:Ty} {vs:List (V S.C)} {cs:List Value} {x:t.den S.C}
 (hf: ∀ V ∈ vs.take (Ty.sz S t), ∀ b e (l:List (e.den S.C)),V= .aQ b→bx b=some (.arr e l)→ai b=some (.bM e l))
 (hv:aH P S w (aG S w0 M0 s0 env.bx μ w) μ env.bx vs cs) (hx:h_ S bx t vs=some x):
 ∃ n,aC S w (cE S w0 M0 s0 env.bx ai μ w) n t x (cs.take (Ty.sz S t)):=by
 have one:bq t=false→Ty.sz S t=1→(∃ V r,vs=V::r∧cU S bx t V=some x)→ ∃ n,aC S w (cE S w0 M0 s0 env.bx ai μ w) n t x (cs.take (Ty.sz S t)):=by
  rintro ht h1 ⟨V,vs',rfl,hx1⟩
  rw [h1]
  rw [h1] at hf
  obtain ⟨c,r,hcs,hv,hr⟩:=hv
  subst hcs
  exact Bo h hk hk' ht (hf V (by simp)) hv hx1
 cases t with
 | st u=>
  simp only [h_] at hx
  obtain ⟨y,hy,hx⟩:=Option.bind_eq_some_iff.1 hx
  cases hx
  obtain ⟨n,hn⟩:=KF h hk hk' (S.F u) (hS.flat u) hf hv hy
  refine ⟨n+1, ?_⟩
  show bF S _ (S.F u) (S.ex u (S.im u y)) _
  rw [hS.sQ]
  exact hn
 | int k=>exact one rfl rfl (by cases vs with | nil=>cases hx | cons V r=>exact ⟨V,r,rfl,hx⟩)
 | bool=>exact one rfl rfl (by cases vs with | nil=>cases hx | cons V r=>exact ⟨V,r,rfl,hx⟩)
 | str=>exact one rfl rfl (by cases vs with | nil=>cases hx | cons V r=>exact ⟨V,r,rfl,hx⟩)
 | pt=>exact one rfl rfl (by cases vs with | nil=>cases hx | cons V r=>exact ⟨V,r,rfl,hx⟩)
 | sl e=>exact one rfl rfl (by cases vs with | nil=>cases hx | cons V r=>exact ⟨V,r,rfl,hx⟩)
theorem B6 (bx fM:Bx S.C): ∀ (vs:List (V S.C)) (V:V S.C) (b:Nat) (e:Ty) (l:List (e.den S.C)),V ∈ vs→V= .aQ b→bx b=some (.arr e l)→
 (∀ i,fM i=bx i∨ ∃ e l,bx i=some (.arr e l)∧fM i=some (.bM e l))→av fM (vs.flatMap (cN S bx)) b=some (.bM e l)
 | [],_,_,_,_,h,_,_,_=>by simp at h
 | W::vs,V,b,e,l,h,hV,hb,h0=>by
  simp only [List.flatMap_cons,ja]
  obtain ⟨h1,_⟩:=GG bx fM h0 W
  rcases List.mem_cons.1 h with rfl | h
  · subst hV
    have e1:av fM (cN S bx (.aQ b)) b=some (.bM e l):=by
     simp only [Sy.cN,hb]
     exact aR _ _ _
    have :=(vA bx vs _ h1).1 b
    rcases this with e2 | ⟨e',l',e2,e3⟩
    · exfalso
      have :=(vA bx vs _ h1).2 b
      rw [e2,e1,hb] at this
      rcases this with h | ⟨h,_⟩ | ⟨_,_,h,_⟩ <;> cases h
    · rw [hb] at e2; cases e2; exact e3
  · exact B6 bx _ vs V b e l h hV hb h1
theorem yd (hS:cT S) (h:Inv P S w0 M0 s0 dq env a w μ) {bx:Bx S.C} (hk:Tk S env.bx bx) {t:Ty} {V:V S.C} {v:Value} {x:t.den S.C}
 (hv:RV P S w (aG S w0 M0 s0 env.bx μ w) μ env.bx V v) (hx:datum S bx t V=some x):
 Tk S bx (av bx (dh S bx V))∧cA S w (cE S w0 M0 s0 env.bx (av bx (dh S bx V)) μ w) t x v:=by
 have hl:=ng S w0 M0 s0 env.bx (av bx (dh S bx V)) μ w
 have one: ∀ (W:Sy.V S.C),V=W→dh S bx V=cN S bx W→bI P S w (aG S w0 M0 s0 env.bx μ w) μ env.bx W v→bq t=false→cU S bx t W=some x→
  Tk S bx (av bx (dh S bx V))∧cA S w (cE S w0 M0 s0 env.bx (av bx (dh S bx V)) μ w) t x v:=by
  intro W hW hfr hv ht hx
  have htk:Tk S bx (av bx (dh S bx V)):=by rw [hfr]; exact Tk.cN bx W
  refine ⟨htk, ?_⟩
  obtain ⟨n,hn⟩:=Bo h hk htk ht (fun b e l hm hb=>by
   rw [hfr]
   subst hm
   simp only [Sy.cN,hb]
   exact aR _ _ _) hv hx
  refine ⟨?_,n, ?_⟩
  · rw [ht]
    cases n with
    | zero=>exact hn.elim
    | succ n=>cases t with
     | int k=>simp [aC] at hn; subst hn; rfl
     | bool=>simp [aC] at hn; subst hn; rfl
     | str=>simp [aC] at hn; subst hn; rfl
     | pt=>simp [aC] at hn; subst hn; rfl
     | sl e=>obtain ⟨a,cap,h1,_⟩:=hn; simp at h1; subst h1; rfl
     | st u=>simp [bq] at ht
  · have :v.cells.toList= [v]:=by
     cases n with
     | zero=>exact hn.elim
     | succ n=>cases t with
      | int k=>simp [aC] at hn; subst hn; rfl
      | bool=>simp [aC] at hn; subst hn; rfl
      | str=>simp [aC] at hn; subst hn; rfl
      | pt=>simp [aC] at hn; subst hn; rfl
      | sl e=>obtain ⟨a,cap,h1,_⟩:=hn; simp at h1; subst h1; rfl
      | st u=>simp [bq] at ht
    rw [this]; exact hn
 cases V with
 | agg u vs=>
  obtain ⟨cs,rfl,hlen,_,hvs⟩:=hv
  cases t with
  | st u'=>
   simp only [datum] at hx
   split at hx
   · rename_i e
     subst e
     have hfz:=vA (S:=S) bx vs bx (fun i=> .inl rfl)
     obtain ⟨n,hn⟩:=C0 hS h hk hfz.2 (t:= .st u) (vs:=vs) (fun V hV b e l hm hb=>B6 bx bx vs V b e l (List.mem_of_mem_take hV) hm hb (fun i=> .inl rfl)) hvs hx
     have hcl:=aH.length P S hvs
     refine ⟨hfz.2,rfl,n, ?_⟩
     rw [show Ty.sz S (.st u)=cs.toList.length from by show (S.F u).length=_; rw [hcl,hlen]] at hn
     rw [List.take_length] at hn
     exact hn
   · cases hx
  | _=>cases hx
 | d u y=>
  cases t with
  | st u'=>
   obtain ⟨rfl,rfl⟩:=ew (show eF S u (.st u') y=some x from hx)
   exact ⟨Tk.refl S bx,cA.mono S hl hv⟩
  | int k=>exact one _ rfl rfl hv rfl hx
  | bool=>exact one _ rfl rfl hv rfl hx
  | str=>exact one _ rfl rfl hv rfl hx
  | pt=>exact one _ rfl rfl hv rfl hx
  | sl e=>exact one _ rfl rfl hv rfl hx
 | iy vs=>cases t <;> simp [datum,cU] at hx
 | fC f vs=>cases t <;> simp [datum,cU] at hx
 | undef=>cases t <;> simp [datum,cU] at hx
 | skip=>cases t <;> simp [datum,cU] at hx
 | pre b n=>cases t <;> simp [datum,cU] at hx
 | split b c=>cases t <;> simp [datum,cU] at hx
 | l8 c=>cases t <;> simp [datum,cU] at hx
 | win b i n=>cases t <;> simp [datum,cU] at hx
 | pr p i=>cases t with
  | st u'=>cases hx
  | _=>exact one _ rfl rfl hv rfl hx
 | aZ b e l=>cases t with
  | st u'=>cases hx
  | _=>exact one _ rfl rfl hv rfl hx
 | aQ b=>cases t with
  | st u'=>cases hx
  | _=>exact one _ rfl rfl hv rfl hx
 | ptr b o=>cases t <;> simp [datum,cU] at hx
 | cF b n=>cases t <;> simp [datum,cU] at hx
 | err b=>cases t <;> simp [datum,cU] at hx
 | eY b i o=>cases t <;> simp [datum,cU] at hx
 | dw t' y=>cases t <;> simp [datum,cU] at hx
 | nil=>cases t <;> simp [datum,cU] at hx
 | cI=>cases t with
  | st u'=>cases hx
  | _=>exact one _ rfl rfl hv rfl hx
 | fv a r g=>cases t <;> simp [datum,cU] at hx
end
end Go.Sy
namespace Go.Sy
section
variable {P:Program} {S:aS}
variable {w0:World} {M0 s0:St} {dq:List Deferred} {env:Env S.C} {a:Act} {w:World} {μ:Nat→Loc}
def cz (S:aS) (env:Env S.C) (μ:Nat→Loc) (bx ai:Bx S.C) (M:St):Prop:=
 ∀ b o,M b o→ ∃ i,live S env.bx i∧live S bx i∧ai i=some .dead∧(μ i).aF b o
theorem cz.none {bx ai:Bx S.C} {M:St} (h:gT M):cz S env μ bx ai M:=fun b o hm=>(h b o hm).elim
theorem oK {bx ai:Bx S.C} (h:Tk S bx ai) {i:Nat} (hd:bx i=some .dead):ai i=some .dead:=by
 rcases h i with e | ⟨e,_⟩ | ⟨e,l,e1,_⟩
 · exact e.trans hd
 · exact e
 · rw [hd] at e1; cases e1
theorem cz.later {bx ai jj:Bx S.C} {M:St} (h:cz S env μ bx ai M) (hk:Tk S ai jj):cz S env μ bx jj M:=
 fun b o hm=>let ⟨i,h1,h2,h3,h4⟩:=h b o hm; ⟨i,h1,h2,oK hk h3,h4⟩
theorem cz.F4 {bx ai jj:Bx S.C} {M:St} (h:cz S env μ ai jj M) (hk:Tk S bx ai):cz S env μ bx jj M:=
 fun b o hm=>let ⟨i,h1,h2,h3,h4⟩:=h b o hm; ⟨i,h1,(eA S (hk.dU h2)).1 h2,h3,h4⟩
theorem cz.apart (h:Inv P S w0 M0 s0 dq env a w μ) {bx ai jj:Bx S.C} {M M':St} (h1:cz S env μ bx ai M) (h2:cz S env μ ai jj M'): ∀ b o,M b o→M' b o→False:=by
 intro b o hm hm'
 obtain ⟨i,a1,a2,a3,a4⟩:=h1 b o hm
 obtain ⟨j,b1,b2,b3,b4⟩:=h2 b o hm'
 refine h.dr i j (fun e=> ?_) a1 b1 b o a4 b4
 subst e
 unfold live at b2
 rw [a3] at b2
 exact b2
theorem cz.union {bx ai jj:Bx S.C} {M M':St} (h1:cz S env μ bx ai M) (h2:cz S env μ ai jj M') (hk:Tk S bx ai) (hk':Tk S ai jj):cz S env μ bx jj (fun b o=>M b o∨M' b o):=
 fun b o hm=>hm.elim (h1.later hk' b o) (h2.F4 hk b o)
theorem Kl (hS:cT S) (h:Inv P S w0 M0 s0 dq env a w μ) {bx:Bx S.C} (hk:Tk S env.bx bx) {c:CK} {vs:List (V S.C)} {cs:List Value} {x:c.den S.C} {us:aI S.C}
 (hv:aH P S w (aG S w0 M0 s0 env.bx μ w) μ env.bx vs cs) (hx:dX S bx c vs=some (x,us)):
 Tk S bx (av bx us)∧ ∃ M,lC S w (cE S w0 M0 s0 env.bx (av bx us) μ w) M c x (cs.take (CK.sz S c))∧cz S env μ bx (av bx us) M∧(cs.take (CK.sz S c)).length=CK.sz S c:=by
 cases c with
 | data t=>
  simp only [dX] at hx
  obtain ⟨y,hy,hx⟩:=Option.bind_eq_some_iff.1 hx
  cases hx
  have hfz:=vA (S:=S) bx (vs.take (Ty.sz S t)) bx (fun i=> .inl rfl)
  obtain ⟨n,hn⟩:=C0 hS h hk hfz.2 (fun V hV b e l hm hb=>B6 bx bx _ V b e l hV hm hb (fun i=> .inl rfl)) hv hy
  exact ⟨hfz.2,fun _ _=>False,⟨fun _ _ h=>h,n,hn⟩,cz.none (fun _ _ h=>h),hn.length⟩
 | aZ e=>
  simp only [dX] at hx
  split at hx
  · rename_i b e' l r
    split at hx
    · rename_i hb
      obtain ⟨y,hy,hx⟩:=Option.bind_eq_some_iff.1 hx
      cases hx
      obtain ⟨he,rfl⟩:=ew hy
      cases he
      obtain ⟨c,r',rfl,hv1,gp⟩:=hv
      have hlb:live S bx b:=by unfold live; rw [hb]; trivial
      have hb0:env.bx b=some .tail:=(hk.dU hlb).symm.trans hb
      have htk:Tk S bx (av bx [(b, .dead)]):=Tk.uG hlb
      obtain ⟨a',cap,rfl,tn⟩:=hv1.2 hb0
      obtain ⟨_,n,hn⟩:=hv1.1
      refine ⟨htk,(μ b).aF,⟨a',cap,μ b,rfl,⟨n,hn.mono S (ng S w0 M0 s0 env.bx _ μ w) (Nat.le_refl _)⟩,tn,h.cg b _ hb0,fun _ _=>Iff.rfl⟩,fun b' o hm=>⟨b,(eA S (hk.dU hlb)).1 hlb,hlb,aR _ _ _,hm⟩,rfl⟩
    · cases hx
  · rename_i r
    cases hx
    obtain ⟨c,r',rfl,hv1,gp⟩:=hv
    cases hv1
    exact ⟨Tk.refl S bx,fun _ _=>False,⟨none,0,⟨0,0,0,0,true⟩,rfl,⟨1,none,0,rfl,Nat.le_refl _, .inl rfl⟩, .inl ⟨rfl,rfl,rfl⟩,fun j hj=>absurd hj (Nat.not_lt_zero j),fun b o=>⟨fun h=>h.elim,fun h=>by have h1:=h.2.1; have h2:=h.2.2; simp at h2⟩⟩,cz.none (fun _ _ h=>h),rfl⟩
  · cases hx
 | aQ e=>
  simp only [dX] at hx
  split at hx
  · rename_i b r
    split at hx
    · rename_i e' l hb
      obtain ⟨y,hy,hx⟩:=Option.bind_eq_some_iff.1 hx
      cases hx
      obtain ⟨he,rfl⟩:=ew hy
      cases he
      obtain ⟨c,r',rfl,hv1,gp⟩:=hv
      have hlb:live S bx b:=by unfold live; rw [hb]; trivial
      have hb0:env.bx b=some (.arr e l):=(hk.dU hlb).symm.trans hb
      have htk:Tk S bx (av bx [(b, .dead)]):=Tk.uG hlb
      obtain ⟨a',cap,rfl,hao⟩:=hv1.2 e l (.inl hb0)
      obtain ⟨g1,g2,g3,g4,g5⟩:=h.cg b _ hb0
      refine ⟨htk,(μ b).aF,⟨a',cap,μ b,rfl,hao,g4,fun _ _=>Iff.rfl,fun i z hi=> ?_⟩,fun b' o hm=>⟨b,(eA S (hk.dU hlb)).1 hlb,hlb,aR _ _ _,hm⟩,rfl⟩
      obtain ⟨ds,d1,d2,n,d3⟩:=g5 i z hi
      exact ⟨ds,d1,d2,n,d3.mono S (ng S w0 M0 s0 env.bx _ μ w) (Nat.le_refl _)⟩
    · cases hx
  · rename_i b n r
    split at hx
    · rename_i e' l hb
      obtain ⟨y,hy,hx⟩:=Option.bind_eq_some_iff.1 hx
      cases hx
      obtain ⟨he,rfl⟩:=ew hy
      cases he
      obtain ⟨c,r',rfl,hv1,gp⟩:=hv
      have hlb:live S bx b:=by unfold live; rw [hb]; trivial
      have hb0:env.bx b=some (.arr e l):=(hk.dU hlb).symm.trans hb
      have htk:Tk S bx (av bx [(b, .dead)]):=Tk.uG hlb
      obtain ⟨hn0,hnl,a',cap,rfl,hao⟩:=hv1.2 e l hb0
      obtain ⟨g1,g2,g3,g4,g5⟩:=h.cg b _ hb0
      have hlen:(List.take n.toNat l).length=n.toNat:=by rw [List.length_take]; omega
      refine ⟨htk,(μ b).aF,⟨a',cap,μ b, ?_, ?_,g4,fun _ _=>Iff.rfl,fun i z hi=> ?_⟩,fun b' o hm=>⟨b,(eA S (hk.dU hlb)).1 hlb,hlb,aR _ _ _,hm⟩,rfl⟩
      · show [_]= [_]
        rw [hlen]
      · rw [hlen]; exact hao
      · have hi':l[i]? =some z:=by
         rw [List.getElem?_take] at hi
         split at hi
         · exact hi
         · cases hi
        obtain ⟨ds,d1,d2,n,d3⟩:=g5 i z hi'
        exact ⟨ds,d1,d2,n,d3.mono S (ng S w0 M0 s0 env.bx _ μ w) (Nat.le_refl _)⟩
    · cases hx
  · rename_i r
    cases hx
    obtain ⟨c,r',rfl,hv1,gp⟩:=hv
    cases hv1
    exact ⟨Tk.refl S bx,fun _ _=>False,⟨none,0,⟨0,0,0,0,true⟩,rfl,⟨rfl,rfl,by simp,fun _=>rfl,Nat.le_refl _⟩,fun j hj=>absurd hj (Nat.not_lt_zero j),fun b o=>⟨fun h=>h.elim,fun h=>by have h1:=h.2.1; have h2:=h.2.2; simp at h2⟩,fun i x hi=>by simp at hi⟩,cz.none (fun _ _ h=>h),rfl⟩
  · cases hx
theorem Km (hS:cT S) (h:Inv P S w0 M0 s0 dq env a w μ): ∀ (ps:List CK) {bx:Bx S.C} (hk:Tk S env.bx bx) {vs:List (V S.C)} {cs:List Value} {x:bH S.C ps} {us:aI S.C},
 aH P S w (aG S w0 M0 s0 env.bx μ w) μ env.bx vs cs→dN S bx ps vs=some (x,us)→
 Tk S bx (av bx us)∧ ∃ M,gS S w (cE S w0 M0 s0 env.bx (av bx us) μ w) M ps x (cs.take (CK.cD S ps))∧cz S env μ bx (av bx us) M∧(cs.take (CK.cD S ps)).length=CK.cD S ps
 | [],bx,hk,vs,cs,x,us,hv,hx=>by
  cases hx
  exact ⟨Tk.refl S bx,fun _ _=>False,⟨fun _ _ h=>h,by simp [CK.cD]⟩,cz.none (fun _ _ h=>h),by simp [CK.cD]⟩
 | c::ps,bx,hk,vs,cs,x,us,hv,hx=>by
  simp only [dN] at hx
  obtain ⟨⟨y,u1⟩,hy,hx⟩:=Option.bind_eq_some_iff.1 hx
  obtain ⟨⟨z,u2⟩,hz,hx⟩:=Option.bind_eq_some_iff.1 hx
  cases hx
  obtain ⟨k1,M1,r1,f1,n1⟩:=Kl hS h hk hv hy
  obtain ⟨k2,M2,r2,f2,n2⟩:=Km hS h ps (hk.trans S k1) (hv.drop P S (CK.sz S c)) hz
  dsimp only at *
  rw [ja]
  refine ⟨k1.trans S k2,fun b o=>M1 b o∨M2 b o,⟨M1,M2,cs.take (CK.sz S c),(cs.drop (CK.sz S c)).take (CK.cD S ps),⟨fun _ _=>Iff.rfl,cz.apart h f1 f2⟩, ?_,n1, ?_, ?_⟩,cz.union f1 f2 k1 k2, ?_⟩
  · rw [CK.cD,List.take_add]
  · rw [show bH.head (bH.cons y z)=y from by cases ps <;> rfl]
    exact r1.mono S (uB S k2)
  · rw [show bH.tail (bH.cons y z)=z from by cases ps <;> rfl]
    exact r2
  · rw [CK.cD,List.take_add,List.length_append,n1,n2]
theorem nh {w:World} {b o n o' n':Nat} (h:w.there b o n) (h1:o≤o') (h2:o'+n'≤o+n):w.there b o' n':=fun j hj=>by
 have :=h (o' - o+j) (by omega)
 rw [show o+(o' - o+j)=o'+j from by omega] at this
 exact this
theorem I5 {w:World} {b o:Nat} {cs:List Value} (h:w.rangeAt b o cs) (k:Nat):w.rangeAt b (o+k) (cs.drop k):=fun j v hj=>by
 rw [Nat.add_assoc]
 exact h (k+j) v (by simpa using hj)
theorem I8 {w:World} {b o:Nat} {cs:List Value} (h:w.rangeAt b o cs) (k:Nat):w.rangeAt b o (cs.take k):=fun j v hj=>by
 rw [List.getElem?_take] at hj
 split at hj
 · exact h j v hj
 · cases hj
theorem Dt (hS:cT S) (h:Inv P S w0 M0 s0 dq env a w μ) {bx:Bx S.C} (hk:Tk S env.bx bx) {b off:Nat} {ws:List (V S.C)} (hb:bx b=some (.cells ws)) {ps:List CK} {x:bH S.C ps} {us:aI S.C} {v:Value}
 (hv:bI P S w (aG S w0 M0 s0 env.bx μ w) μ env.bx (.ptr b off) v) (hx:dN S (au bx b (some .dead)) ps (ws.drop off)=some (x,us)):
 Tk S bx (av bx ((b, .dead)::us))∧ ∃ M,eo S w (cE S w0 M0 s0 env.bx (av bx ((b, .dead)::us)) μ w) M ps x v∧cz S env μ bx (av bx ((b, .dead)::us)) M:=by
 have hlb:live S bx b:=by unfold live; rw [hb]; trivial
 have hb0:env.bx b=some (.cells ws):=(hk.dU hlb).symm.trans hb
 have hl0:live S env.bx b:=(eA S (hk.dU hlb)).1 hlb
 have k1:Tk S bx (au bx b (some .dead)):=Tk.uG hlb
 obtain ⟨g1,g2,g3,cs,g4,g5⟩:=h.cg b _ hb0
 obtain ⟨k2,M2,r2,f2,n2⟩:=Km hS h ps (hk.trans S k1) (g5.drop P S off) hx
 have vX:v=_:=hv
 subst vX
 have hlen:=aH.length P S g5
 have hsz:off+CK.cD S ps≤cs.length∨CK.cD S ps=0:=by
  rw [List.length_take,List.length_drop] at n2
  omega
 refine ⟨k1.trans S k2,fun b' o'=>(b'=(μ b).b∧(μ b).o+off≤o'∧o'<(μ b).o+off+((cs.drop off).take (CK.cD S ps)).length)∨M2 b' o',⟨_,_,(cs.drop off).take (CK.cD S ps),M2,rfl, ?_,I8 (I5 g4 off) _,⟨fun _ _=>Iff.rfl, ?_⟩,r2⟩, ?_⟩
 · rcases hsz with hsz | hsz
   · exact nh g3 (by omega) (by rw [n2]; omega)
   · intro j hj; rw [n2,hsz] at hj; exact absurd hj (Nat.not_lt_zero _)
 · rintro b' o' ⟨rfl,h1,h2⟩ hm
   obtain ⟨i,a1,a2,a3,a4⟩:=f2 _ _ hm
   refine h.dr b i (fun e=> ?_) hl0 a1 _ _ ⟨rfl,by omega, ?_⟩ a4
   · subst e
     unfold live at a2
     rw [aR] at a2
     exact a2
   · rw [n2] at h2
     rcases hsz with hsz | hsz <;> omega
 · rintro b' o' (⟨rfl,h1,h2⟩ | hm)
   · refine ⟨b,hl0,hlb,oK k2 (aR _ _ _),rfl,by omega, ?_⟩
     rw [n2] at h2
     rcases hsz with hsz | hsz <;> omega
   · exact f2.F4 k1 _ _ hm
theorem FK (hS:cT S) (h:Inv P S w0 M0 s0 dq env a w μ) {bx:Bx S.C} (hk:Tk S env.bx bx) {t:Ty} {V:V S.C} {v:Value} {x:t.den S.C}
 (hv:bI P S w (aG S w0 M0 s0 env.bx μ w) μ env.bx V v) (hx:mH S bx t V=some x):mD S w (cE S w0 M0 s0 env.bx bx μ w) t x v:=by
 have hl:=ng S w0 M0 s0 env.bx bx μ w
 cases V with
 | ptr b off=>
  cases off with
  | succ n=>cases hx
  | zero=>
   simp only [mH] at hx
   split at hx
   · rename_i ws hb
     have hb0:env.bx b=some (.bW ws):=by
      rcases hk b with e | ⟨e,_⟩ | ⟨e,l,_,e1⟩
      · exact e.symm.trans hb
      · rw [hb] at e; cases e
      · rw [hb] at e1; cases e1
     obtain ⟨g1,cs,g2,g3⟩:=h.cg b _ hb0
     have vX:v=_:=hv
     subst vX
     cases hnm:ws.all (IB S) with
     | false=>rw [hnm] at hx; cases hx
     | true=>
     rw [hnm] at hx
     obtain ⟨n,hn⟩:=C0 hS h hk (Tk.refl S bx) (t:=t) (vs:=ws) (fun V hV b' e l hm hb'=>by
      have :=(List.all_eq_true.1 hnm) V (List.mem_of_mem_take hV)
      subst hm
      cases this) g3 hx
     refine ⟨_,_,cs.take (Ty.sz S t),rfl,fun j u hj=> ?_,hn.length,n,hn⟩
     rw [List.getElem?_take] at hj
     split at hj
     · have :=(g2.later hl) j u hj
       simpa using this
     · cases hj
   · cases hx
 | dw u y=>
  obtain ⟨rfl,rfl⟩:=ew (show eF S u t y=some x from hx)
  exact mD.mono S hl hv
 | _=>cases hx
theorem Bw (hS:cT S) (h:Inv P S w0 M0 s0 dq env a w μ) {bx:Bx S.C} (hk:Tk S env.bx bx): ∀ (ts:List Ty) {vs:List (V S.C)} {cs:List Value} {x:aq S.C ts},
 aH P S w (aG S w0 M0 s0 env.bx μ w) μ env.bx vs cs→caps S bx ts vs=some x→gz S w (cE S w0 M0 s0 env.bx bx μ w) ts x cs
 | [],[],cs,x,hv,_=>hv
 | [],_::_,_,_,_,hx=>by cases hx
 | _::_,[],_,_,_,hx=>by cases hx
 | t::ts,V::vs,cs,x,⟨c,r,hcs,h1,h2⟩,hx=>by
  simp only [caps] at hx
  obtain ⟨y,hy,hx⟩:=Option.bind_eq_some_iff.1 hx
  obtain ⟨z,hz,hx⟩:=Option.bind_eq_some_iff.1 hx
  cases hx
  refine ⟨c,r,hcs, ?_, ?_⟩
  · rw [show aq.head (aq.cons y z)=y from by cases ts <;> rfl]
    exact FK hS h hk h1 hy
  · rw [show aq.tail (aq.cons y z)=z from by cases ts <;> rfl]
    exact Bw hS h hk ts h2 hz
theorem OC (hS:cT S) (h:Inv P S w0 M0 s0 dq env a w μ) {bx:Bx S.C} (hk:Tk S env.bx bx) {fs:List (gA S)} (nK: ∀ e ∈ fs,fq P S e) {A R:List Ty} {V:V S.C} {v:Value} {g:aq S.C A→Option (aq S.C R)}
 (hv:RV P S w (aG S w0 M0 s0 env.bx μ w) μ env.bx V v) (hx:qt S fs bx A R V=some g):mB P S w (cE S w0 M0 s0 env.bx bx μ w) A R g v:=by
 have hl:=ng S w0 M0 s0 env.bx bx μ w
 cases V with
 | fv A' R' g'=>
  simp only [qt] at hx
  split at hx
  · rename_i e1
    split at hx
    · rename_i e2
      subst e1 e2
      cases hx
      exact mB.mono P S hl hv
    · cases hx
  · cases hx
 | fC f vs=>
  obtain ⟨cs,rfl,hvs⟩:=hv
  simp only [qt] at hx
  obtain ⟨e,he,hx1⟩:=List.exists_of_findSome?_eq_some hx
  clear hx
  split at hx1
  · rename_i ef
    split at hx1
    · rename_i e1
      split at hx1
      · rename_i e2
        obtain ⟨y,hy,hx2⟩:=Option.bind_eq_some_iff.1 hx1
        clear hx1
        obtain ⟨f',A',c',R',sp⟩:=e
        dsimp only at *
        subst ef e1 e2
        have hx3:=Option.some.inj hx2
        subst hx3
        have oR:=Bw hS h hk _ hvs hy
        refine ⟨f', #[],cs,rfl,(nK _ he).1,fun w1 s1 cx B_ x args z hargs hg=> ?_⟩
        have :=(nK _ he).2 w1 s1 x y z args cs.toList B_ hargs (gz.mono cx _ _ _ oR) hg
        rw [show #[]++args.toArray++cs=(args++cs.toList).toArray from by simp]
        exact this
      · cases hx1
    · cases hx1
  · cases hx1
 | _=>cases hx
theorem Ku (hS:cT S) (h:Inv P S w0 M0 s0 dq env a w μ) {bx:Bx S.C} (hk:Tk S env.bx bx) {ps:List CK} {b:Nat} {x:bH S.C ps} {us:aI S.C} (hx:f_ S bx ps b=some (x,us)):
 Tk S bx (av bx us)∧ ∃ M,eo S w (cE S w0 M0 s0 env.bx (av bx us) μ w) M ps x (.pointer (some ⟨(μ b).b,(μ b).o,none⟩))∧cz S env μ bx (av bx us) M:=by
 unfold f_ at hx
 split at hx
 · rename_i ws hb
   cases hw:Nat.beq ws.length (CK.cD S ps) with
   | false=>rw [hw] at hx; cases hx
   | true=>
    rw [hw,cond_true] at hx
    obtain ⟨⟨y,u'⟩,hy,hx⟩:=Option.bind_eq_some_iff.1 hx
    cases hx
    exact Dt hS h hk hb (show bI P S w (aG S w0 M0 s0 env.bx μ w) μ env.bx (.ptr b 0) _ from rfl) hy
 · cases hx
theorem Vm (hS:cT S) (h:Inv P S w0 M0 s0 dq env a w μ) {bx:Bx S.C} (hk:Tk S env.bx bx) {fs:List (gA S)} (nK: ∀ e ∈ fs,fq P S e) {k:K} {V:V S.C} {v:Value} {x:k.den S.C} {us:aI S.C}
 (hv:RV P S w (aG S w0 M0 s0 env.bx μ w) μ env.bx V v) (hx:cv S fs bx k V=some (x,us)):
 Tk S bx (av bx us)∧ ∃ M,mC P S w (cE S w0 M0 s0 env.bx (av bx us) μ w) M k x v∧cz S env μ bx (av bx us) M:=by
 have ck: ∀ (c:CK),(∀ t,c≠ .data t)→CK.sz S c=1→ ∀ (y:c.den S.C),dX S bx c [V]=some (y,us)→Tk S bx (av bx us)∧ ∃ M,(lC S w (cE S w0 M0 s0 env.bx (av bx us) μ w) M c y v.cells.toList∧isAgg v=false)∧cz S env μ bx (av bx us) M:=by
  intro c hc h1 y hy
  have hv1:bI P S w (aG S w0 M0 s0 env.bx μ w) μ env.bx V v:=by
   cases V with
   | agg u ws=>cases c <;> first | exact absurd rfl (hc _) | cases hy
   | iy ws=>cases c <;> first | exact absurd rfl (hc _) | cases hy
   | fC f ws=>cases c <;> first | exact absurd rfl (hc _) | cases hy
   | _=>exact hv
  obtain ⟨k1,M,r1,f1,n1⟩:=Kl hS h hk (vs:= [V]) (cs:= [v]) ⟨v,[],rfl,hv1,rfl⟩ hy
  rw [h1] at r1
  have hag:isAgg v=false:=by
   cases c with
   | data t=>exact absurd rfl (hc t)
   | aZ e=>obtain ⟨a',cap,L,he,_⟩:=r1; simp at he; subst he; rfl
   | aQ e=>obtain ⟨a',cap,L,he,_⟩:=r1; simp at he; subst he; rfl
  refine ⟨k1,M,⟨?_,hag⟩,f1⟩
  rw [aC.lK (t:= .bool) (by rw [hag]; rfl) rfl]
  exact r1
 have obj: ∀ (ps:List CK) (b off:Nat) (ws:List (Sy.V S.C)) (y:bH S.C ps) (us':aI S.C),V= .ptr b off→bx b=some (.cells ws)→dN S (au bx b (some .dead)) ps (ws.drop off)=some (y,us')→us=(b, .dead)::us'→
  Tk S bx (av bx us)∧ ∃ M,eo S w (cE S w0 M0 s0 env.bx (av bx us) μ w) M ps y v∧cz S env μ bx (av bx us) M:=by
  intro ps b off ws y us' hV hb hy hu
  subst hV hu
  exact Dt hS h hk hb hv hy
 cases k with
 | val c=>
  cases c with
  | data t=>
   simp only [cv] at hx
   obtain ⟨y,hy,hx⟩:=Option.bind_eq_some_iff.1 hx
   cases hx
   obtain ⟨k1,r1⟩:=yd hS h hk hv hy
   exact ⟨k1,fun _ _=>False,⟨⟨fun _ _ h=>h,r1.2⟩,r1.1⟩,cz.none (fun _ _ h=>h)⟩
  | aZ e=>exact ck (.aZ e) (by simp) rfl x hx
  | aQ e=>exact ck (.aQ e) (by simp) rfl x hx
 | obj ps=>
  simp only [cv] at hx
  split at hx
  · split at hx
    · rename_i b off _ ws hb
      cases hw:Nat.beq off 0&&Nat.beq ws.length (CK.cD S ps) with
      | false=>rw [hw] at hx; cases hx
      | true=>
       rw [hw,cond_true] at hx
       obtain ⟨⟨y,u'⟩,hy,hx⟩:=Option.bind_eq_some_iff.1 hx
       cases hx
       exact obj ps _ _ _ _ _ rfl hb hy rfl
    · cases hx
  · cases hx
 | opt ps=>
  simp only [cv] at hx
  split at hx
  · cases hx
    exact ⟨Tk.refl S bx,fun _ _=>False,⟨fun _ _ h=>h,hv⟩,cz.none (fun _ _ h=>h)⟩
  · split at hx
    · rename_i b off _ ws hb
      cases hw:Nat.beq off 0&&Nat.beq ws.length (CK.cD S ps) with
      | false=>rw [hw] at hx; cases hx
      | true=>
       rw [hw,cond_true] at hx
       obtain ⟨⟨y,u'⟩,hy,hx⟩:=Option.bind_eq_some_iff.1 hx
       cases hx
       exact obj ps _ _ _ _ _ rfl hb hy rfl
    · cases hx
  · cases hx
 | cF ps=>
  simp only [cv] at hx
  split at hx
  · split at hx
    · rename_i b n _ ws hb
      cases hw:Nat.beq n ws.length&&Nat.beq ws.length (CK.cD S ps) with
      | false=>rw [hw] at hx; cases hx
      | true=>
       rw [hw,cond_true] at hx
       rw [Bool.and_eq_true] at hw
       have w1:=Nat.eq_of_beq_eq_true hw.1
       have w2:=Nat.eq_of_beq_eq_true hw.2
       obtain ⟨⟨y,u'⟩,hy,hx⟩:=Option.bind_eq_some_iff.1 hx
       cases hx
       have hv:v= .slice (some ⟨(μ b).b,(μ b).o,none⟩) n n:=hv
       obtain ⟨k1,M,r1,f1⟩:=Dt hS h hk (v:= .pointer (some ⟨(μ b).b,(μ b).o,none⟩)) hb (show bI P S w (aG S w0 M0 s0 env.bx μ w) μ env.bx (.ptr b 0) _ from rfl) hy
       exact ⟨k1,M,⟨_,by rw [hv,w1,w2],r1⟩,f1⟩
    · cases hx
  · cases hx
 | err=>
  simp only [cv] at hx
  split at hx
  · cases hx
    exact ⟨Tk.refl S bx,fun _ _=>False,⟨fun _ _ h=>h,hv⟩,cz.none (fun _ _ h=>h)⟩
  · cases hx
 | aX=>
  simp only [cv] at hx
  split at hx
  · split at hx
    · split at hx
      · rename_i b off _ j hb _ l hj
        cases hw:Nat.beq off 0 with
        | false=>rw [hw] at hx; cases hx
        | true=>
         rw [hw] at hx
         cases hx
         have ho:=Nat.eq_of_beq_eq_true hw
         subst ho
         have hne:j≠b:=fun e=>by subst e; rw [hb] at hj; cases hj
         have lb:live S bx b:=by unfold live; rw [hb]; trivial
         have lj:live S bx j:=by unfold live; rw [hj]; trivial
         have hb0:env.bx b=some (.aX j):=(hk.dU lb).symm.trans hb
         have hj0:env.bx j=some (.buf x):=(hk.dU lj).symm.trans hj
         have Ic:live S env.bx b:=(eA S (hk.dU lb)).1 lb
         have Ir:live S env.bx j:=(eA S (hk.dU lj)).1 lj
         obtain ⟨g1,g2,g3,u,g4,g5⟩:=h.cg b _ hb0
         have gj:mA S w (μ j) x:=h.cg j _ hj0
         have hv:v= .pointer (some ⟨(μ b).b,(μ b).o+0,none⟩):=hv
         have k1:Tk S bx (au bx b (some .dead)):=Tk.uG lb
         have RD:live S (au bx b (some .dead)) j:=by unfold live; rw [bg _ _ hne,hj]; trivial
         have k2:Tk S (au bx b (some .dead)) (au (au bx b (some .dead)) j (some .dead)):=Tk.uG RD
         have fb: ∀ b' o',(Loc.mk (μ b).b 0 2 0 false).aF b' o'→(μ b).aF b' o':=fun b' o' ⟨q1,q2,q3⟩=>⟨q1,by omega,by have :o'<0+2:=q3; omega⟩
         refine ⟨k1.trans S k2,fun b' o'=>(Loc.mk (μ b).b 0 2 0 false).aF b' o'∨(μ j).aF b' o',⟨(μ b).b,μ j,by rw [hv,g1],g5 _ hj0▸g4,gj,fun _ _=>Iff.rfl,fun b' o' q1 q2=>h.dr j b hne Ir Ic _ _ q2 (fb _ _ q1)⟩, ?_⟩
         rintro b' o' (q | q)
         · exact ⟨b,Ic,lb,(bg _ _ hne.symm).trans (aR _ _ _),fb _ _ q⟩
         · exact ⟨j,Ir,lj,aR _ _ _,q⟩
      · cases hx
    · cases hx
  · cases hx
 | nil=>
  simp only [cv] at hx
  split at hx
  · cases hx
    exact ⟨Tk.refl S bx,fun _ _=>False,⟨fun _ _ h=>h,hv⟩,cz.none (fun _ _ h=>h)⟩
  · cases hx
 | b_ t ps=>
  simp only [cv] at hx
  split at hx
  · rename_i b c
    obtain ⟨⟨y,u1⟩,hy,hx⟩:=Option.bind_eq_some_iff.1 hx
    obtain ⟨⟨z,u2⟩,hz,hx⟩:=Option.bind_eq_some_iff.1 hx
    cases hx
    obtain ⟨kb,q,e1,e2,e3,e4⟩:=hv
    obtain ⟨k1,M1,r1,f1⟩:=Ku hS h hk hy
    obtain ⟨k2,M2,r2,f2⟩:=Ku hS h (hk.trans S k1) hz
    dsimp only at *
    rw [ja]
    rw [e3,e4] at r2
    exact ⟨k1.trans S k2,fun b o=>M1 b o∨M2 b o,⟨kb,q,⟨(μ c).b,(μ c).o,none⟩,M1,M2,e1,e2.later (ng S _ _ _ _ _ _ _),⟨fun _ _=>Iff.rfl,cz.apart h f1 f2⟩,eo.mono S (uB S k2) r1,r2⟩,cz.union f1 f2 k1 k2⟩
  · cases hx
 | ro t=>
  simp only [cv] at hx
  obtain ⟨y,hy,hx⟩:=Option.bind_eq_some_iff.1 hx
  cases hx
  have hv1:bI P S w (aG S w0 M0 s0 env.bx μ w) μ env.bx V v:=by
   cases V <;> first | exact hv | cases hy
  exact ⟨Tk.refl S bx,fun _ _=>False,⟨fun _ _ h=>h,FK hS h hk hv1 hy⟩,cz.none (fun _ _ h=>h)⟩
 | fn A R=>
  simp only [cv] at hx
  obtain ⟨y,hy,hx⟩:=Option.bind_eq_some_iff.1 hx
  cases hx
  exact ⟨Tk.refl S bx,fun _ _=>False,⟨fun _ _ h=>h,OC hS h hk nK hv hy⟩,cz.none (fun _ _ h=>h)⟩
def fu (P:Program) (S:aS) (w:World) (s:St) (μ:Nat→Loc) (bx:Bx S.C):List (V S.C)→List Value→Prop
 | [],cs=>cs= []
 | v::vs,cs=> ∃ c r,cs=c::r∧RV P S w s μ bx v c∧fu P S w s μ bx vs r
theorem xu (hS:cT S) (h:Inv P S w0 M0 s0 dq env a w μ) {fs:List (gA S)} (nK: ∀ e ∈ fs,fq P S e): ∀ (ks:List K) {bx:Bx S.C} (hk:Tk S env.bx bx) {vs:List (V S.C)} {cs:List Value} {x:Ks S.C ks} {us:aI S.C},
 fu P S w (aG S w0 M0 s0 env.bx μ w) μ env.bx vs cs→eg S fs bx ks vs=some (x,us)→
 Tk S bx (av bx us)∧ ∃ M,cc P S w (cE S w0 M0 s0 env.bx (av bx us) μ w) M ks x cs∧cz S env μ bx (av bx us) M
 | [],bx,hk,[],cs,x,us,hv,hx=>by
  cases hx
  exact ⟨Tk.refl S bx,fun _ _=>False,⟨fun _ _ h=>h,hv⟩,cz.none (fun _ _ h=>h)⟩
 | [],_,_,_::_,_,_,_,_,hx=>by cases hx
 | _::_,_,_,[],_,_,_,_,hx=>by cases hx
 | k::ks,bx,hk,V::vs,cs,x,us,⟨c,r,hcs,hv1,gp⟩,hx=>by
  simp only [eg] at hx
  obtain ⟨⟨y,u1⟩,hy,hx⟩:=Option.bind_eq_some_iff.1 hx
  obtain ⟨⟨z,u2⟩,hz,hx⟩:=Option.bind_eq_some_iff.1 hx
  cases hx
  obtain ⟨k1,M1,r1,f1⟩:=Vm hS h hk nK hv1 hy
  obtain ⟨k2,M2,r2,f2⟩:=xu hS h nK ks (hk.trans S k1) gp hz
  dsimp only at *
  rw [ja]
  refine ⟨k1.trans S k2,fun b o=>M1 b o∨M2 b o,⟨M1,M2,c,r,⟨fun _ _=>Iff.rfl,cz.apart h f1 f2⟩,hcs, ?_, ?_⟩,cz.union f1 f2 k1 k2⟩
  · rw [show Ks.head (Ks.cons y z)=y from by cases ks <;> rfl]
    exact r1.mono P S (uB S k2)
  · rw [show Ks.tail (Ks.cons y z)=z from by cases ks <;> rfl]
    exact r2
end
end Go.Sy
namespace Go.Sy
theorem gU.left {M A B:St} (h:gU M A B) {b o:Nat} (ha:A b o):M b o:=(h.1 b o).2 (.inl ha)
theorem gU.right {M A B:St} (h:gU M A B) {b o:Nat} (ha:B b o):M b o:=(h.1 b o).2 (.inr ha)
section
variable {P:Program} {S:aS}
def Agree (us:aI S.C) (lam:Nat→Loc) (μ:Nat→Loc) (bx:Bx S.C):Prop:= ∀ u ∈ us,bx u.1=some u.2∧μ u.1=lam u.1
structure cn (P:Program) (S:aS) (w:World) (s:St) (I:Nat→Prop) (us:aI S.C) (lam:Nat→Loc) (M:St):Prop where
 fJ: ∀ u ∈ us,I u.1
 one: ∀ u ∈ us, ∀ u' ∈ us,u.1=u'.1→u=u'
 rb: ∀ μ bx,Agree us lam μ bx→ ∀ u ∈ us,RB P S w s μ bx (lam u.1) u.2
 lv: ∀ bx:Bx S.C, ∀ u ∈ us,bx u.1=some u.2→live S bx u.1
 aF: ∀ b o,M b o↔ ∃ u ∈ us,(lam u.1).aF b o
 dr: ∀ u ∈ us, ∀ u' ∈ us,u.1≠u'.1→ ∀ b o,(lam u.1).aF b o→(lam u'.1).aF b o→False
 ref: ∀ u ∈ us, ∀ vs,(u.2= .cells vs∨u.2= .bW vs)→ ∀ v ∈ vs, ∀ j ∈ az S v, ∃ u' ∈ us,u'.1=j
theorem cn.nil {w:World} {s:St} {I:Nat→Prop} {M:St} (h:gT M) (lam:Nat→Loc):cn P S w s I [] lam M:=
 ⟨by simp,by simp,by simp,by simp,fun b o=>⟨fun hm=>(h b o hm).elim,by simp⟩,by simp,by simp⟩
def both (us:aI S.C) (l1 l2:Nat→Loc):Nat→Loc:=fun i=>if i ∈ us.map (·.1) then l1 i else l2 i
theorem cn.both {w:World} {s:St} {I1 I2:Nat→Prop} {dF nj:aI S.C} {l1 l2:Nat→Loc} {M M1 M2:St} (h1:cn P S w s I1 dF l1 M1) (h2:cn P S w s I2 nj l2 M2)
 (hI: ∀ i,I1 i→I2 i→False) (hM:gU M M1 M2):cn P S w s (fun i=>I1 i∨I2 i) (dF++nj) (both dF l1 l2) M∧
  (∀ μ bx,Agree (dF++nj) (Sy.both dF l1 l2) μ bx→Agree dF l1 μ bx∧Agree nj l2 μ bx):=by
 have e1: ∀ u ∈ dF,Sy.both dF l1 l2 u.1=l1 u.1:=fun u hu=>if_pos (List.mem_map.2 ⟨u,hu,rfl⟩)
 have e2: ∀ u ∈ nj,Sy.both dF l1 l2 u.1=l2 u.1:=fun u hu=>if_neg fun hm=>by
  obtain ⟨u',aN,he⟩:=List.mem_map.1 hm
  exact hI u.1 (he▸h1.fJ u' aN) (h2.fJ u hu)
 have hag: ∀ μ bx,Agree (dF++nj) (Sy.both dF l1 l2) μ bx→Agree dF l1 μ bx∧Agree nj l2 μ bx:=fun μ bx h=>
  ⟨fun u hu=>⟨(h u (by simp [hu])).1,(h u (by simp [hu])).2.trans (e1 u hu)⟩,fun u hu=>⟨(h u (by simp [hu])).1,(h u (by simp [hu])).2.trans (e2 u hu)⟩⟩
 refine ⟨⟨?_, ?_, ?_, ?_, ?_, ?_, ?_⟩,hag⟩
 · intro u hu
   rcases List.mem_append.1 hu with hu | hu
   · exact .inl (h1.fJ u hu)
   · exact .inr (h2.fJ u hu)
 · intro u hu u' aN he
   rcases List.mem_append.1 hu with hu | hu <;> rcases List.mem_append.1 aN with aN | aN
   · exact h1.one u hu u' aN he
   · exact (hI u.1 (h1.fJ u hu) (he▸h2.fJ u' aN)).elim
   · exact (hI u'.1 (h1.fJ u' aN) (he▸h2.fJ u hu)).elim
   · exact h2.one u hu u' aN he
 · intro μ bx ha u hu
   rcases List.mem_append.1 hu with hu | hu
   · rw [e1 u hu]; exact h1.rb μ bx (hag μ bx ha).1 u hu
   · rw [e2 u hu]; exact h2.rb μ bx (hag μ bx ha).2 u hu
 · intro bx u hu hb
   rcases List.mem_append.1 hu with hu | hu
   · exact h1.lv bx u hu hb
   · exact h2.lv bx u hu hb
 · intro b o
   rw [hM.1 b o,h1.aF,h2.aF]
   constructor
   · rintro (⟨u,hu,hf⟩ | ⟨u,hu,hf⟩)
     · exact ⟨u,by simp [hu],by rw [e1 u hu]; exact hf⟩
     · exact ⟨u,by simp [hu],by rw [e2 u hu]; exact hf⟩
   · rintro ⟨u,hu,hf⟩
     rcases List.mem_append.1 hu with hu | hu
     · rw [e1 u hu] at hf; exact .inl ⟨u,hu,hf⟩
     · rw [e2 u hu] at hf; exact .inr ⟨u,hu,hf⟩
 · intro u hu u' aN hne b o hf hf'
   rcases List.mem_append.1 hu with hu | hu <;> rcases List.mem_append.1 aN with aN | aN
   · rw [e1 u hu] at hf; rw [e1 u' aN] at hf'
     exact h1.dr u hu u' aN hne b o hf hf'
   · rw [e1 u hu] at hf; rw [e2 u' aN] at hf'
     exact hM.2 b o ((h1.aF b o).2 ⟨u,hu,hf⟩) ((h2.aF b o).2 ⟨u',aN,hf'⟩)
   · rw [e2 u hu] at hf; rw [e1 u' aN] at hf'
     exact hM.2 b o ((h1.aF b o).2 ⟨u',aN,hf'⟩) ((h2.aF b o).2 ⟨u,hu,hf⟩)
   · rw [e2 u hu] at hf; rw [e2 u' aN] at hf'
     exact h2.dr u hu u' aN hne b o hf hf'
 · intro u hu vs hvs v hv j hj
   rcases List.mem_append.1 hu with hu | hu
   · obtain ⟨u',aN,he⟩:=h1.ref u hu vs hvs v hv j hj
     exact ⟨u',by simp [aN],he⟩
   · obtain ⟨u',aN,he⟩:=h2.ref u hu vs hvs v hv j hj
     exact ⟨u',by simp [aN],he⟩
theorem cn.weaken {w:World} {s:St} {I I':Nat→Prop} {us:aI S.C} {lam:Nat→Loc} {M:St} (h:cn P S w s I us lam M) (hI: ∀ i,I i→I' i):cn P S w s I' us lam M:=
 ⟨fun u hu=>hI _ (h.fJ u hu),h.one,h.rb,h.lv,h.aF,h.dr,h.ref⟩
theorem KB {w:World} {s:St} {n:Nat} (μ:Nat→Loc) (bx:Bx S.C): ∀ (ts:List Ty) (hts:ts.all (fun t=> !bq t)=true) (x:aq S.C ts) (cs:List Value),
 bF S (fun t x cs=>aC S w s n t x cs) ts x cs→aH P S w s μ bx (pR S ts x) cs∧(pR S ts x).all (bU S)=true∧ ∀ v ∈ pR S ts x,az S v= []
 | [],_,x,cs,h=>⟨h,rfl,by simp [pR]⟩
 | t::ts,hts,x,cs,⟨c,r,hcs,h1,h2⟩=>by
  simp only [List.all_cons,Bool.and_eq_true,Bool.not_eq_true'] at hts
  obtain ⟨r1,r2,r3⟩:=KB μ bx ts hts.2 _ _ h2
  have hc:isAgg c=false:=by
   cases n with
   | zero=>exact h1.elim
   | succ n=>cases t with
    | int k=>simp [aC] at h1; subst h1; rfl
    | bool=>simp [aC] at h1; subst h1; rfl
    | str=>simp [aC] at h1; subst h1; rfl
    | pt=>simp [aC] at h1; subst h1; rfl
    | sl e=>obtain ⟨a,cap,h,_⟩:=h1; simp at h; subst h; rfl
    | st u=>simp [bq] at hts
  refine ⟨⟨c,r,hcs,⟨by rw [hc,hts.1],n, ?_⟩,r1⟩, ?_, ?_⟩
  · rw [aC.lK (t:=t) (by rw [hc,hts.1]) hts.1]
    exact h1
  · simp only [pR,List.all_cons,Bool.and_eq_true]
    exact ⟨by cases t <;> first | rfl | simp [bq] at hts,r2⟩
  · intro v hv
    simp only [pR,List.mem_cons] at hv
    rcases hv with rfl | hv
    · rfl
    · exact r3 v hv
theorem mI (hS:cT S) {w:World} {s:St} {n:Nat} (μ:Nat→Loc) (bx:Bx S.C) {t:Ty} {x:t.den S.C} {cs:List Value} (h:aC S w s n t x cs):
 aH P S w s μ bx (jl S t x) cs∧(jl S t x).all (bU S)=true∧ ∀ v ∈ jl S t x,az S v= []:=by
 have one:bq t=false→jl S t x= [.d t x]→aH P S w s μ bx (jl S t x) cs∧(jl S t x).all (bU S)=true∧ ∀ v ∈ jl S t x,az S v= []:=by
  intro ht he
  rw [he]
  have hl:=h.length S
  rw [show Ty.sz S t=1 from by cases t <;> first | rfl | simp [bq] at ht] at hl
  obtain ⟨c,rfl⟩:=List.length_eq_one_iff.1 hl
  have hc:isAgg c=false:=by
   cases n with
   | zero=>exact h.elim
   | succ n=>cases t with
    | int k=>simp [aC] at h; subst h; rfl
    | bool=>simp [aC] at h; subst h; rfl
    | str=>simp [aC] at h; subst h; rfl
    | pt=>simp [aC] at h; subst h; rfl
    | sl e=>obtain ⟨a,cap,h,_⟩:=h; simp at h; subst h; rfl
    | st u=>simp [bq] at ht
  refine ⟨⟨c,[],rfl,⟨by rw [hc,ht],n, ?_⟩,rfl⟩, ?_, ?_⟩
  · rw [aC.lK (t:=t) (by rw [hc,ht]) ht]
    exact h
  · cases t <;> first | rfl | simp [bq] at ht
  · intro v hv
    simp at hv
    subst hv
    rfl
 cases t with
 | st u=>
  cases n with
  | zero=>exact h.elim
  | succ n=>exact KB μ bx (S.F u) (hS.flat u) _ _ h
 | int k=>exact one rfl rfl
 | bool=>exact one rfl rfl
 | str=>exact one rfl rfl
 | pt=>exact one rfl rfl
 | sl e=>exact one rfl rfl
theorem zn (hS:cT S) {w:World} {s M:St} (id:Nat) {c:CK} {x:c.den S.C} {cs:List Value} (h:lC S w s M c x cs):
 id≤(cy S id c x).2.2∧ ∃ lam,cn P S w s (fun i=>id≤i∧i<(cy S id c x).2.2) (cy S id c x).2.1 lam M∧
  (cy S id c x).1.all (bU S)=true∧(∀ v ∈ (cy S id c x).1, ∀ j ∈ az S v, ∃ u ∈ (cy S id c x).2.1,u.1=j)∧
  ∀ μ bx,Agree (cy S id c x).2.1 lam μ bx→aH P S w s μ bx (cy S id c x).1 cs:=by
 cases c with
 | data t=>
  obtain ⟨hM,n,hn⟩:=h
  have ho:=fun μ bx=>mI (P:=P) hS μ bx hn
  refine ⟨Nat.le_refl _,fun _=>⟨0,0,0,0,true⟩,cn.nil hM _,(ho (fun _=>⟨0,0,0,0,true⟩) (fun _=>none)).2.1, ?_,fun μ bx _=>(ho μ bx).1⟩
  intro v hv j hj
  rw [(ho (fun _=>⟨0,0,0,0,true⟩) (fun _=>none)).2.2 v hv] at hj
  simp at hj
 | aZ e=>
  obtain ⟨a,cap,L,rfl,⟨n,hn⟩,tn,cl,hM⟩:=h
  refine ⟨Nat.le_succ _,fun _=>L,⟨?_, ?_, ?_, ?_, ?_, ?_, ?_⟩,rfl, ?_, ?_⟩
  · intro u hu; simp [cy] at hu; subst hu; simp [cy]
  · intro u hu u' aN _; simp [cy] at hu aN; rw [hu,aN]
  · intro μ bx ha u hu; simp [cy] at hu; subst hu; exact cl
  · intro bx u hu hb; simp [cy] at hu; subst hu; unfold live; rw [hb]; trivial
  · intro b o; rw [hM]; simp [cy]
  · intro u hu u' aN hne; simp [cy] at hu aN; subst hu aN; exact absurd rfl hne
  · intro u hu vs hvs; simp [cy] at hu; subst hu; rcases hvs with hvs | hvs <;> cases hvs
  · intro v hv j hj; simp [cy] at hv; subst hv; simp [az] at hj; subst hj; exact ⟨(j, .tail),by simp [cy],rfl⟩
  · intro μ bx ha
    refine ⟨_,[],rfl,⟨⟨rfl,n,hn⟩,fun _=>⟨a,cap,rfl, ?_⟩⟩,rfl⟩
    rw [(ha (id, .tail) (by simp [cy])).2]
    exact tn
 | aQ e=>
  obtain ⟨a,cap,L,rfl,hao,cl,hM,hel⟩:=h
  refine ⟨Nat.le_succ _,fun _=>L,⟨?_, ?_, ?_, ?_, ?_, ?_, ?_⟩,rfl, ?_, ?_⟩
  · intro u hu; simp [cy] at hu; subst hu; simp [cy]
  · intro u hu u' aN _; simp [cy] at hu aN; rw [hu,aN]
  · intro μ bx ha u hu; simp [cy] at hu; subst hu
    exact ⟨hao.cells,hao.isNil,by have :=hao.fits; have :=hao.lJ; omega,cl,hel⟩
  · intro bx u hu hb; simp [cy] at hu; subst hu; unfold live; rw [hb]; trivial
  · intro b o; rw [hM]; simp [cy]
  · intro u hu u' aN hne; simp [cy] at hu aN; subst hu aN; exact absurd rfl hne
  · intro u hu vs hvs; simp [cy] at hu; subst hu; rcases hvs with hvs | hvs <;> cases hvs
  · intro v hv j hj; simp [cy] at hv; subst hv; simp [az] at hj; subst hj; exact ⟨(j, .arr e x),by simp [cy],rfl⟩
  · intro μ bx ha
    refine ⟨_,[],rfl,⟨⟨_,_,_,rfl⟩,fun e' l' hb=> ?_⟩,rfl⟩
    obtain ⟨h1,h2⟩:=ha (id, .arr e x) (by simp [cy])
    dsimp only at h1 h2
    rcases hb with hb | hb
    · rw [h1] at hb
      cases hb
      exact ⟨a,cap,rfl,by rw [h2]; exact hao⟩
    · rw [h1] at hb; cases hb
theorem Dk (hS:cT S) {w:World} {s:St} : ∀ (cs:List CK) {M:St} (id:Nat) {x:bH S.C cs} {vs:List Value},gS S w s M cs x vs→
 id≤(bu S id cs x).2.2∧ ∃ lam,cn P S w s (fun i=>id≤i∧i<(bu S id cs x).2.2) (bu S id cs x).2.1 lam M∧
  (bu S id cs x).1.all (bU S)=true∧(∀ v ∈ (bu S id cs x).1, ∀ j ∈ az S v, ∃ u ∈ (bu S id cs x).2.1,u.1=j)∧
  ∀ μ bx,Agree (bu S id cs x).2.1 lam μ bx→aH P S w s μ bx (bu S id cs x).1 vs
 | [],M,id,x,vs,h=>⟨Nat.le_refl _,fun _=>⟨0,0,0,0,true⟩,cn.nil h.1 _,rfl,by simp [bu],fun _ _ _=>h.2⟩
 | c::cs,M,id,x,vs,⟨M1,M2,v1,v2,hM,hvs,_,h1,h2⟩=>by
  obtain ⟨wk,l1,g1,s1,r1,n9⟩:=zn (P:=P) hS id h1
  obtain ⟨C8,l2,g2,s2,r2,n_⟩:=Dk hS cs (cy S id c (bH.head x)).2.2 h2
  obtain ⟨g,hag⟩:=cn.both g1 g2 (fun i hi hi'=>by omega) hM
  refine ⟨Nat.le_trans wk C8,_,g.weaken (fun i hi=> ?_), ?_, ?_, ?_⟩
  · show id≤i∧i<(bu S (cy S id c (bH.head x)).2.2 cs (bH.tail x)).2.2
    rcases hi with hi | hi
    · exact ⟨hi.1,Nat.lt_of_lt_of_le hi.2 C8⟩
    · exact ⟨Nat.le_trans wk hi.1,hi.2⟩
  · show ((cy S id c (bH.head x)).1++(bu S (cy S id c (bH.head x)).2.2 cs (bH.tail x)).1).all (bU S)=true
    rw [List.all_append,s1,s2]; rfl
  · intro v hv j hj
    rcases List.mem_append.1 hv with hv | hv
    · obtain ⟨u,hu,he⟩:=r1 v hv j hj
      exact ⟨u,List.mem_append.2 (.inl hu),he⟩
    · obtain ⟨u,hu,he⟩:=r2 v hv j hj
      exact ⟨u,List.mem_append.2 (.inr hu),he⟩
  · intro μ bx ha
    obtain ⟨a1,a2⟩:=hag μ bx ha
    rw [hvs]
    exact aH.append P S (n9 μ bx a1) (n_ μ bx a2)
end
end Go.Sy
namespace Go.Sy
section
variable {P:Program} {S:aS}
theorem uH: ∀ (us:aI S.C) (bx:Bx S.C) {i:Nat},(∀ u ∈ us,u.1≠i)→av bx us i=bx i
 | [],_,_,_=>rfl
 | u::us,bx,i,h=>(uH us _ fun u' aN=>h u' (by simp [aN])).trans (bg _ _ (Ne.symm (h u (by simp))))
theorem AV: ∀ (us:aI S.C) (bx:Bx S.C),(∀ u ∈ us, ∀ u' ∈ us,u.1=u'.1→u=u')→ ∀ u ∈ us,av bx us u.1=some u.2
 | [],_,_,_,h=>by simp at h
 | v::us,bx,h1,u,hu=>by
  by_cases e: ∃ u' ∈ us,u'.1=u.1
  · obtain ⟨u',aN,e⟩:=e
    have :u'=u:=h1 u' (by simp [aN]) u hu e
    subst this
    exact AV us _ (fun a ha b hb=>h1 a (by simp [ha]) b (by simp [hb])) u' aN
  · rcases List.mem_cons.1 hu with rfl | hu
    · show av (au bx u.1 (some u.2)) us u.1=some u.2
      rw [uH us _ fun u' aN he=>e ⟨u',aN,he⟩,aR]
    · exact absurd ⟨u,hu,rfl⟩ e
theorem oJ {v c:Value} (h:v.cells.toList= [c]) (ha:isAgg v=false):v=c:=by
 rw [aC.lK (t:= .bool) ha rfl] at h
 simpa using h
theorem qY (cs:List CK): ∀ (id:Nat) (x:bH S.C cs) (n:Nat),(bu S id cs x).2.2+n=id+cs.foldl oneMore n:=by
 induction cs with
 | nil=>intro id x n; rfl
 | cons c cs ih=>
  intro id x n
  have :=ih (cy S id c (bH.head x)).2.2 (bH.tail x)
  simp only [bu,List.foldl_cons]
  cases c with
  | data t=>exact this n
  | aZ e=>have :=this (n+1); simp only [cy,oneMore] at this ⊢; omega
  | aQ e=>have :=this (n+1); simp only [cy,oneMore] at this ⊢; omega
theorem mE {w:World} {s:St} {μ:Nat→Loc} {bx:Bx S.C} {V:V S.C} {v:Value} (h:bI P S w s μ bx V v):RV P S w s μ bx V v:=by
 cases V <;> first | exact h | exact (h:False).elim
theorem tE (hS:cT S) {w:World} {s M:St} (id:Nat) {cs:List CK} {x:bH S.C cs} {v:Value} (h:eo S w s M cs x v):
 ∃ lam,cn P S w s (fun i=>id≤i∧i<(bu S (id+1) cs x).2.2) ((id, .cells (bu S (id+1) cs x).1)::(bu S (id+1) cs x).2.1) lam M∧
  id<(bu S (id+1) cs x).2.2∧
  ∀ μ bx,Agree ((id, .cells (bu S (id+1) cs x).1)::(bu S (id+1) cs x).2.1) lam μ bx→bI P S w s μ bx (.ptr id 0) v:=by
 obtain ⟨b,o,ds,M',rfl,cl,jo,hM,hcs⟩:=h
 obtain ⟨le,l2,g2,s2,r2,n_⟩:=Dk (P:=P) hS cs (id+1) hcs
 have hne: ∀ u ∈ (bu S (id+1) cs x).2.1,u.1≠id:=fun u hu e=>by have :=(g2.fJ u hu).1; omega
 let lam:Nat→Loc:=fun i=>if i=id then ⟨b,o,ds.length,0,false⟩ else l2 i
 have e1:lam id=⟨b,o,ds.length,0,false⟩:=if_pos rfl
 have e2: ∀ u ∈ (bu S (id+1) cs x).2.1,lam u.1=l2 u.1:=fun u hu=>if_neg (hne u hu)
 have hag: ∀ μ bx,Agree ((id, .cells (bu S (id+1) cs x).1)::(bu S (id+1) cs x).2.1) lam μ bx→Agree (bu S (id+1) cs x).2.1 l2 μ bx:=
  fun μ bx h u hu=>⟨(h u (by simp [hu])).1,(h u (by simp [hu])).2.trans (e2 u hu)⟩
 refine ⟨lam,⟨?_, ?_, ?_, ?_, ?_, ?_, ?_⟩,by omega, ?_⟩
 · intro u hu
   rcases List.mem_cons.1 hu with rfl | hu
   · exact ⟨Nat.le_refl _,by show id<_; omega⟩
   · have :=g2.fJ u hu; omega
 · intro u hu u' aN he
   rcases List.mem_cons.1 hu with rfl | hu <;> rcases List.mem_cons.1 aN with rfl | aN
   · rfl
   · exact absurd he.symm (hne u' aN)
   · exact absurd he (hne u hu)
   · exact g2.one u hu u' aN he
 · intro μ bx ha u hu
   rcases List.mem_cons.1 hu with rfl | hu
   · show RB P S w s μ bx (lam id) (.cells _)
     rw [e1]
     have hr:=n_ μ bx (hag μ bx ha)
     exact ⟨s2,(aH.length P S hr),cl,ds,jo,hr⟩
   · rw [e2 u hu]
     exact g2.rb μ bx (hag μ bx ha) u hu
 · intro bx u hu hb
   rcases List.mem_cons.1 hu with rfl | hu
   · unfold live; rw [hb]; trivial
   · exact g2.lv bx u hu hb
 · intro b' o'
   rw [hM.1 b' o',g2.aF]
   constructor
   · rintro (h | ⟨u,hu,hf⟩)
     · refine ⟨_,List.mem_cons_self, ?_⟩
       show (lam id).aF b' o'
       rw [e1]; exact h
     · exact ⟨u,by simp [hu],by rw [e2 u hu]; exact hf⟩
   · rintro ⟨u,hu,hf⟩
     rcases List.mem_cons.1 hu with rfl | hu
     · have hf:(lam id).aF b' o':=hf
       rw [e1] at hf; exact .inl hf
     · rw [e2 u hu] at hf; exact .inr ⟨u,hu,hf⟩
 · intro u hu u' aN hn b' o' hf hf'
   rcases List.mem_cons.1 hu with rfl | hu <;> rcases List.mem_cons.1 aN with rfl | aN
   · exact hn rfl
   · have hf:(lam id).aF b' o':=hf
     rw [e1] at hf; rw [e2 u' aN] at hf'
     exact hM.2 b' o' hf ((g2.aF b' o').2 ⟨u',aN,hf'⟩)
   · have hf':(lam id).aF b' o':=hf'
     rw [e1] at hf'; rw [e2 u hu] at hf
     exact hM.2 b' o' hf' ((g2.aF b' o').2 ⟨u,hu,hf⟩)
   · rw [e2 u hu] at hf; rw [e2 u' aN] at hf'
     exact g2.dr u hu u' aN hn b' o' hf hf'
 · intro u hu vs hvs v hv j hj
   rcases List.mem_cons.1 hu with rfl | hu
   · rcases hvs with hvs | hvs
     · cases hvs
       obtain ⟨u',aN,he⟩:=r2 v hv j hj
       exact ⟨u',by simp [aN],he⟩
     · cases hvs
   · obtain ⟨u',aN,he⟩:=g2.ref u hu vs hvs v hv j hj
     exact ⟨u',by simp [aN],he⟩
 · intro μ bx ha
   have :=(ha (id, .cells (bu S (id+1) cs x).1) (by simp)).2
   dsimp only at this
   show _=_
   rw [this,e1]
   rfl
theorem Bs {w:World} {s M:St} (i j:Nat) (hne:j≠i) (L:Loc) (h0:L.o=0) (h2:L.n=2) {x:List UInt8} {v:Value} (hv:v= .pointer (some ⟨L.b,L.o,none⟩)) (h:nv S w M x v):
 ∃ lam,lam i=L∧cn P S w s (fun k=>k=i∨k=j) [(i, .aX j),(j, .buf x)] lam M:=by
 obtain ⟨b,R,hb,hh,hr,hM⟩:=h
 rw [hb] at hv
 have hb':b=L.b:=by
  simp only [Value.pointer.injEq,Option.some.injEq,Addr.mk.injEq] at hv
  exact hv.1
 subst hb'
 let lam:Nat→Loc:=fun k=>if k=i then L else R
 have e1:lam i=L:=if_pos rfl
 have e2:lam j=R:=if_neg hne
 have fL: ∀ b' o',(Loc.mk L.b 0 2 0 false).aF b' o'↔L.aF b' o':=fun b' o'=>by
  unfold Loc.aF
  show b'=L.b∧0≤o'∧o'<0+2↔b'=L.b∧L.o≤o'∧o'<L.o+L.n
  rw [h0,h2]
 refine ⟨lam,e1,⟨?_, ?_, ?_, ?_, ?_, ?_, ?_⟩⟩
 · intro u hu
   simp only [List.mem_cons,List.not_mem_nil,or_false] at hu
   rcases hu with rfl | rfl
   · exact .inl rfl
   · exact .inr rfl
 · intro u hu u' aN he
   simp only [List.mem_cons,List.not_mem_nil,or_false] at hu aN
   rcases hu with rfl | rfl <;> rcases aN with rfl | rfl
   · rfl
   · exact absurd he.symm hne
   · exact absurd he hne
   · rfl
 · intro μ bx ha u hu
   have a1:=ha (i, .aX j) (by simp)
   have a2:=ha (j, .buf x) (by simp)
   simp only [List.mem_cons,List.not_mem_nil,or_false] at hu
   rcases hu with rfl | rfl
   · show RB P S w s μ bx (lam i) (.aX j)
     rw [e1]
     refine ⟨h0,h2,by rw [a2.1]; simp,_,hh,fun l hl=> ?_⟩
     rw [a2.1] at hl
     cases hl
     rw [a2.2,e2]
   · show RB P S w s μ bx (lam j) (.buf x)
     rw [e2]
     exact hr
 · intro bx u hu hb
   simp only [List.mem_cons,List.not_mem_nil,or_false] at hu
   rcases hu with rfl | rfl <;> · unfold live; rw [hb]; trivial
 · intro b' o'
   rw [hM.1 b' o',fL]
   constructor
   · rintro (h | h)
     · exact ⟨(i, .aX j),by simp,by show (lam i).aF b' o'; rw [e1]; exact h⟩
     · exact ⟨(j, .buf x),by simp,by show (lam j).aF b' o'; rw [e2]; exact h⟩
   · rintro ⟨u,hu,hf⟩
     simp only [List.mem_cons,List.not_mem_nil,or_false] at hu
     rcases hu with rfl | rfl
     · have hf:(lam i).aF b' o':=hf
       rw [e1] at hf; exact .inl hf
     · have hf:(lam j).aF b' o':=hf
       rw [e2] at hf; exact .inr hf
 · intro u hu u' aN hn b' o' hf hf'
   simp only [List.mem_cons,List.not_mem_nil,or_false] at hu aN
   rcases hu with rfl | rfl <;> rcases aN with rfl | rfl
   · exact hn rfl
   · have hf:(lam i).aF b' o':=hf
     have hf':(lam j).aF b' o':=hf'
     rw [e1] at hf; rw [e2] at hf'
     exact hM.2 b' o' ((fL _ _).2 hf) hf'
   · have hf':(lam i).aF b' o':=hf'
     have hf:(lam j).aF b' o':=hf
     rw [e1] at hf'; rw [e2] at hf
     exact hM.2 b' o' ((fL _ _).2 hf') hf
   · exact hn rfl
 · intro u hu vs hvs
   simp only [List.mem_cons,List.not_mem_nil,or_false] at hu
   rcases hu with rfl | rfl <;> rcases hvs with hvs | hvs <;> cases hvs
theorem OL (hS:cT S) {w:World} {s M:St} (id:Nat) {k:K} (hk:(match k with | .opt _=>false | _=>true)=true) {x:k.den S.C} {v:Value} (h:mC P S w s M k x v):
 ∃ lam,cn P S w s (fun i=>id≤i∧i<id+nO k) (eN S id k x).2 lam M∧(∀ j ∈ aA S (eN S id k x).1, ∃ u ∈ (eN S id k x).2,u.1=j)∧
  ∀ μ bx,Agree (eN S id k x).2 lam μ bx→RV P S w s μ bx (eN S id k x).1 v:=by
 cases k with
 | val c=>
  obtain ⟨h1,h2⟩:=h
  obtain ⟨le,lam,g,s1,r1,rv⟩:=zn (P:=P) hS id h1
  cases c with
  | data t=>
   obtain ⟨hM,n,hn⟩:=h1
   exact ⟨fun _=>⟨0,0,0,0,true⟩,cn.nil hM _,by simp [eN,aA,az],fun μ bx _=>⟨h2,n,hn⟩⟩
  | aZ e=>
   refine ⟨lam,g,fun j hj=>r1 (.aZ id e x) (by simp [cy]) j hj,fun μ bx ha=> ?_⟩
   obtain ⟨c,r,hc,hv,hr⟩:=rv μ bx ha
   cases hr
   rw [oJ hc h2]
   exact mE hv
  | aQ e=>
   refine ⟨lam,g,fun j hj=>r1 (.aQ id) (by simp [cy]) j hj,fun μ bx ha=> ?_⟩
   obtain ⟨c,r,hc,hv,hr⟩:=rv μ bx ha
   cases hr
   rw [oJ hc h2]
   exact mE hv
 | obj cs=>
  obtain ⟨lam,g,le,rv⟩:=tE (P:=P) hS id h
  refine ⟨lam,g.weaken fun i hi=> ?_,fun j hj=>⟨(id, .cells (bu S (id+1) cs x).1),by simp [eN],by simp [eN,aA,az] at hj; exact hj.symm⟩,fun μ bx ha=>mE (rv μ bx ha)⟩
  have :=qY cs (id+1) x 0
  simp only [nO]
  omega
 | opt cs=>cases hk
 | b_ t cs=>
  obtain ⟨b0,o0,p,M1,M2,hv,cG,hM,h1,h2⟩:=h
  obtain ⟨l1,g1,wk,n9⟩:=tE (P:=P) hS id h1
  obtain ⟨l2,g2,C8,n_⟩:=tE (P:=P) hS (id+1) h2
  have hz:=qY cs (id+1+1) x.2 0
  obtain ⟨g,hag⟩:=cn.both g1 g2 (fun i q1 q2=>by
   have SH:i<id+1:=q1.2
   omega) hM
  refine ⟨_,g.weaken fun i hi=> ?_,fun j hj=> ?_,fun μ bx ha=> ?_⟩
  · simp only [nO]
    rcases hi with hi | hi
    · have SH:i<id+1:=hi.2
      omega
    · omega
  · have hj:j ∈ [id+1,id]:=hj
    simp only [List.mem_cons,List.not_mem_nil,or_false] at hj
    rcases hj with rfl | rfl
    · exact ⟨(id+1,_),List.mem_cons_of_mem _ (List.mem_cons_self),rfl⟩
    · exact ⟨(j,_),List.mem_cons_self,rfl⟩
  · obtain ⟨a1,a2⟩:=hag μ bx ha
    have e1:Value.pointer (some p)= .pointer (some ⟨(μ id).b,(μ id).o+0,none⟩):=n9 μ bx a1
    have e2:Value.pointer (some ⟨b0,o0+1,none⟩)= .pointer (some ⟨(μ (id+1)).b,(μ (id+1)).o+0,none⟩):=n_ μ bx a2
    cases e1
    simp only [Value.pointer.injEq,Option.some.injEq,Addr.mk.injEq] at e2
    exact ⟨b0,o0,hv,cG,e2.1.symm,by omega⟩
 | cF cs=>
  obtain ⟨p,hv,h⟩:=h
  obtain ⟨lam,g,le,rv⟩:=tE (P:=P) hS id h
  refine ⟨lam,g.weaken fun i hi=> ?_,fun j hj=>⟨(id, .cells (bu S (id+1) cs x).1),by simp [eN],by simp [eN,aA,az] at hj; exact hj.symm⟩,fun μ bx ha=>mE ?_⟩
  · have :=qY cs (id+1) x 0
    simp only [nO]
    omega
  · have :Value.pointer (some p)= .pointer (some ⟨(μ id).b,(μ id).o+0,none⟩):=rv μ bx ha
    show v= .slice (some ⟨(μ id).b,(μ id).o,none⟩) (CK.cD S cs) (CK.cD S cs)
    rw [hv]
    cases this
    rfl
 | err=>exact ⟨fun _=>⟨0,0,0,0,true⟩,cn.nil h.1 _,by simp [eN,aA,az],fun μ bx _=>h.2⟩
 | aX=>
  have h:nv S w M x v:=h
  obtain ⟨b,R,hb,_⟩:=Iff.mp Iff.rfl h
  obtain ⟨lam,e,g⟩:=Bs (P:=P) (s:=s) id (id+1) (by omega) ⟨b,0,2,0,false⟩ rfl rfl hb h
  refine ⟨lam,g.weaken fun i hi=> ?_,fun j hj=>⟨(id, .aX (id+1)),by simp [eN],by simp [eN,aA,az] at hj; exact hj.symm⟩,fun μ bx ha=>mE ?_⟩
  · simp only [nO]; omega
  · have a1:=(ha (id, .aX (id+1)) (by simp [eN])).2
    show v= .pointer (some ⟨(μ id).b,(μ id).o+0,none⟩)
    rw [hb,show μ id=lam id from a1,e]
 | nil=>exact ⟨fun _=>⟨0,0,0,0,true⟩,cn.nil h.1 _,by simp [eN,aA,az],fun μ bx _=>h.2⟩
 | ro t=>exact ⟨fun _=>⟨0,0,0,0,true⟩,cn.nil h.1 _,by simp [eN,aA,az],fun μ bx _=>h.2⟩
 | fn a r=>exact ⟨fun _=>⟨0,0,0,0,true⟩,cn.nil h.1 _,by simp [eN,aA,az],fun μ bx _=>h.2⟩
def uT (a:Act):List Nat→List Value→Prop
 | [],vs=>vs= []
 | t::sl,vs=> ∃ v r,vs=v::r∧a.tmps.getD t Go.undef=v∧uT a sl r
theorem F6 (hS:cT S) {w:World} {s:St} (a:Act): ∀ (ks:List K) (sl:List Nat) {M:St} {x:Ks S.C ks} {vs:List Value} (env:Env S.C),lq sl ks=true→cc P S w s M ks x vs→uT a sl vs→
 ∃ us lam,cn P S w s (fun i=> ∃ t ∈ sl,16*t≤i∧i<16*t+16) us lam M∧(fB S ks sl x env).bx=av env.bx us∧
  (∀ t,t ∉ sl→(fB S ks sl x env).tm t=env.tm t)∧
  ∀ t ∈ sl,(∀ j ∈ aA S ((fB S ks sl x env).tm t), ∃ u ∈ us,u.1=j)∧ ∀ μ bx,Agree us lam μ bx→RV P S w s μ bx ((fB S ks sl x env).tm t) (a.tmps.getD t Go.undef)
 | [],[],M,x,vs,env,_,h,_=>⟨[],fun _=>⟨0,0,0,0,true⟩,cn.nil h.1 _,rfl,fun _ _=>rfl,by simp⟩
 | [],_::_,_,_,_,_,h,_,_=>by cases h
 | _::_,[],_,_,_,_,h,_,_=>by cases h
 | k::ks,t::sl,M,x,vs,env,hok,⟨M1,M2,v,r,hM,hvs,h1,h2⟩,⟨v',r',vW,ht,gk⟩=>by
  simp only [lq,Bool.and_eq_true,Bool.not_eq_true'] at hok
  obtain ⟨⟨⟨o1,o2⟩,o3⟩,o4⟩:=hok
  have ot:t ∉ sl:=by
   intro hm
   have :=List.contains_iff_mem.2 hm
   rw [o2] at this; cases this
  rw [hvs] at vW
  cases vW
  obtain ⟨l1,g1,r1,n9⟩:=OL (P:=P) hS (16*t) o3 h1
  obtain ⟨nj,l2,g2,hb,hto,yY⟩:=F6 hS a ks sl (env.apply (some t) (eN S (16*t) k (Ks.head x)).1 (eN S (16*t) k (Ks.head x)).2) o4 h2 gk
  obtain ⟨g,hag⟩:=cn.both (g1.weaken (I':=fun i=>16*t≤i∧i<16*t+16) fun i hi=>⟨hi.1,by have :=Nat.le_of_ble_eq_true o1; omega⟩) g2 (fun i hi ⟨t',ht',h1,h2⟩=>ot (by
   have :t'=t:=by omega
   exact this▸ht')) hM
  refine ⟨_,_,g.weaken fun i hi=> ?_, ?_, ?_, ?_⟩
  · rcases hi with hi | ⟨t',ht',hi⟩
    · exact ⟨t,by simp,hi⟩
    · exact ⟨t',by simp [ht'],hi⟩
  · rw [ja]; exact hb
  · intro t' ht'
    have e1:=hto t' (fun h=>ht' (by simp [h]))
    rw [show (fB S (k::ks) (t::sl) x env).tm t'=_ from e1]
    exact bg _ _ (fun h=>ht' (by simp [h]))
  · intro t' ht'
    by_cases e:t'=t
    · subst e
      have e1:=hto t' ot
      rw [show (fB S (k::ks) (t'::sl) x env).tm t'=_ from e1]
      rw [show (env.apply (some t') (eN S (16*t') k (Ks.head x)).1 (eN S (16*t') k (Ks.head x)).2).tm t'=(eN S (16*t') k (Ks.head x)).1 from aR _ _ _]
      refine ⟨fun j hj=> ?_,fun μ bx ha=> ?_⟩
      · obtain ⟨u,hu,he⟩:=r1 j hj
        exact ⟨u,List.mem_append.2 (.inl hu),he⟩
      · rw [ht]; exact n9 μ bx (hag μ bx ha).1
    · have Qo:t' ∈ sl:=by rcases List.mem_cons.1 ht' with h | h; exact absurd h e; exact h
      obtain ⟨h1,h2⟩:=yY t' Qo
      refine ⟨fun j hj=> ?_,fun μ bx ha=>h2 μ bx (hag μ bx ha).2⟩
      obtain ⟨u,hu,he⟩:=h1 j hj
      exact ⟨u,List.mem_append.2 (.inr hu),he⟩
theorem F5: ∀ (ks:List K) (sl:List Nat) (x:Ks S.C ks) (env:Env S.C),(fB S ks sl x env).df=env.df
 | [],_,_,_=>rfl
 | _::_,[],_,_=>rfl
 | k::r,t::sl,x,env=>F5 r sl (Ks.tail x) _
theorem F7 (hS:cT S) {w0:World} {M0 s0:St} {dq:List Deferred} {w:World} {s M:St} {a:Act} {ks:List K} {sl:List Nat} {x:Ks S.C ks} {vs:List Value}
 (hok:lq sl ks=true) (h:cc P S w s M ks x vs) (gk:uT a sl vs) (hs: ∀ b o,s b o→b<w.heap.size∧(s0 b o∨M0 b o∨w0.heap.size≤b)∧ ¬ M b o)
 (hM: ∀ b o,M b o→w0.heap.size≤b∨M0 b o) (hc:aY w0 w M0) {df:Bool} (hd:a.defers=cond df dq []) (hG:iz S w0 M0): ∃ μ,Inv P S w0 M0 s0 dq (fB S ks sl x (Env.none S df)) a w μ:=by
 obtain ⟨us,lam,g,hb,hto,yY⟩:=F6 (P:=P) hS a ks sl (Env.none S df) hok h gk
 have hin: ∀ i B,(fB S ks sl x (Env.none S df)).bx i=some B→(i,B) ∈ us:=by
  intro i B hi
  rw [hb] at hi
  by_cases e: ∃ u ∈ us,u.1=i
  · obtain ⟨u,hu,rfl⟩:=e
    rw [AV us _ g.one u hu] at hi
    cases hi
    exact hu
  · rw [uH us _ fun u hu he=>e ⟨u,hu,he⟩] at hi
    cases hi
 have hag:Agree us lam lam (fB S ks sl x (Env.none S df)).bx:=fun u hu=>⟨by rw [hb]; exact AV us _ g.one u hu,rfl⟩
 have cj: ∀ i,live S (fB S ks sl x (Env.none S df)).bx i→ ∃ u ∈ us,u.1=i:=by
  intro i hi
  unfold live at hi
  cases e:(fB S ks sl x (Env.none S df)).bx i with
  | none=>rw [e] at hi; exact hi.elim
  | some B=>exact ⟨(i,B),hin i B e,rfl⟩
 have hl:bY w s w (aG S w0 M0 s0 (fB S ks sl x (Env.none S df)).bx lam w):=fun b o Qm=>by
  obtain ⟨h1,h2,h3⟩:=hs b o Qm
  refine ⟨⟨h1,h2,fun i hi hf=> ?_⟩,rfl⟩
  obtain ⟨u,hu,rfl⟩:=cj i hi
  exact h3 ((g.aF b o).2 ⟨u,hu,hf⟩)
 have cH: ∀ i B0,(fB S ks sl x (Env.none S df)).bx i=some B0→ ∃ B,(fB S ks sl x (Env.none S df)).bx i=some B∧cM S (lam i) (lam i) B0 B:=fun i B hi=>⟨B,hi,cM.refl S _ _⟩
 have tj: ∀ j,(∃ u ∈ us,u.1=j)→(fB S ks sl x (Env.none S df)).bx j≠none:=by
  rintro j ⟨u,hu,rfl⟩
  rw [(hag u hu).1]; simp
 refine ⟨lam,⟨fun t=> ?_,fun i B hi=> ?_,fun i j hij li lj b o fi fj=> ?_,fun i li b o fi=> ?_,fun t i hi=> ?_,fun i vs' hvs v hv j hj=> ?_,hc,by rw [F5]; exact hd,hG⟩⟩
 · by_cases ht:t ∈ sl
   · obtain ⟨h1,h2⟩:=yY t ht
     exact RV.step P S hl cH (fun i hi=>tj i (h1 i hi)) (h2 lam _ hag)
   · rw [hto t ht]; trivial
 · have hu:=hin i B hi
   have hr:=g.rb lam _ hag (i,B) hu
   cases B with
   | cells vs'=>
    obtain ⟨h1,h2,h3,cs,h4,h5⟩:=hr
    exact ⟨h1,h2,h3,cs,h4,aH.step P S hl cH (fun v hv j hj=>tj j (g.ref _ hu vs' (.inl rfl) v hv j hj)) h5⟩
   | bW vs'=>
    obtain ⟨h1,cs,h4,h5⟩:=hr
    exact ⟨h1,cs,h4.later hl,aH.step P S hl cH (fun v hv j hj=>tj j (g.ref _ hu vs' (.inr rfl) v hv j hj)) h5⟩
   | arr e l=>
    obtain ⟨h1,h2,h3,h4,h5⟩:=hr
    refine ⟨h1,h2,h3,h4,fun k y hk=> ?_⟩
    obtain ⟨ds,d1,d2,n,d3⟩:=h5 k y hk
    exact ⟨ds,d1,d2,n,d3.mono S hl (Nat.le_refl _)⟩
   | bM e l=>
    obtain ⟨h2,h3,h5⟩:=hr
    refine ⟨h2,h3,fun k y hk=> ?_⟩
    obtain ⟨ds,d1,d2,n,d3⟩:=h5 k y hk
    exact ⟨ds,d1,d2.later hl,n,d3.mono S hl (Nat.le_refl _)⟩
   | tail=>exact hr
   | dead=>trivial
   | aX j=>exact hr
   | buf l=>exact hr
 · obtain ⟨u,hu,rfl⟩:=cj i li
   obtain ⟨u',aN,rfl⟩:=cj j lj
   exact g.dr u hu u' aN hij b o fi fj
 · obtain ⟨u,hu,rfl⟩:=cj i li
   exact hM b o ((g.aF b o).2 ⟨u,hu,fi⟩)
 · by_cases ht:t ∈ sl
   · exact tj i ((yY t ht).1 i hi)
   · rw [hto t ht] at hi
     simp [Env.none,aA,az] at hi
 · rcases hvs with hvs | hvs
   · exact tj j (g.ref _ (hin i _ hvs) vs' (.inl rfl) v hv j hj)
   · exact tj j (g.ref _ (hin i _ hvs) vs' (.inr rfl) v hv j hj)
end
end Go.Sy
namespace Go.Sy
def Tr.leaf {X:Type} :Tr X→X→Prop
 | .fail,_=>False
 | .ret y,x=>y=x
 | .ite p _ a b,x=>(p∧a.leaf x)∨(¬ p∧b.leaf x)
 | .bind _ m f,x=> ∃ y,m=some y∧(f y).leaf x
 | .opt _ m n s,x=>(m=none∧n.leaf x)∨ ∃ y,m=some y∧(s y).leaf x
theorem Tr.rT {X R:Type} : ∀ (t:Tr X) {k:X→Option R} {r:R},t.run k=some r→ ∃ x,t.leaf x∧k x=some r
 | .fail,_,_,h=>by cases h
 | .ret x,_,_,h=>⟨x,rfl,h⟩
 | .ite p i a b,k,r,h=>by
  by_cases hp:p
  · rw [Tr.run,if_pos hp] at h
    obtain ⟨x,h1,h2⟩:=Tr.rT a h
    exact ⟨x, .inl ⟨hp,h1⟩,h2⟩
  · rw [Tr.run,if_neg hp] at h
    obtain ⟨x,h1,h2⟩:=Tr.rT b h
    exact ⟨x, .inr ⟨hp,h1⟩,h2⟩
 | .bind _ m f,k,r,h=>by
  obtain ⟨y,hy,h⟩:=Option.bind_eq_some_iff.1 h
  obtain ⟨x,h1,h2⟩:=Tr.rT (f y) h
  exact ⟨x,⟨y,hy,h1⟩,h2⟩
 | .opt _ m n s,k,r,h=>by
  cases m with
  | none=>
   obtain ⟨x,h1,h2⟩:=Tr.rT n h
   exact ⟨x, .inl ⟨rfl,h1⟩,h2⟩
  | some y=>
   obtain ⟨x,h1,h2⟩:=Tr.rT (s y) h
   exact ⟨x, .inr ⟨y,rfl,h1⟩,h2⟩
theorem Tr.C9 {X:Type} : ∀ (gs:List Gd) {t:Tr X} {x:X},(Tr.gd gs t).leaf x→(∀ g ∈ gs,g.p)∧t.leaf x
 | [],_,_,h=>⟨by simp,h⟩
 | g::gs,t,x,h=>by
  rcases h with ⟨h1,h2⟩ | ⟨_,h2⟩
  · obtain ⟨h3,h4⟩:=Tr.C9 gs h2
    exact ⟨fun g' hg=>(List.mem_cons.1 hg).elim (fun e=>e▸h1) (h3 g'),h4⟩
  · exact h2.elim
section
variable {P:Program} {S:aS}
variable {w0:World} {M0 s0:St} {dq:List Deferred} {env:Env S.C} {a:Act} {w:World} {μ:Nat→Loc}
theorem Inv.tk (h:Inv P S w0 M0 s0 dq env a w μ) {ai:Bx S.C} (hk:Tk S env.bx ai):Inv P S w0 M0 s0 dq { env with bx:=ai } a w μ:=by
 have hf: ∀ i, ¬ ai i=env.bx i→live S ai i→False:=fun i hi hl=>hi (hk.dU hl)
 refine h.step (T:=fun _ _=>False) (U:=fun i=> ¬ ai i=env.bx i) (aY.refl w _) (fun _ _ h=>h.elim) (fun i hi=>⟨Classical.not_not.1 hi,rfl⟩)
  (fun i hi hl=>(hf i hi hl).elim) (fun i B0 bS=> ?_) (fun i _ hi _ _ hl=>(hf i hi hl).elim) (fun i B hi hB=> ?_) (fun i vs hi hvs=> ?_)
 · rcases hk i with e | ⟨e,hl⟩ | ⟨e,l,e1,e2⟩
   · exact ⟨B0,e.trans bS,cM.refl S _ _⟩
   · refine ⟨_,e, ?_⟩
     cases B0 <;> rfl
   · rw [bS] at e1
     cases e1
     exact ⟨_,e2,rfl,rfl,rfl⟩
 · rcases hk i with e | ⟨e,_⟩ | ⟨e,l,e1,e2⟩
   · exact absurd e hi
   · rw [e] at hB; cases hB; trivial
   · rw [e2] at hB
     cases hB
     have cj:live S env.bx i:=by unfold live; rw [e1]; trivial
     obtain ⟨g1,g2,g3,g4,h3⟩:=h.cg i _ e1
     have hl:bY w (aG S w0 M0 s0 env.bx μ w) w (aG S w0 M0 s0 ai μ w):=h.later (T:=fun _ _=>False) (U:=fun i=> ¬ ai i=env.bx i) (aY.refl w _) (fun _ _ h=>h.elim) (fun i hi=>⟨Classical.not_not.1 hi,rfl⟩)
      (fun i hi hl=>(hf i hi hl).elim)
     refine ⟨g2,g3,fun k x nL=> ?_⟩
     obtain ⟨ds,d1,d2,n,d3⟩:=h3 k x nL
     refine ⟨ds,d1,fun j u hj=>⟨d2 j u hj, ?_⟩,n,d3.mono S hl (Nat.le_refl _)⟩
     have hj':=(List.getElem?_eq_some_iff.1 hj).1
     have tg:=(List.getElem?_eq_some_iff.1 nL).1
     have hO:(μ i).aF (μ i).b ((μ i).o+k*Ty.sz S e+j):=by
      refine ⟨rfl,by omega, ?_⟩
      have :(k+1)*Ty.sz S e≤(μ i).cap*Ty.sz S e:=Nat.mul_le_mul_right _ (by omega)
      rw [Nat.add_mul,Nat.one_mul] at this
      omega
     refine ⟨(lZ P S (h.cg i) cj hO).1,(h.own i cj _ _ hO).elim (fun h=> .inr (.inr h)) (fun h=> .inr (.inl h)),fun j vJ hf'=> ?_⟩
     have hj0:=(eA S (hk.dU vJ)).1 vJ
     refine h.dr j i (fun e'=> ?_) hj0 cj _ _ hf' hO
     subst e'
     unfold live at vJ
     rw [e2] at vJ
     exact vJ
 · rcases hk i with e | ⟨e,_⟩ | ⟨e,l,e1,e2⟩
   · exact absurd e hi
   · rcases hvs with hvs | hvs <;> · rw [e] at hvs; cases hvs
   · rcases hvs with hvs | hvs <;> · rw [e2] at hvs; cases hvs
theorem Inv.Dp (h:Inv P S w0 M0 s0 dq env a w μ) {w':World} (hw:aY w w' (fun _ _=>False)) {i:Nat} (hi:env.bx i=none) {B:dP S.C} {L:Loc}
 (hf: ∀ b o,L.aF b o→w.heap.size≤b)
 (hb:bY w (aG S w0 M0 s0 env.bx μ w) w' (aG S w0 M0 s0 (au env.bx i (some B)) (au μ i L) w')→
  (∀ V v,RV P S w (aG S w0 M0 s0 env.bx μ w) μ env.bx V v→(∀ j ∈ aA S V,env.bx j≠none)→RV P S w' (aG S w0 M0 s0 (au env.bx i (some B)) (au μ i L) w') (au μ i L) (au env.bx i (some B)) V v)→
  (∀ V v,bI P S w (aG S w0 M0 s0 env.bx μ w) μ env.bx V v→(∀ j ∈ az S V,env.bx j≠none)→bI P S w' (aG S w0 M0 s0 (au env.bx i (some B)) (au μ i L) w') (au μ i L) (au env.bx i (some B)) V v)→
  RB P S w' (aG S w0 M0 s0 (au env.bx i (some B)) (au μ i L) w') (au μ i L) (au env.bx i (some B)) L B)
 (hr: ∀ vs,(B= .cells vs∨B= .bW vs)→ ∀ v ∈ vs, ∀ j ∈ az S v,env.bx j≠none):
 Inv P S w0 M0 s0 dq { env with bx:=au env.bx i (some B) } a w' (au μ i L)∧
  bY w (aG S w0 M0 s0 env.bx μ w) w' (aG S w0 M0 s0 (au env.bx i (some B)) (au μ i L) w')∧
  (∀ V v,RV P S w (aG S w0 M0 s0 env.bx μ w) μ env.bx V v→(∀ j ∈ aA S V,env.bx j≠none)→RV P S w' (aG S w0 M0 s0 (au env.bx i (some B)) (au μ i L) w') (au μ i L) (au env.bx i (some B)) V v):=by
 have hU: ∀ j, ¬ j=i→au env.bx i (some B) j=env.bx j∧au μ i L j=μ j:=fun j hj=>⟨bg _ _ hj,bg _ _ hj⟩
 have Hj: ∀ j,j=i→live S (au env.bx i (some B)) j→ ∀ b o,(au μ i L j).aF b o→w.heap.size≤b∨ ∃ k,k=i∧live S env.bx k∧(μ k).aF b o:=by
  rintro j rfl _ b o hfo
  rw [aR] at hfo
  exact .inl (hf b o hfo)
 have hc: ∀ j B0,env.bx j=some B0→ ∃ B',au env.bx i (some B) j=some B'∧cM S (μ j) (au μ i L j) B0 B':=by
  intro j B0 hj
  have :j≠i:=fun e=>by subst e; rw [hi] at hj; cases hj
  rw [bg _ _ this,bg _ _ this]
  exact ⟨B0,hj,cM.refl S _ _⟩
 have hl:=h.later (T:=fun _ _=>False) (U:=fun j=>j=i) hw (fun _ _ h=>h.elim) hU Hj
 have nI:=fun V v (hv:RV P S w (aG S w0 M0 s0 env.bx μ w) μ env.bx V v) hr=>RV.step P S hl hc hr hv
 have O0:=fun V v (hv:bI P S w (aG S w0 M0 s0 env.bx μ w) μ env.bx V v) hr=>bI.step P S hl hc hr hv
 refine ⟨h.step (T:=fun _ _=>False) (U:=fun j=>j=i) hw (fun _ _ h=>h.elim) hU Hj hc ?_ ?_ ?_,hl,nI⟩
 · rintro j k rfl rfl hne; exact absurd rfl hne
 · rintro j B' rfl gF
   rw [aR] at gF
   cases gF
   rw [aR]
   exact hb hl nI O0
 · rintro j vs rfl hvs v hv k hk
   rw [aR] at hvs
   have h0:=hr vs (by rcases hvs with hvs | hvs <;> · cases hvs; simp) v hv k hk
   obtain ⟨B0,bS⟩:=Option.ne_none_iff_exists'.1 h0
   obtain ⟨B',gF,_⟩:=hc k B0 bS
   rw [gF]; simp
theorem bB (h:Inv P S w0 M0 s0 dq env a w μ) {x:Operand} {V:V S.C} (hx:aO S env.tm x=some V):
 RV P S w (aG S w0 M0 s0 env.bx μ w) μ env.bx V (a.eval x)∧ ∀ i ∈ aA S V,env.bx i≠none:=by
 cases x with
 | tmp t=>cases hx; exact ⟨h.jE t,h.ref t⟩
 | const v=>
  simp only [aO,FQ] at hx
  split at hx <;> cases hx
  · exact ⟨⟨rfl,1,rfl⟩,by simp [aA,az]⟩
  · exact ⟨⟨rfl,1,rfl⟩,by simp [aA,az]⟩
  · rename_i s
    refine ⟨⟨rfl,1, ?_⟩,by simp [aA,az]⟩
    show [Value.string s]= [Value.string ⟨s.data.toList.toArray⟩]
    cases s; simp
  · exact ⟨rfl,by simp [aA,az]⟩
  · exact ⟨rfl,by simp [aA,az]⟩
 | func f=>cases hx; exact ⟨⟨#[],rfl,rfl⟩,by simp [aA]⟩
 | global g=>cases hx
theorem wp_pure (h:Inv P S w0 M0 s0 dq env a w μ) {o:Oper} {K:Act→World→Prop} {Q:Exit→Act→World→Prop} {V:V S.C} {v:Value}
 (hrun:(execOp a.eval o).run P w= .ok (.value v) w) (hd: ∀ d,o.dst=some d→d<a.tmps.size)
 (hv:RV P S w (aG S w0 M0 s0 env.bx μ w) μ env.bx V v) (hr: ∀ i ∈ aA S V,env.bx i≠none)
 (hK: ∀ a' w' μ',Inv P S w0 M0 s0 dq (env.apply o.dst V []) a' w' μ'→a'.tmps.size=a.tmps.size→K a' w'):o.wp P a w K Q:=by
 unfold Oper.wp
 rw [hrun]
 refine hK _ w μ (h.put hd hv hr) ?_
 cases o.dst <;> simp [Act.put]
theorem Wt (h:Inv P S w0 M0 s0 dq env a w μ) {o:Oper} {K:Act→World→Prop} {Q:Exit→Act→World→Prop} {V:V S.C} {v:Value} {us:aI S.C}
 (hrun:(execOp a.eval o).run P w= .ok (.value v) w) (hd: ∀ d,o.dst=some d→d<a.tmps.size) (hk:Tk S env.bx (av env.bx us))
 (hv:Inv P S w0 M0 s0 dq { env with bx:=av env.bx us } a w μ→RV P S w (aG S w0 M0 s0 (av env.bx us) μ w) μ (av env.bx us) V v) (hr: ∀ i ∈ aA S V,av env.bx us i≠none)
 (hK: ∀ a' w' μ',Inv P S w0 M0 s0 dq (env.apply o.dst V us) a' w' μ'→a'.tmps.size=a.tmps.size→K a' w'):o.wp P a w K Q:=by
 unfold Oper.wp
 rw [hrun]
 have hI:=h.tk hk
 refine hK _ w μ (hI.put hd (hv hI) hr) ?_
 cases o.dst <;> simp [Act.put]
theorem Kj {ai:Bx S.C} (hk:Tk S env.bx ai):bY w (aG S w0 M0 s0 env.bx μ w) w (aG S w0 M0 s0 ai μ w):=fun b o ⟨h1,h2,h3⟩=>
 ⟨⟨h1,h2,fun i hi=>h3 i ((eA S (hk.dU hi)).1 hi)⟩,rfl⟩
theorem pV (h:Inv P S w0 M0 s0 dq env a w μ) {o:Oper} {K:Act→World→Prop} {Q:Exit→Act→World→Prop} {w':World} {V:V S.C} {v:Value} {i:Nat} {B:dP S.C} {L:Loc}
 (hrun:(execOp a.eval o).run P w= .ok (.value v) w') (hd: ∀ d,o.dst=some d→d<a.tmps.size) (hw:aY w w' (fun _ _=>False)) (hi:env.bx i=none)
 (hf: ∀ b o,L.aF b o→w.heap.size≤b)
 (hb:bY w (aG S w0 M0 s0 env.bx μ w) w' (aG S w0 M0 s0 (au env.bx i (some B)) (au μ i L) w')→
  (∀ V v,RV P S w (aG S w0 M0 s0 env.bx μ w) μ env.bx V v→(∀ j ∈ aA S V,env.bx j≠none)→RV P S w' (aG S w0 M0 s0 (au env.bx i (some B)) (au μ i L) w') (au μ i L) (au env.bx i (some B)) V v)→
  (∀ V v,bI P S w (aG S w0 M0 s0 env.bx μ w) μ env.bx V v→(∀ j ∈ az S V,env.bx j≠none)→bI P S w' (aG S w0 M0 s0 (au env.bx i (some B)) (au μ i L) w') (au μ i L) (au env.bx i (some B)) V v)→
  RB P S w' (aG S w0 M0 s0 (au env.bx i (some B)) (au μ i L) w') (au μ i L) (au env.bx i (some B)) L B∧
  RV P S w' (aG S w0 M0 s0 (au env.bx i (some B)) (au μ i L) w') (au μ i L) (au env.bx i (some B)) V v)
 (hr: ∀ vs,(B= .cells vs∨B= .bW vs)→ ∀ v ∈ vs, ∀ j ∈ az S v,env.bx j≠none) (hV: ∀ j ∈ aA S V,j=i∨env.bx j≠none)
 (hK: ∀ a' w' μ',Inv P S w0 M0 s0 dq (env.apply o.dst V [(i,B)]) a' w' μ'→a'.tmps.size=a.tmps.size→K a' w'):o.wp P a w K Q:=by
 unfold Oper.wp
 rw [hrun]
 have vX:RV P S w' (aG S w0 M0 s0 (au env.bx i (some B)) (au μ i L) w') (au μ i L) (au env.bx i (some B)) V v:=by
  obtain ⟨_,hl,nI⟩:=h.Dp hw hi hf (fun h1 h2 h3=>(hb h1 h2 h3).1) hr
  refine (hb hl nI (fun V v hv hr=> ?_)).2
  refine bI.step P S hl (fun j B0 hj=> ?_) hr hv
  have :j≠i:=fun e=>by subst e; rw [hi] at hj; cases hj
  rw [bg _ _ this,bg _ _ this]
  exact ⟨B0,hj,cM.refl S _ _⟩
 obtain ⟨hI,_,_⟩:=h.Dp hw hi hf (fun h1 h2 h3=>(hb h1 h2 h3).1) hr
 refine hK _ w' _ (hI.put hd vX fun j hj=> ?_) ?_
 · rcases hV j hj with rfl | hj
   · show au env.bx j (some B) j≠none
     rw [aR]; simp
   · by_cases e:j=i
     · subst e; exact absurd hi hj
     · show au env.bx i (some B) j≠none
       rw [bg _ _ e]; exact hj
 · cases o.dst <;> simp [Act.put]
end
end Go.Sy
namespace Go.Sy
section
variable (P:Program) (S:aS) (ak:Nat→Nat)
def uJ:Ty→Value
 | .int k=> .int k 0
 | .bool=> .bool false
 | .str=> .string ⟨#[]⟩
 | .sl _=> .slice none 0 0
 | .pt=> .pointer none
 | .st _=> .bool false
def su:Ty→List Value
 | .st u=>(S.F u).map uJ
 | t=> [uJ t]
def pZ:(ts:List Ty)→aq S.C ts
 | []=>()
 | t::ts=>aq.cons (Ty.zero S t) (pZ ts)
def bZ (t:Nat) (T:Ty):Prop:=
 (∃ i z,P.info? t=some i∧i.size=Ty.sz S T∧i.zero=some z∧isAgg z=bq T∧z.cells.toList=su S T)∧
 match T with
 | .int k=>P.underlying t=some (.int k)
 | .bool=>P.underlying t=some .bool
 | .str=>P.underlying t=some .string
 | .pt=> ∃ e,P.underlying t=some (.pointer e)
 | .sl e=> ∃ te ie,P.underlying t=some (.slice te)∧S.ty te=some e∧P.info? te=some ie∧ie.bytes=ak t∧1≤ak t
 | .st u=>(S.ex u (S.z u)=pZ S (S.F u)∧(P.built t []).isSome=true)∧match S.ar t with
  | none=> ∃ fs,P.underlying t=some (.struct fs)∧
   ∀ f o T',S.eG u f=some (o,T')→ ∃ fd,fs[f]? =some fd∧fd.offset=o∧S.ty fd.type=some T'∧1≤Ty.sz S T'∧o+Ty.sz S T'≤(S.F u).length
  | some (n,e)=> ∃ te,P.underlying t=some (.array n te)∧S.ty te=some e∧((Ty.sz S e=1∧bq e=false∧S.F u=List.replicate n e)∨ ∃ w,e= .st w∧S.F u=(List.replicate n (S.F w)).flatten)∧ ∀ f o T',S.eG u f=some (o,T')→o=f*Ty.sz S e∧T'=e∧f<n
def uO (S:aS):List Field→List Ty→Nat→Prop
 | [],[],_=>True
 | fd::fs,T::ts,i=>fd.offset=i∧fd.name≠ "_" ∧S.ty fd.type=some T∧(match T with | .int _=>True | .bool=>True | .str=>True | _=>False)∧uO S fs ts (i+1)
 | _,_,_=>False
def uP (P:Program) (S:aS):List Field→List Ty→Nat→Prop
 | [],ts,_=>ts= []
 | fd::fs,ts,i=>fd.offset=i∧fd.name≠ "_" ∧
  ((∃ T r,ts=T::r∧S.ty fd.type=some T∧(match T with | .int _=>True | .bool=>True | .str=>True | _=>False)∧uP P S fs r (i+1))∨
   ∃ v r gs,ts=S.F v++r∧S.ty fd.type=some (.st v)∧P.underlying fd.type=some (.struct gs)∧P.stoodInHeld fd.type=false∧1≤(S.F v).length∧uO S gs.toList (S.F v) 0∧uP P S fs r (i+(S.F v).length))
def EqAt (P:Program) (S:aS) (t:Nat):Prop:=
 ∃ u,S.ty t=some (.st u)∧(∃ fs,P.underlying t=some (.struct fs)∧uP P S fs.toList (S.F u) 0)∧P.stoodInHeld t=false∧P.eqGuardType P.depth t=false
structure aV:Prop extends cT S where
 ty: ∀ t T,S.ty t=some T→bZ P S ak t T
 pt: ∀ t,S.pt t=true→ ∃ e,P.underlying t=some (.pointer e)
 eq: ∀ t,S.eq t=true→EqAt P S t
 oX: ∀ t,S.oX t=true→ ∃ ms,P.underlying t=some (.interface ms)
 bt: ∀ p,S.bt=some p→p.1≠p.2∧ ∃ i z,P.info? p.1=some i∧i.zero=some z∧z.cells= #[.pointer none, .slice none 0 0]
variable {P S ak}
theorem aV.agg (h:aV P S ak) {t:Nat} {T:Ty} (ht:S.ty t=some T) (w:World):(Go.isAgg t).run P w= .ok (bq T) w:=by
 obtain ⟨_,h2⟩:=h.ty t T ht
 unfold Go.isAgg
 cases T with
 | int k=>simp [run_underlying h2,bq]
 | bool=>simp [run_underlying h2,bq]
 | str=>simp [run_underlying h2,bq]
 | pt=>obtain ⟨e,h2⟩:=h2; simp [run_underlying h2,bq]
 | sl e=>obtain ⟨te,ie,hu,_⟩:=h2; simp [run_underlying hu,bq]
 | st u=>
  obtain ⟨_,h2⟩:=h2
  cases ha:S.ar t with
  | none=>rw [ha] at h2; obtain ⟨fs,hu,_⟩:=h2; simp [run_underlying hu,bq]
  | some p=>rw [ha] at h2; obtain ⟨te,hu,_⟩:=h2; simp [run_underlying hu,bq]
theorem aV.size (h:aV P S ak) {t:Nat} {T:Ty} (ht:S.ty t=some T) (w:World):(Go.sizeOf t).run P w= .ok (Ty.sz S T) w:=by
 obtain ⟨⟨i,z,h1,h2,_⟩,_⟩:=h.ty t T ht
 simp [Go.sizeOf,typeInfo,h1,h2]
theorem aV.KP (h:aV P S ak) {t:Nat} {T:Ty} (ht:S.ty t=some T): ∃ d,P.underlying t=some d:=by
 obtain ⟨_,h2⟩:=h.ty t T ht
 cases T with
 | int k=>exact ⟨_,h2⟩
 | bool=>exact ⟨_,h2⟩
 | str=>exact ⟨_,h2⟩
 | pt=>obtain ⟨e,h2⟩:=h2; exact ⟨_,h2⟩
 | sl e=>obtain ⟨te,ie,hu,_⟩:=h2; exact ⟨_,hu⟩
 | st u=>
  obtain ⟨_,h2⟩:=h2
  cases ha:S.ar t with
  | none=>rw [ha] at h2; obtain ⟨fs,hu,_⟩:=h2; exact ⟨_,hu⟩
  | some p=>rw [ha] at h2; obtain ⟨te,hu,_⟩:=h2; exact ⟨_,hu⟩
theorem eU {bx:Bx S.C} {ids:List Nat} {i:Nat} {B:dP S.C} (h:restrict S bx ids i=some B):bx i=some B:=by
 unfold restrict at h
 cases e:ids.contains i with
 | true=>rw [e] at h; exact h
 | false=>rw [e] at h; cases h
variable {w0:World} {M0 s0:St} {dq:List Deferred} {env:Env S.C} {a:Act} {w:World} {μ:Nat→Loc} {K:Act→World→Prop} {Q:Exit→Act→World→Prop} {o:Oper} {V:V S.C} {us:aI S.C}
def Goal (P:Program) (S:aS) (w0:World) (M0 s0:St) (dq:List Deferred) (env:Env S.C) (a:Act) (dst:Option Nat) (V:Sy.V S.C) (us:aI S.C) (K:Act→World→Prop):Prop:=
 ∀ a' w' μ',Inv P S w0 M0 s0 dq (env.apply dst V us) a' w' μ'→a'.tmps.size=a.tmps.size→K a' w'
theorem bE {V V':Sy.V S.C} {us us':aI S.C} (h:(aB S V us).leaf (V',us')):V'=V∧us'=us:=by
 have :(V,us)=(V',us'):=h
 cases this; exact ⟨rfl,rfl⟩
theorem Dl {nl:Bool} (h:Inv P S w0 M0 s0 dq env a w μ) (hd: ∀ d,o.dst=some d→d<a.tmps.size) {x:Operand} {B:Nat} (ho:execOp a.eval o=pure (.value (a.eval x)))
 (hnew: ∀ u ∈ us,B≤u.1→u.1<B+16→env.bx u.1=none)
 (hl:(match aO S env.tm x with
  | some .cI=>cond nl (aB S .cI []) (match eM S o.type with
   | some e=>aB S (.aZ B e []) [(B, .tail)]
   | none=> .fail)
  | some v=>aB S v []
  | none=> .fail).leaf (V,us)) (hK:Goal P S w0 M0 s0 dq env a o.dst V us K):o.wp P a w K Q:=by
 have hrun:(execOp a.eval o).run P w= .ok (.value (a.eval x)) w:=by rw [ho]; rfl
 split at hl
 · rename_i hx
   obtain ⟨hv,_⟩:=bB h hx
   cases nl with
   | true=>
    obtain ⟨rfl,rfl⟩:=bE hl
    exact wp_pure h hrun hd hv (by simp [aA,az]) hK
   | false=>
   rw [cond_false] at hl
   split at hl
   · rename_i e he
     obtain ⟨rfl,rfl⟩:=bE hl
     have hB:=hnew (B, .tail) (by simp) (Nat.le_refl _) (by show B<B+16; omega)
     have hv:a.eval x= .slice none 0 0:=hv
     refine pV (i:=B) (B:= .tail) (L:=⟨0,0,0,0,true⟩) h hrun hd (aY.refl w _) hB (fun b o hf=> ?_) (fun _ _ _=>⟨fun j hj=>absurd hj (Nat.not_lt_zero j), ?_⟩) (by simp) (fun j hj=> .inl (by simpa [aA,az] using hj)) hK
     · have h1:=hf.2.1; have h2:=hf.2.2; simp at h2
     · rw [hv]
       refine ⟨⟨rfl,1,none,0,rfl,Nat.le_refl _, .inl rfl⟩,fun _=>⟨none,0,rfl, ?_⟩⟩
       rw [aR]
       exact .inl ⟨rfl,rfl,rfl⟩
   · exact hl.elim
 · rename_i v hne hx
   obtain ⟨rfl,rfl⟩:=bE hl
   obtain ⟨hv,hr⟩:=bB h hx
   exact wp_pure h hrun hd hv hr hK
 · exact hl.elim
theorem lD {w:World} {s:St} {k:IntKind} {n:Int} {v:Value} (h:cA S w s (.int k) n v):v= .int k n:=by
 obtain ⟨ha,m,hm⟩:=h
 cases m with
 | zero=>exact hm.elim
 | succ m=>exact oJ hm ha
theorem p8 {w:World} {s:St} {b:Bool} {v:Value} (h:cA S w s .bool b v):v= .bool b:=by
 obtain ⟨ha,m,hm⟩:=h
 cases m with
 | zero=>exact hm.elim
 | succ m=>exact oJ hm ha
theorem mF {w:World} {s:St} {b:List UInt8} {v:Value} (h:cA S w s .str b v):v= .string ⟨b.toArray⟩:=by
 obtain ⟨ha,m,hm⟩:=h
 cases m with
 | zero=>exact hm.elim
 | succ m=>exact oJ hm ha
theorem lE {w:World} {s:St} {e:Ty} {l:List (e.den S.C)} {v:Value} (h:cA S w s (.sl e) l v):
 ∃ a cap,v= .slice a l.length cap∧l.length≤cap∧(l.length=0∨ ∃ b o n,a=some ⟨b,o,none⟩∧uN S (fun t x cs=>aC S w s n t x cs) w s e b o l):=by
 obtain ⟨ha,m,hm⟩:=h
 cases m with
 | zero=>exact hm.elim
 | succ m=>
  obtain ⟨a,cap,h1,h2,h3⟩:=hm
  exact ⟨a,cap,oJ h1 ha,h2,h3.imp id fun ⟨b,o,h4,h5⟩=>⟨b,o,m,h4,h5⟩⟩
theorem iI (w:World) (s:St) (k:IntKind) (n:Int):cA S w s (.int k) n (.int k n):=⟨rfl,1,rfl⟩
theorem nF (w:World) (s:St) (b:Bool):cA S w s .bool b (.bool b):=⟨rfl,1,rfl⟩
theorem AS (w:World) (s:St) (b:List UInt8):cA S w s .str b (.string ⟨b.toArray⟩):=⟨rfl,1,rfl⟩
theorem jr {w:World} {s:St} {bx:Bx S.C} {V:Sy.V S.C} {v:Value} {k:IntKind} {n:Int} (h:RV P S w s μ bx V v) (hi:V.int?=some (k,n)):v= .int k n:=by
 unfold Sy.V.int? at hi
 split at hi
 · cases hi; exact lD h
 · cases hi
theorem AR {w:World} {s:St} {bx:Bx S.C} {V:Sy.V S.C} {v:Value} {b:List UInt8} (h:RV P S w s μ bx V v) (hi:V.pQ=some b):v= .string ⟨b.toArray⟩:=by
 unfold Sy.V.pQ at hi
 split at hi
 · cases hi; exact mF h
 · cases hi
theorem FG {w:World} {s:St} {bx:Bx S.C} {V:Sy.V S.C} {v:Value} {b:Bool} (h:RV P S w s μ bx V v) (hi:V.bool?=some b):v= .bool b:=by
 unfold Sy.V.bool? at hi
 split at hi
 · cases hi; exact p8 h
 · cases hi; exact h
 · cases hi
theorem Gh (h:Inv P S w0 M0 s0 dq env a w μ) {x:Operand} {b:Bool} (hx:aO S env.tm x=some (.d .bool b)):a.eval x= .bool b:=
 p8 (bB h hx).1
theorem Sp (h:Inv P S w0 M0 s0 dq env a w μ) (hd: ∀ d,o.dst=some d→d<a.tmps.size) {c x y:Operand} (ho:o.op= .pick c x y)
 (hl:(match aO S env.tm c with
  | some (.d .bool b)=>match (b:Bool) with
   | true=>match aO S env.tm x with
    | some v=>aB S v []
    | none=> .fail
   | false=>match aO S env.tm y with
    | some v=>aB S v []
    | none=> .fail
  | _=> .fail).leaf (V,us)) (hK:Goal P S w0 M0 s0 dq env a o.dst V us K):o.wp P a w K Q:=by
 split at hl
 · rename_i b hc
   have hb:=Gh h hc
   cases b with
   | true=>
    dsimp only at hl
    split at hl
    · rename_i v hx
      obtain ⟨rfl,rfl⟩:=bE hl
      obtain ⟨hv,hr⟩:=bB h hx
      exact wp_pure h (by simp [execOp,ho,hb,asBool]) hd hv hr hK
    · exact hl.elim
   | false=>
    dsimp only at hl
    split at hl
    · rename_i v hx
      obtain ⟨rfl,rfl⟩:=bE hl
      obtain ⟨hv,hr⟩:=bB h hx
      exact wp_pure h (by simp [execOp,ho,hb,asBool]) hd hv hr hK
    · exact hl.elim
 · exact hl.elim
end
end Go.Sy
namespace Go.Sy
section
variable {P:Program} {S:aS} {ak:Nat→Nat}
variable {w0:World} {M0 s0:St} {dq:List Deferred} {env:Env S.C} {a:Act} {w:World} {μ:Nat→Loc} {K:Act→World→Prop} {Q:Exit→Act→World→Prop} {o:Oper} {V:V S.C} {us:aI S.C}
theorem sN {α:Type} [BEq α] [LawfulBEq α] [DecidableEq α] (x y:α):(x == y)=decide (x=y):=by rw [Bool.eq_iff_iff]; simp
theorem fN {gs:List Gd} {V':Sy.V S.C} {us':aI S.C} (h:(Tr.gd gs (aB S V' us')).leaf (V,us)):(∀ g ∈ gs,g.p)∧V=V'∧us=us':=by
 obtain ⟨h1,h2⟩:=Tr.C9 gs h
 exact ⟨h1,bE h2⟩
theorem MD {op:BinOp} {k k':IntKind} (hk:HT op=true∨k=k') {x y:Int} {gs:List Gd} (h:arith S op k x y=some (gs,V)) (hg: ∀ g ∈ gs,g.p) (t:TypeId) (w:World):
 (∃ v,(binOp op t (.int k x) (.int k' y)).run P w= .ok v w∧ ∀ (w1:World) (s:St) (μ:Nat→Loc) (bx:Bx S.C),RV P S w1 s μ bx V v)∧aA S V= []:=by
 cases op <;> simp only [arith] at h <;> cases h
 case add=>rcases hk with hk | rfl; cases hk; exact ⟨⟨_,by simp [binOp,Op.intArith],fun _ _ _ _=>iI ..⟩,rfl⟩
 case sub=>rcases hk with hk | rfl; cases hk; exact ⟨⟨_,by simp [binOp,Op.intArith],fun _ _ _ _=>iI ..⟩,rfl⟩
 case mul=>rcases hk with hk | rfl; cases hk; exact ⟨⟨_,by simp [binOp,Op.intArith],fun _ _ _ _=>iI ..⟩,rfl⟩
 case quo=>
  rcases hk with hk | rfl; cases hk
  have h0: ¬ y=0:=hg _ (List.mem_singleton.2 rfl)
  exact ⟨⟨_,by simp [binOp,Op.intDiv,h0],fun _ _ _ _=>iI ..⟩,rfl⟩
 case rem=>
  rcases hk with hk | rfl; cases hk
  have h0: ¬ y=0:=hg _ (List.mem_singleton.2 rfl)
  exact ⟨⟨_,by simp [binOp,Op.intDiv,h0],fun _ _ _ _=>iI ..⟩,rfl⟩
 case and=>rcases hk with hk | rfl; cases hk; exact ⟨⟨_,by simp [binOp,Op.intBits],fun _ _ _ _=>iI ..⟩,rfl⟩
 case shl=>
  have h0:0≤y:=hg _ (List.mem_singleton.2 rfl)
  have h0': ¬ y<0:=by omega
  exact ⟨⟨_,by simp [binOp,Op.shift,h0'],fun _ _ _ _=>iI ..⟩,rfl⟩
 case shr=>
  have h0:0≤y:=hg _ (List.mem_singleton.2 rfl)
  have h0': ¬ y<0:=by omega
  exact ⟨⟨_,by simp [binOp,Op.shift,h0'],fun _ _ _ _=>iI ..⟩,rfl⟩
 case eql=>rcases hk with hk | rfl; cases hk; exact ⟨⟨.bool (decide (x=y)),by simp [binOp,Op.intCmp,sN],fun _ _ _ _=>rfl⟩,rfl⟩
 case neq=>rcases hk with hk | rfl; cases hk; exact ⟨⟨.bool (decide (x≠y)),by simp [binOp,Op.intCmp,bne,sN],fun _ _ _ _=>rfl⟩,rfl⟩
 case lss=>rcases hk with hk | rfl; cases hk; exact ⟨⟨.bool (decide (x<y)),by simp [binOp,Op.intCmp],fun _ _ _ _=>rfl⟩,rfl⟩
 case leq=>rcases hk with hk | rfl; cases hk; exact ⟨⟨.bool (decide (x≤y)),by simp [binOp,Op.intCmp],fun _ _ _ _=>rfl⟩,rfl⟩
 case gtr=>rcases hk with hk | rfl; cases hk; exact ⟨⟨.bool (decide (y<x)),by simp [binOp,Op.intCmp],fun _ _ _ _=>rfl⟩,rfl⟩
 case geq=>rcases hk with hk | rfl; cases hk; exact ⟨⟨.bool (decide (y≤x)),by simp [binOp,Op.intCmp],fun _ _ _ _=>rfl⟩,rfl⟩
theorem Vg {op:BinOp} {x y:List UInt8} {gs:List Gd} (h:Ez S op x y=some (gs,V)) (hg: ∀ g ∈ gs,g.p) (t:TypeId) (w:World):
 (∃ v,(binOp op t (.string ⟨x.toArray⟩) (.string ⟨y.toArray⟩)).run P w= .ok v w∧ ∀ (w1:World) (s:St) (μ:Nat→Loc) (bx:Bx S.C),RV P S w1 s μ bx V v)∧aA S V= []:=by
 cases op <;> simp only [Ez] at h <;> cases h
 case add=>
  have h0:x.length+y.length≤9223372036854775807:=hg _ (List.mem_singleton.2 rfl)
  refine ⟨⟨.string ⟨(x++y).toArray⟩, ?_,fun _ _ _ _=>AS ..⟩,rfl⟩
  have h1: ¬ (IntKind.i64.max<((ByteArray.size ⟨x.toArray⟩+ByteArray.size ⟨y.toArray⟩:Nat):Int)):=by
   show ¬ ((9223372036854775807:Int)<((x.toArray.size+y.toArray.size:Nat):Int))
   simp; omega
  have h2:(⟨x.toArray⟩:ByteArray)++⟨y.toArray⟩=⟨(x++y).toArray⟩:=by
   apply ByteArray.ext; simp
  simp only [binOp,Op.stringOp]
  rw [if_neg h1,h2]
  rfl
 case eql=>exact ⟨⟨.bool (decide (x=y)),by simp [binOp,Op.stringOp,sN],fun _ _ _ _=>rfl⟩,rfl⟩
 case neq=>exact ⟨⟨.bool (decide (x≠y)),by simp [binOp,Op.stringOp,sN],fun _ _ _ _=>rfl⟩,rfl⟩
def DG:Value→Bool
 | .agg _ | .nilIface=>false
 | _=>true
theorem BM {op:BinOp} {t:TypeId} {x y:Operand} {v u:Value} (h:DG v=true) (w:World):(eqGuard op t x y v u).run P w= .ok () w:=by
 unfold eqGuard
 cases v <;> first | (simp [DG] at h; done) | (simp; done) | (simp; split <;> rfl)
theorem Ur (d:Nat) {t:TypeId} (hu:P.underlying t=some .bool) (b c:Bool) (w:World):(Op.equalIn (d+1) t (.bool b) (.bool c)).run P w= .ok (b == c) w:=by
 unfold Op.equalIn
 simp [run_underlying hu]
theorem JL {t:TypeId} (hu:P.underlying t=some .bool) (b c:Bool) (w:World):(Op.equal t (.bool b) (.bool c)).run P w= .ok (b == c) w:=Ur 9999 hu b c w
theorem Us (d:Nat) {t e:TypeId} (hu:P.underlying t=some (.pointer e))  (w:World):(Op.equalIn (d+1) t (.pointer none) (.pointer none)).run P w= .ok true w:=by
 unfold Op.equalIn
 simp [run_underlying hu]
theorem JM {t e:TypeId} (hu:P.underlying t=some (.pointer e))  (w:World):(Op.equal t (.pointer none) (.pointer none)).run P w= .ok true w:=Us 9999 hu w
theorem Ut (d:Nat) {t e:TypeId} (hu:P.underlying t=some (.pointer e)) (p:Addr) (w:World):(Op.equalIn (d+1) t (.pointer (some p)) (.pointer none)).run P w= .ok false w:=by
 unfold Op.equalIn
 simp [run_underlying hu]
theorem JN {t e:TypeId} (hu:P.underlying t=some (.pointer e)) (p:Addr) (w:World):(Op.equal t (.pointer (some p)) (.pointer none)).run P w= .ok false w:=Ut 9999 hu p w
theorem MR (hP:aV P S ak) (h:Inv P S w0 M0 s0 dq env a w μ) (hd: ∀ d,o.dst=some d→d<a.tmps.size) {op:BinOp} {t t':TypeId} {x y:Operand} (ho:o.op= .binOp op t x y t')
 (hl:(match aO S env.tm x,aO S env.tm y with
  | some p,some q=>match xZ S op t p q with
   | some (gs,v)=>Tr.gd gs (aB S v [])
   | none=> .fail
  | _,_=> .fail).leaf (V,us)) (hK:Goal P S w0 M0 s0 dq env a o.dst V us K):o.wp P a w K Q:=by
 split at hl
 · rename_i p q hx hy
   split at hl
   · rename_i gs v hb
     obtain ⟨hg,rfl,rfl⟩:=fN hl
     obtain ⟨hv1,_⟩:=bB h hx
     obtain ⟨gp,_⟩:=bB h hy
     have fin: ∀ (v1 v2:Value),a.eval x=v1→a.eval y=v2→DG v1=true→
      ((∃ v,(binOp op t v1 v2).run P w= .ok v w∧ ∀ (w1:World) (s:St) (μ:Nat→Loc) (bx:Bx S.C),RV P S w1 s μ bx V v)∧aA S V= [])→o.wp P a w K Q:=by
      rintro v1 v2 e1 e2 ha ⟨⟨v,hr,hv⟩,hid⟩
      refine wp_pure h (v:=v) ?_ hd (hv ..) (by simp [hid]) hK
      unfold execOp
      simp only [ho,e1,e2]
      simp [BM ha,hr]
     unfold xZ at hb
     split at hb
     · rename_i k i k' j h1 h2
       split at hb
       · rename_i hk
         exact fin _ _ (jr hv1 h1) (jr gp h2) rfl (MD hk hb hg t w)
       · cases hb
     · split at hb
       · rename_i h1 h2
         exact fin _ _ (AR hv1 h1) (AR gp h2) rfl (Vg hb hg t w)
       · split at hb
         · rename_i b c h1 h2
           have e1:=FG hv1 h1
           have e2:=FG gp h2
           cases hty:S.ty t with
           | none=>rw [hty] at hb; cases hb
           | some T=>
            rw [hty] at hb
            cases T with
            | bool=>
             have hu:P.underlying t=some .bool:=(hP.ty t _ hty).2
             refine fin _ _ e1 e2 rfl ?_
             dsimp only [cond] at hb
             split at hb <;> cases hb
             · exact ⟨⟨.bool (decide (b=c)),by simp [binOp,JL hu,sN],fun _ _ _ _=>rfl⟩,rfl⟩
             · exact ⟨⟨.bool (decide (b≠c)),by simp [binOp,JL hu,sN],fun _ _ _ _=>rfl⟩,rfl⟩
            | _=>cases hb
         · cases CE:S.pt t with
           | false=>rw [CE] at hb; cases hb
           | true=>
            rw [CE] at hb
            obtain ⟨e,hu⟩:=hP.pt t CE
            dsimp only [cond] at hb
            split at hb
            · have e1:a.eval x= .pointer none:=hv1
              have e2:a.eval y= .pointer none:=gp
              refine fin _ _ e1 e2 rfl ?_
              split at hb <;> cases hb
              · exact ⟨⟨.bool true,by simp [binOp,JM hu],fun _ _ _ _=>nF ..⟩,rfl⟩
              · exact ⟨⟨.bool false,by simp [binOp,JM hu],fun _ _ _ _=>nF ..⟩,rfl⟩
            · rename_i b off
              have e2:a.eval y= .pointer none:=gp
              have e1:a.eval x=_:=hv1
              refine fin _ _ e1 e2 rfl ?_
              split at hb <;> cases hb
              · exact ⟨⟨.bool false,by simp [binOp,JN hu],fun _ _ _ _=>nF ..⟩,rfl⟩
              · exact ⟨⟨.bool true,by simp [binOp,JN hu],fun _ _ _ _=>nF ..⟩,rfl⟩
            · cases hb
   · exact hl.elim
 · exact hl.elim
end
end Go.Sy
namespace Go.Sy
section
variable {P:Program} {S:aS} {ak:Nat→Nat}
variable {w0:World} {M0 s0:St} {dq:List Deferred} {env:Env S.C} {a:Act} {w:World} {μ:Nat→Loc} {K:Act→World→Prop} {Q:Exit→Act→World→Prop} {o:Oper} {V:V S.C} {us:aI S.C}
theorem nG {t:Nat} {e:Ty} (h:eM S t=some e):S.ty t=some (.sl e):=by
 unfold eM at h
 split at h
 · rename_i e' he; cases h; exact he
 · cases h
theorem aV.sl (hP:aV P S ak) {t:Nat} {e:Ty} (h:S.ty t=some (.sl e)): ∃ te ie z,P.underlying t=some (.slice te)∧S.ty te=some e∧P.info? te=some ie∧ie.bytes=ak t∧1≤ak t∧ie.size=Ty.sz S e∧ie.zero=some z∧isAgg z=bq e∧z.cells.toList=su S e:=by
 obtain ⟨_,te,ie,h1,h2,h3,h4,h5⟩:=hP.ty t _ h
 obtain ⟨⟨i,z,g1,g2,g3,g4,g5⟩,_⟩:=hP.ty te e h2
 rw [h3] at g1
 cases g1
 exact ⟨te,ie,z,h1,h2,h3,h4,h5,g2,g3,g4,g5⟩
theorem Ef (hP:aV P S ak) {t:Nat} {e:Ty} (ht:S.ty t=some (.sl e)) {b o' n cap:Nat} {k:IntKind} {i:Int} (h0:0≤i) (h1:i<(n:Int)) (w:World):
 (Instr.indexAt t (.slice (some ⟨b,o',none⟩) n cap) (.int k i)).run P w= .ok (.pointer (some ⟨b,o'+i.toNat*Ty.sz S e,none⟩)) w:=by
 obtain ⟨te,ie,z,hu,he,_⟩:=hP.sl ht
 simp [Instr.indexAt,asIntOf,run_underlying hu,h0,h1,hP.size he w,Addr.add_mid]
theorem sZ {e:Ty} {l:List (e.den S.C)} {i:Int} (h0:0≤i) (h1:i<(l.length:Int)):l[i.toNat]? =some (gE S e l i):=by
 have :i.toNat<l.length:=by omega
 unfold gE
 rw [List.getD_eq_getElem?_getD,List.getElem?_eq_getElem this]
 rfl
theorem IT {b:Nat} {i:Int} {p:Sy.V S.C×aI S.C} : ∀ (n j:Nat),(DE S b i j n).leaf p→ ∃ k:Nat,i=(k:Int)∧p=(.ptr b k,[])
 | 0,_,h=>h.elim
 | n+1,j,h=>by
  rcases h with ⟨h1,h2⟩ | ⟨_,h2⟩
  · exact ⟨j,h1,h2.symm⟩
  · exact IT n (j+1) h2
theorem QH (hP:aV P S ak) (h:Inv P S w0 M0 s0 dq env a w μ) (hd: ∀ d,o.dst=some d→d<a.tmps.size) {t:TypeId} {x i:Operand} {ids:List Nat} (ho:o.op= .indexAddr t x i)
 (hl:(match eM S t,aO S env.tm x,aO S env.tm i with
  | some e,some v,some w=>match w.int? with
   | some (_,n)=>C1 S e (restrict S env.bx ids) n v
   | none=> .fail
  | _,_,_=> .fail).leaf (V,us)) (hK:Goal P S w0 M0 s0 dq env a o.dst V us K):o.wp P a w K Q:=by
 split at hl
 · rename_i e v wv het hx hi
   have ht:=nG het
   obtain ⟨hv,dx⟩:=bB h hx
   obtain ⟨nM,_⟩:=bB h hi
   split at hl
   · rename_i k n hn
     have hin:=jr nM hn
     have data: ∀ (e':Ty) (l:List (e'.den S.C)),cA S w (aG S w0 M0 s0 env.bx μ w) (.sl e') l (a.eval x)→(if e'=e then Tr.gd (ey n l.length) (aB S (.dw e' (gE S e' l n)) []) else .fail).leaf (V,us)→o.wp P a w K Q:=by
      intro e' l hr cx
      clear hl
      split at cx
      · rename_i he
        subst he
        obtain ⟨hg,rfl,rfl⟩:=fN cx
        have g0:0≤n:=hg ⟨0≤n,inferInstance⟩ (by simp [ey,gd])
        have g1:n<(l.length:Int):=hg ⟨n<(l.length:Int),inferInstance⟩ (by simp [ey,gd])
        obtain ⟨ad,cap,e1,e2,e3⟩:=lE hr
        rcases e3 with e3 | ⟨b,o',m,rfl,hel⟩
        · omega
        · obtain ⟨ds,d1,d2,d3⟩:=hel n.toNat _ (sZ g0 g1)
          refine wp_pure (V:= .dw e' (gE S e' l n)) h (v:= .pointer (some ⟨b,o'+n.toNat*Ty.sz S e',none⟩)) ?_ hd ⟨b,_,ds,rfl,d2,d1,m,d3⟩ (by simp [aA,az]) hK
          unfold execOp
          simp only [ho,e1,hin]
          simp [Ef hP ht g0 g1]
      · exact cx.elim
     have own: ∀ (b:Nat) (e':Ty) (l:List (e'.den S.C)),v= .aQ b→(env.bx b=some (.arr e' l)∨env.bx b=some (.bM e' l))→(if e'=e then Tr.gd (ey n l.length) (aB S (.eY b n 0) []) else .fail).leaf (V,us)→o.wp P a w K Q:=by
      intro b e' l CO hb cx
      clear hl
      split at cx
      · rename_i he
        subst he
        obtain ⟨hg,rfl,rfl⟩:=fN cx
        have g0:0≤n:=hg ⟨0≤n,inferInstance⟩ (by simp [ey,gd])
        have g1:n<(l.length:Int):=hg ⟨n<(l.length:Int),inferInstance⟩ (by simp [ey,gd])
        subst CO
        obtain ⟨ad,cap,e1,hao⟩:=hv.2 e' l hb
        have vO:(μ b).nil=false:=by
         cases iF:(μ b).nil with
         | false=>rfl
         | true=>have :=hao.isNil iF; have :=hao.lJ; have :=hao.fits; omega
        have had:ad=some ⟨(μ b).b,(μ b).o,none⟩:=by rw [hao.addr,vO]; rfl
        subst had
        refine wp_pure (V:= .eY b n 0) h (v:= .pointer (some ⟨(μ b).b,(μ b).o+n.toNat*Ty.sz S e',none⟩)) ?_ hd ⟨⟨_,rfl⟩,fun e'' l'' vD=> ?_⟩ (fun j hj=>dx j (by simpa [aA,az] using hj)) hK
        · unfold execOp
          simp only [ho,e1,hin]
          simp [Ef hP ht g0 g1]
        · have :(∃ h:e''=e',h▸l''=l):=by
           rcases hb with hb | hb <;> rcases vD with vD | vD <;> rw [hb] at vD <;> cases vD <;> exact ⟨rfl,rfl⟩
          obtain ⟨rfl,rfl⟩:=this
          exact ⟨g0,by show n.toNat<l''.length; have g1:n<(l''.length:Int):=g1; omega,rfl⟩
      · exact cx.elim
     unfold C1 at hl
     split at hl
     · exact data _ _ hv hl
     · exact data _ _ hv.1 hl
     · rename_i b
       split at hl
       · rename_i hb; exact own _ _ _ rfl (.inl (eU hb)) hl
       · rename_i hb; exact own _ _ _ rfl (.inr (eU hb)) hl
       · exact hl.elim
     · rename_i b m
       split at hl
       · rename_i e1
         obtain ⟨hg,hl⟩:=Tr.C9 _ hl
         have g0:0≤n:=hg ⟨0≤n,inferInstance⟩ (by simp [ey,gd])
         have g1:n<(m:Int):=hg ⟨n<(m:Int),inferInstance⟩ (by simp [ey,gd])
         obtain ⟨j,hj,hp⟩:=IT m 0 hl
         cases hp
         have hv:a.eval x= .slice (some ⟨(μ b).b,(μ b).o,none⟩) m m:=hv
         have e2:n.toNat=j:=by omega
         refine wp_pure (V:= .ptr b j) h (v:= .pointer (some ⟨(μ b).b,(μ b).o+j,none⟩)) ?_ hd rfl (fun j hj=>dx j (by simpa [aA,az] using hj)) hK
         unfold execOp
         simp only [ho,hv,hin]
         have :=Ef hP ht (b:=(μ b).b) (o':=(μ b).o) (n:=m) (cap:=m) (k:=k) g0 g1
         rw [e2,show j*Ty.sz S (.sl e1)=j from Nat.mul_one j] at this
         simp [this]
       · exact hl.elim
     · exact hl.elim
   · exact hl.elim
 · exact hl.elim
theorem QJ (hP:aV P S ak) (h:Inv P S w0 M0 s0 dq env a w μ) (hd: ∀ d,o.dst=some d→d<a.tmps.size) {t:TypeId} {x i:Operand} (ho:o.op= .index t x i)
 (hl:(match aO S env.tm x,aO S env.tm i with
  | some v,some w=>match S.ty t,v.pQ,w.int? with
   | some .str,some s,some (_,n)=>Tr.gd (ey n s.length) (aB S (.d (.int .u8) (((s.getD n.toNat 0).toNat:Nat):Int)) [])
   | _,_,_=> .fail
  | _,_=> .fail).leaf (V,us)) (hK:Goal P S w0 M0 s0 dq env a o.dst V us K):o.wp P a w K Q:=by
 split at hl
 · rename_i v wv hx hi
   obtain ⟨hv,dx⟩:=bB h hx
   obtain ⟨nM,_⟩:=bB h hi
   split at hl
   · rename_i s k n ht hs hn
     obtain ⟨hg,rfl,rfl⟩:=fN hl
     have g0:0≤n:=hg ⟨0≤n,inferInstance⟩ (by simp [ey,gd])
     have g1:n<(s.length:Int):=hg ⟨n<(s.length:Int),inferInstance⟩ (by simp [ey,gd])
     have hu:P.underlying t=some .string:=(hP.ty t _ ht).2
     have hlt:n.toNat<s.length:=by omega
     refine wp_pure (V:= .d (.int .u8) (((s.getD n.toNat 0).toNat:Nat):Int)) h (v:= .int .u8 (((s.getD n.toNat 0).toNat:Nat):Int)) ?_ hd (iI ..) (by simp [aA,az]) hK
     unfold execOp
     simp only [ho,AR hv hs,jr nM hn]
     have e1:(⟨s.toArray⟩:ByteArray)[n.toNat]? =some (s.getD n.toNat 0):=by
      rw [List.getD_eq_getElem?_getD,List.getElem?_eq_getElem hlt]
      show (if h:n.toNat<s.toArray.size then some _ else none)=_
      rw [dif_pos (by simpa using hlt)]
      rfl
     simp [Instr.index,asIntOf,run_underlying hu,g0,e1]
   · exact hl.elim
 · exact hl.elim
theorem Ot (h:Inv P S w0 M0 s0 dq env a w μ) (hd: ∀ d,o.dst=some d→d<a.tmps.size) {x:Operand} {i:Nat} (ho:o.op= .extract x i)
 (hl:(match aO S env.tm x with
  | some (.iy vs)=>match vs[i]? with
   | some v=>aB S v []
   | none=> .fail
  | _=> .fail).leaf (V,us)) (hK:Goal P S w0 M0 s0 dq env a o.dst V us K):o.wp P a w K Q:=by
 split at hl
 · rename_i vs hx
   obtain ⟨⟨cs,hv,hvs⟩,dx⟩:=bB h hx
   split at hl
   · rename_i v hi
     obtain ⟨rfl,rfl⟩:=bE hl
     obtain ⟨c,hc,hr⟩:=aH.get P S i hvs hi
     refine wp_pure h (v:=c) ?_ hd (mE hr) (fun j hj=> ?_) hK
     · unfold execOp
       have :cs[i]? =some c:=by simpa using hc
       simp only [ho,hv]
       simp [Instr.extract,this]
     · refine dx j ?_
       simp only [aA,List.mem_flatMap]
       refine ⟨V,List.mem_of_getElem? hi, ?_⟩
       cases V <;> first | exact hj | exact (hr:False).elim
   · exact hl.elim
 · exact hl.elim
theorem RW (h:Inv P S w0 M0 s0 dq env a w μ) (hd: ∀ d,o.dst=some d→d<a.tmps.size) {x:Operand} (ho:o.op= .nilCheck x)
 (hl:(match aO S env.tm x with
  | some (.ptr b o)=>aB S (.ptr b o) []
  | some (.dw t x)=>aB S (.dw t x) []
  | some (.eY b i p)=>aB S (.eY b i p) []
  | some (.split b c)=>aB S (.split b c) []
  | _=> .fail).leaf (V,us)) (hK:Goal P S w0 M0 s0 dq env a o.dst V us K):o.wp P a w K Q:=by
 have fin: ∀ ad,a.eval x= .pointer (some ad)→aO S env.tm x=some V→us= []→o.wp P a w K Q:=by
  rintro ad he hx rfl
  obtain ⟨hv,hr⟩:=bB h hx
  refine wp_pure h (v:=a.eval x) ?_ hd hv hr hK
  unfold execOp
  simp only [ho,he]
  rfl
 split at hl
 · rename_i b off hx
   obtain ⟨rfl,rfl⟩:=bE hl
   have hv:a.eval x=_:=(bB h hx).1
   exact fin _ hv hx rfl
 · rename_i t y hx
   obtain ⟨rfl,rfl⟩:=bE hl
   obtain ⟨b,o',ds,hv,_⟩:=(bB h hx).1
   exact fin _ hv hx rfl
 · rename_i b i p hx
   obtain ⟨rfl,rfl⟩:=bE hl
   obtain ⟨⟨ad,hv⟩,_⟩:=(bB h hx).1
   exact fin _ hv hx rfl
 · rename_i b c hx
   obtain ⟨rfl,rfl⟩:=bE hl
   obtain ⟨k,q,hv,_⟩:=(bB h hx).1
   exact fin _ hv hx rfl
 · exact hl.elim
theorem We (h:Inv P S w0 M0 s0 dq env a w μ) (hd: ∀ d,o.dst=some d→d<a.tmps.size) {op:UnOp} {t:TypeId} {x:Operand} (ho:o.op= .unOp op t x)
 (hl:(match op,aO S env.tm x with
  | .not,some (.pr p i)=>aB S (.pr (¬ p) (@instDecidableNot p i)) []
  | .not,some (.d .bool b)=>aB S (.d .bool (Bool.not b)) []
  | .neg,some v=>match v.int? with
   | some (k,n)=>aB S (.d (.int k) (k.wrap (0 - n))) []
   | none=> .fail
  | _,_=> .fail).leaf (V,us)) (hK:Goal P S w0 M0 s0 dq env a o.dst V us K):o.wp P a w K Q:=by
 split at hl
 · rename_i p i hx
   obtain ⟨rfl,rfl⟩:=bE hl
   have hv:a.eval x= .bool (decide p):=(bB h hx).1
   refine wp_pure h (v:= .bool (!decide p)) ?_ hd ?_ (by simp [aA,az]) hK
   · unfold execOp; simp only [ho,hv]; rfl
   · show Value.bool (!decide p)= .bool (decide (¬ p))
     simp
 · rename_i b hx
   obtain ⟨rfl,rfl⟩:=bE hl
   have hv:=p8 (bB h hx).1
   refine wp_pure (V:= .d .bool (Bool.not b)) h (v:= .bool (Bool.not b)) ?_ hd (nF ..) (by simp [aA,az]) hK
   unfold execOp; simp only [ho,hv]; rfl
 · rename_i v hx
   split at hl
   · rename_i k n hn
     obtain ⟨rfl,rfl⟩:=bE hl
     have hv:=jr (bB h hx).1 hn
     refine wp_pure (V:= .d (.int k) (k.wrap (0 - n))) h (v:= .int k (k.wrap (0 - n))) ?_ hd (iI ..) (by simp [aA,az]) hK
     unfold execOp; simp only [ho,hv]; rfl
   · exact hl.elim
 · exact hl.elim
theorem NA (hP:aV P S ak) (h:Inv P S w0 M0 s0 dq env a w μ) (hd: ∀ d,o.dst=some d→d<a.tmps.size) {s t:TypeId} {x:Operand} (ho:o.op= .convert s t x)
 (hl:(match S.ty s,S.ty t,aO S env.tm x with
  | some _,some (.int k),some v=>match v.int? with
   | some (_,n)=>aB S (.d (.int k) (k.wrap n)) []
   | none=> .fail
  | some _,some .str,some v=>match v.pQ with
   | some s=>aB S (.d .str s) []
   | none=> .fail
  | _,_,_=> .fail).leaf (V,us)) (hK:Goal P S w0 M0 s0 dq env a o.dst V us K):o.wp P a w K Q:=by
 split at hl
 · rename_i T k v hs ht hx
   obtain ⟨d,hu⟩:=hP.KP hs
   split at hl
   · rename_i k' n hn
     obtain ⟨rfl,rfl⟩:=bE hl
     have hv:=jr (bB h hx).1 hn
     have CN:P.underlying t=some (.int k):=(hP.ty t _ ht).2
     refine wp_pure (V:= .d (.int k) (k.wrap n)) h (v:= .int k (k.wrap n)) ?_ hd (iI ..) (by simp [aA,az]) hK
     unfold execOp
     simp only [ho,hv]
     simp [convert,run_underlying hu,run_underlying CN,Conv.intToInt]
   · exact hl.elim
 · rename_i T v hs ht hx
   obtain ⟨d,hu⟩:=hP.KP hs
   split at hl
   · rename_i b hn
     obtain ⟨rfl,rfl⟩:=bE hl
     have hv:=AR (bB h hx).1 hn
     have CN:P.underlying t=some .string:=(hP.ty t _ ht).2
     refine wp_pure (V:= .d .str b) h (v:= .string ⟨b.toArray⟩) ?_ hd (AS ..) (by simp [aA,az]) hK
     unfold execOp
     simp only [ho,hv]
     simp [convert,run_underlying hu,run_underlying CN]
   · exact hl.elim
 · exact hl.elim
end
end Go.Sy
namespace Go.Sy
section
variable {P:Program} {S:aS} {ak:Nat→Nat}
variable {w0:World} {M0 s0:St} {dq:List Deferred} {env:Env S.C} {a:Act} {w:World} {μ:Nat→Loc} {K:Act→World→Prop} {Q:Exit→Act→World→Prop} {o:Oper} {V:V S.C} {us:aI S.C}
theorem Fv {s:St} {bx:Bx S.C} {t:Ty} (ht:bq t=false) {V:Sy.V S.C} {v:Value} {x:t.den S.C} (hv:bI P S w s μ bx V v) (hx:cU S (fun _=>none) t V=some x): ∃ n,aC S w s n t x [v]:=by
 have hd: ∀ (u:Ty) (y:u.den S.C),cA S w s u y v→eF S u t y=some x→ ∃ n,aC S w s n t x [v]:=by
  intro u y hr hc
  obtain ⟨rfl,rfl⟩:=ew hc
  obtain ⟨h1,n,hn⟩:=hr
  rw [aC.lK h1 ht] at hn
  exact ⟨n,hn⟩
 cases V with
 | d u y=>exact hd u y hv hx
 | pr p i=>
  obtain ⟨rfl,rfl⟩:=ew hx
  cases hv
  exact ⟨1,rfl⟩
 | aZ b e l=>exact hd (.sl e) l hv.1 hx
 | cI=>
  cases t with
  | sl e=>cases hx; cases hv; exact ⟨1,none,0,rfl,Nat.le_refl _, .inl rfl⟩
  | _=>cases hx
 | _=>cases hx
theorem KD {s:St} {bx:Bx S.C} : ∀ (ts:List Ty) (hts:ts.all (fun t=> !bq t)=true) {vs:List (Sy.V S.C)} {cs:List Value} {x:aq S.C ts},
 aH P S w s μ bx vs cs→gR S (fun _=>none) ts vs=some x→ ∃ n,bF S (fun t x cs=>aC S w s n t x cs) ts x (cs.take ts.length)
 | [],_,_,cs,_,_,_=>⟨0,by simp [bF]⟩
 | t::ts,hts,[],_,_,_,hx=>by simp [gR] at hx
 | t::ts,hts,V::vs,cs,x,⟨c,r,hcs,hv,hr⟩,hx=>by
  simp only [List.all_cons,Bool.and_eq_true,Bool.not_eq_true'] at hts
  simp only [gR] at hx
  obtain ⟨y,hy,hx⟩:=Option.bind_eq_some_iff.1 hx
  obtain ⟨z,hz,hx⟩:=Option.bind_eq_some_iff.1 hx
  cases hx
  obtain ⟨n,hn⟩:=Fv hts.1 hv hy
  obtain ⟨m,hm⟩:=KD ts hts.2 hr hz
  refine ⟨max n m,c,r.take ts.length,by simp [hcs], ?_, ?_⟩
  · rw [show aq.head (aq.cons y z)=y from by cases ts <;> rfl]
    exact hn.up S (by omega)
  · rw [show aq.tail (aq.cons y z)=z from by cases ts <;> rfl]
    exact bF.mono S (fun t x cs hr=>hr.up S (by omega)) _ _ _ hm
theorem HS (hS:cT S) {s:St} {bx:Bx S.C} {t:Ty} {vs:List (Sy.V S.C)} {cs:List Value} {x:t.den S.C}
 (hv:aH P S w s μ bx vs cs) (hx:h_ S (fun _=>none) t vs=some x): ∃ n,aC S w s n t x (cs.take (Ty.sz S t)):=by
 have one:bq t=false→Ty.sz S t=1→(∃ V r,vs=V::r∧cU S (fun _=>none) t V=some x)→ ∃ n,aC S w s n t x (cs.take (Ty.sz S t)):=by
  rintro ht h1 ⟨V,vs',rfl,hx1⟩
  rw [h1]
  obtain ⟨c,r,hcs,hv,hr⟩:=hv
  subst hcs
  exact Fv ht hv hx1
 cases t with
 | st u=>
  simp only [h_] at hx
  obtain ⟨y,hy,hx⟩:=Option.bind_eq_some_iff.1 hx
  cases hx
  obtain ⟨n,hn⟩:=KD (S.F u) (hS.flat u) hv hy
  refine ⟨n+1, ?_⟩
  show bF S _ (S.F u) (S.ex u (S.im u y)) _
  rw [hS.sQ]
  exact hn
 | int k=>exact one rfl rfl (by cases vs with | nil=>cases hx | cons V r=>exact ⟨V,r,rfl,hx⟩)
 | bool=>exact one rfl rfl (by cases vs with | nil=>cases hx | cons V r=>exact ⟨V,r,rfl,hx⟩)
 | str=>exact one rfl rfl (by cases vs with | nil=>cases hx | cons V r=>exact ⟨V,r,rfl,hx⟩)
 | pt=>exact one rfl rfl (by cases vs with | nil=>cases hx | cons V r=>exact ⟨V,r,rfl,hx⟩)
 | sl e=>exact one rfl rfl (by cases vs with | nil=>cases hx | cons V r=>exact ⟨V,r,rfl,hx⟩)
theorem DC (P:Program) (hS:cT S) {s:St} {n:Nat} {e:Ty} {x:e.den S.C} {cs:List Value} (h:aC S w s n e x cs) {off:Nat} {t:Ty} {y:t.den S.C} (hy:partOf S e x off t=some y):
 ∃ m,aC S w s m t y ((cs.drop off).take (Ty.sz S t)):=by
 have he:=(mI (P:=P) hS (fun _=>⟨0,0,0,0,true⟩) (fun _=>none) h).1
 exact HS (P:=P) hS (he.drop P S off) hy
theorem At.part {s:St} {b o':Nat} {cs:List Value} (h:At w s b o' cs) (off n:Nat):At w s b (o'+off) ((cs.drop off).take n):=fun j v hj=>by
 rw [List.getElem?_take] at hj
 split at hj
 · rw [Nat.add_assoc]; exact h (off+j) v (by simpa using hj)
 · cases hj
theorem DP {b o':Nat} {cs:List Value} (h:w.rangeAt b o' cs) (off n:Nat):w.rangeAt b (o'+off) ((cs.drop off).take n):=I8 (I5 h off) n
theorem At.range {s:St} {b o':Nat} {cs:List Value} (h:At w s b o' cs):w.rangeAt b o' cs:=fun j v hj=>(h j v hj).1
def eR (T:Ty) (ds:List Value):Value:=match T with
 | .st _=> .agg ds.toArray
 | _=>ds.headD Go.undef
theorem run_load (hP:aV P S ak) {t:Nat} {T:Ty} (ht:S.ty t=some T) {b o':Nat} {ds:List Value} (hr:w.rangeAt b o' ds) (hl:ds.length=Ty.sz S T):
 (Instr.loadAt t (.pointer (some ⟨b,o',none⟩))).run P w= .ok (eR T ds) w:=by
 have one:bq T=false→Ty.sz S T=1→eR T ds=ds.headD Go.undef→(Instr.loadAt t (.pointer (some ⟨b,o',none⟩))).run P w= .ok (eR T ds) w:=by
  intro h1 h2 h3
  rw [h2] at hl
  obtain ⟨c,rfl⟩:=List.length_eq_one_iff.1 hl
  have hc:=hr 0 c rfl
  rw [h3]
  have hag:=hP.agg ht w
  rw [h1] at hag
  simp [Instr.loadAt,Instr.sureAddr,loadVar,hag]
  have :w.cell? ⟨b,o',none⟩=some c:=hc
  simp [this]
 cases T with
 | st u=>
  obtain ⟨⟨i,z,h1,h2,_⟩,_,h3⟩:=hP.ty t _ ht
  cases ha:S.ar t with
  | none=>rw [ha] at h3; obtain ⟨fs,hu,_⟩:=h3; exact run_loadAt_mid w b o' t ds (.struct fs) hr hu rfl (by rw [h1]; simp [h2,hl])
  | some p=>rw [ha] at h3; obtain ⟨te,hu,_⟩:=h3; exact run_loadAt_mid w b o' t ds (.array p.1 te) hr hu rfl (by rw [h1]; simp [h2,hl])
 | int k=>exact one rfl rfl rfl
 | bool=>exact one rfl rfl rfl
 | str=>exact one rfl rfl rfl
 | pt=>exact one rfl rfl rfl
 | sl e=>exact one rfl rfl rfl
theorem zp {s:St} {n:Nat} {T:Ty} {x:T.den S.C} {ds:List Value} (h:aC S w s n T x ds):cA S w s T x (eR T ds):=by
 have hl:=h.length S
 have one:bq T=false→Ty.sz S T=1→eR T ds=ds.headD Go.undef→cA S w s T x (eR T ds):=by
  intro h1 h2 h3
  rw [h2] at hl
  obtain ⟨c,rfl⟩:=List.length_eq_one_iff.1 hl
  rw [h3]
  have hc:isAgg c=false:=by
   cases n with
   | zero=>exact h.elim
   | succ n=>cases T with
    | int k=>simp [aC] at h; subst h; rfl
    | bool=>simp [aC] at h; subst h; rfl
    | str=>simp [aC] at h; subst h; rfl
    | pt=>simp [aC] at h; subst h; rfl
    | sl e=>obtain ⟨a,cap,h,_⟩:=h; simp at h; subst h; rfl
    | st u=>simp [bq] at h1
  refine ⟨by rw [h1]; exact hc,n, ?_⟩
  show aC S w s n T x c.cells.toList
  rw [aC.lK (t:=T) (by rw [hc,h1]) h1]
  exact h
 cases T with
 | st u=>exact ⟨rfl,n,by simpa [eR,Value.cells] using h⟩
 | int k=>exact one rfl rfl rfl
 | bool=>exact one rfl rfl rfl
 | str=>exact one rfl rfl rfl
 | pt=>exact one rfl rfl rfl
 | sl e=>exact one rfl rfl rfl
theorem RE (hP:aV P S ak) (h:Inv P S w0 M0 s0 dq env a w μ) (hd: ∀ d,o.dst=some d→d<a.tmps.size) {t:TypeId} {x:Operand} {ids:List Nat} (ho:o.op= .load t x)
 (hl:(match S.ty t,aO S env.tm x with
  | some T,some v=>Dg S T (restrict S env.bx ids) v
  | _,_=> .fail).leaf (V,us)) (hK:Goal P S w0 M0 s0 dq env a o.dst V us K):o.wp P a w K Q:=by
 split at hl
 · rename_i T v ht hx
   obtain ⟨hv,dx⟩:=bB h hx
   have fin: ∀ (b o':Nat) (ds:List Value) (V':Sy.V S.C),a.eval x= .pointer (some ⟨b,o',none⟩)→w.rangeAt b o' ds→ds.length=Ty.sz S T→V=V'→us= []→
    RV P S w (aG S w0 M0 s0 env.bx μ w) μ env.bx V' (eR T ds)→(∀ i ∈ aA S V',env.bx i≠none)→o.wp P a w K Q:=by
    rintro b o' ds V' he hr hlen rfl rfl cV fQ
    refine wp_pure (V:=V) h (v:=eR T ds) ?_ hd cV fQ hK
    unfold execOp
    simp only [ho,he]
    simp [run_load hP ht hr hlen]
   have FM: ∀ (b off:Nat) (vs:List (Sy.V S.C)) (cs:List Value),v= .ptr b off→vs.all (bU S)=true→w.rangeAt (μ b).b (μ b).o cs→aH P S w (aG S w0 M0 s0 env.bx μ w) μ env.bx vs cs→
    (∀ v ∈ vs, ∀ j ∈ az S v,env.bx j≠none)→
    (match T with
     | .st u=>cond (Nat.ble (off+(S.F u).length) vs.length) (aB S (.agg u ((vs.drop off).take (S.F u).length)) []) .fail
     | _=>match vs[off]? with
      | some v=>aB S v []
      | none=> .fail).leaf (V,us)→o.wp P a w K Q:=by
    intro b off vs cs CO oV jo cV HK cx
    clear hl
    subst CO
    have dS:a.eval x=_:=hv
    have hlen:=aH.length P S cV
    have scalar:bq T=false→Ty.sz S T=1→(∀ ds,eR T ds=ds.headD Go.undef)→(match vs[off]? with | some v=>aB S v [] | none=> .fail:Rt S).leaf (V,us)→o.wp P a w K Q:=by
     intro h1 h2 h3 vK
     split at vK
     · rename_i v hi
       obtain ⟨e1,e2⟩:=bE vK
       obtain ⟨c,hc,hr⟩:=aH.get P S off cV hi
       refine fin _ _ [c] v dS (fun j u hj=> ?_) (by rw [h2]; rfl) e1 e2 (by rw [h3]; exact mE hr) (fun j hj=>HK v (List.mem_of_getElem? hi) j ?_)
       · cases j with
         | zero=>simp at hj; subst hj; exact jo off c hc
         | succ j=>simp at hj
       · cases v <;> first | exact hj | exact (hr:False).elim
     · exact vK.elim
    cases T with
    | st u=>
     dsimp only at cx
     cases hb:Nat.ble (off+(S.F u).length) vs.length with
     | false=>rw [hb] at cx; exact cx.elim
     | true=>
      rw [hb] at cx
      obtain ⟨e1,e2⟩:=bE cx
      have hle:=Nat.le_of_ble_eq_true hb
      refine fin _ _ ((cs.drop off).take (S.F u).length) _ dS (DP jo off _) ?_ e1 e2 ?_ ?_
      · rw [List.length_take,List.length_drop]; show min _ _=(S.F u).length; omega
      · refine ⟨((cs.drop off).take (S.F u).length).toArray,rfl, ?_, ?_, ?_⟩
        · rw [List.length_take,List.length_drop]; omega
        · rw [List.all_eq_true] at oV ⊢
          exact fun v hv=>oV v (List.mem_of_mem_drop (List.mem_of_mem_take hv))
        · simpa using (cV.drop P S off).take P S (S.F u).length
      · intro j hj
        simp only [aA,List.mem_flatMap] at hj
        obtain ⟨v,hv,hj⟩:=hj
        exact HK v (List.mem_of_mem_drop (List.mem_of_mem_take hv)) j hj
    | int k=>exact scalar rfl rfl (fun _=>rfl) cx
    | bool=>exact scalar rfl rfl (fun _=>rfl) cx
    | str=>exact scalar rfl rfl (fun _=>rfl) cx
    | pt=>exact scalar rfl rfl (fun _=>rfl) cx
    | sl e=>exact scalar rfl rfl (fun _=>rfl) cx
   unfold Dg at hl
   split at hl
   · rename_i b off
     split at hl
     · rename_i vs hb
       have hb:=eU hb
       obtain ⟨h1,h2,h3,cs,h4,h5⟩:=h.cg b _ hb
       exact FM b off vs cs rfl h1 h4 h5 (h.kL b vs (.inl hb)) hl
     · rename_i vs hb
       have hb:=eU hb
       obtain ⟨h1,cs,h4,h5⟩:=h.cg b _ hb
       exact FM b off vs cs rfl h1 h4.range h5 (h.kL b vs (.inr hb)) hl
     · exact hl.elim
   · rename_i u y
     obtain ⟨b,o',ds,he,cG,hlen,n,hr⟩:=hv
     split at hl
     · rename_i y' hc
       obtain ⟨rfl,rfl⟩:=ew hc
       obtain ⟨e1,e2⟩:=bE hl
       exact fin b o' ds _ he cG.range hlen e1 e2 (zp hr) (by simp [aA,az])
     · exact hl.elim
   · rename_i c
     obtain ⟨kb,q,he,cG⟩:=hv
     split at hl
     · obtain ⟨e1,e2⟩:=bE hl
       refine fin kb q [.pointer (some ⟨(μ c).b,(μ c).o,none⟩)] _ he cG.range rfl e1 e2 rfl (fun j hj=>dx j (by simpa [aA,az] using hj))
     · exact hl.elim
   · rename_i b i off
     have F3: ∀ (e:Ty) (l:List (e.den S.C)),(env.bx b=some (.arr e l)∨env.bx b=some (.bM e l))→
      (∀ i x,l[i]? =some x→ ∃ ds,ds.length=Ty.sz S e∧w.rangeAt (μ b).b ((μ b).o+i*Ty.sz S e) ds∧ ∃ n,aC S w (aG S w0 M0 s0 env.bx μ w) n e x ds)→
      (match partOf S e (gE S e l i) off T with
       | some y=>aB S (.d T y) []
       | none=> .fail:Rt S).leaf (V,us)→o.wp P a w K Q:=by
      intro e l hb hel cx
      obtain ⟨g0,g1,he⟩:=hv.2 e l hb
      split at cx
      · rename_i y hy
        obtain ⟨e1,e2⟩:=bE cx
        obtain ⟨ds,d1,d2,n,d3⟩:=hel i.toNat _ (sZ g0 (by omega))
        obtain ⟨m,hm⟩:=DC P hP.tocT d3 hy
        exact fin _ _ _ _ he (DP d2 off (Ty.sz S T)) (hm.length S) e1 e2 (zp hm) (by simp [aA,az])
      · exact cx.elim
     split at hl
     · rename_i e l hb
       have hb:=eU hb
       exact F3 e l (.inl hb) (h.cg b _ hb).2.2.2.2 hl
     · rename_i e l hb
       have hb:=eU hb
       refine F3 e l (.inr hb) (fun i x hi=> ?_) hl
       obtain ⟨ds,d1,d2,d3⟩:=(h.cg b _ hb).2.2 i x hi
       exact ⟨ds,d1,d2.range,d3⟩
     · exact hl.elim
   · exact hl.elim
 · exact hl.elim
end
end Go.Sy
namespace Go.Sy
section
variable {P:Program} {S:aS} {ak:Nat→Nat}
variable {w0:World} {M0 s0:St} {dq:List Deferred} {env:Env S.C} {a:Act} {w:World} {μ:Nat→Loc} {K:Act→World→Prop} {Q:Exit→Act→World→Prop} {o:Oper} {V:V S.C} {us:aI S.C}
theorem Vb {t u:Nat} (h:lu S t=some u):S.ar t=none∧S.ty t=some (.st u):=by
 unfold lu at h
 cases ha:S.ar t with
 | some p=>rw [ha] at h; cases h
 | none=>
  rw [ha] at h
  refine ⟨rfl, ?_⟩
  dsimp only at h
  split at h
  · rename_i u' hu; cases h; exact hu
  · cases h
theorem aV.eG (hP:aV P S ak) {t u:Nat} (ht:lu S t=some u) {f o':Nat} {T:Ty} (hf:S.eG u f=some (o',T)):
 ∃ fs fd,P.underlying t=some (.struct fs)∧fs[f]? =some fd∧fd.offset=o'∧S.ty fd.type=some T∧1≤Ty.sz S T∧o'+Ty.sz S T≤(S.F u).length:=by
 obtain ⟨ha,ht⟩:=Vb ht
 obtain ⟨_,_,h⟩:=hP.ty t _ ht
 rw [ha] at h
 obtain ⟨fs,hu,hfl⟩:=h
 obtain ⟨fd,h1,h2,h3,h4,h5⟩:=hfl f o' T hf
 exact ⟨fs,fd,hu,h1,h2,h3,h4,h5⟩
theorem Uw (hP:aV P S ak) {t u:Nat} (ht:lu S t=some u) {f o':Nat} {T:Ty} (hf:S.eG u f=some (o',T)) (ad:Addr) (w:World):
 (Instr.fieldAt t (.pointer (some ad)) f).run P w= .ok (.pointer (some (ad.add o'))) w:=by
 obtain ⟨fs,fd,hu,h1,h2,h3,h4,_⟩:=hP.eG ht hf
 have hn: ¬ Ty.sz S T=0:=by omega
 simp [Instr.fieldAt,run_underlying hu,h1,Instr.sureAddr,fieldPlace,hP.size h3,hn,h2]
theorem Ow (hP:aV P S ak) (h:Inv P S w0 M0 s0 dq env a w μ) (hd: ∀ d,o.dst=some d→d<a.tmps.size) {t:TypeId} {x:Operand} {f:Nat} (ho:o.op= .fieldAddr t x f)
 (hl:(match aO S env.tm x with
  | some v=>BZ S t f v
  | none=> .fail).leaf (V,us)) (hK:Goal P S w0 M0 s0 dq env a o.dst V us K):o.wp P a w K Q:=by
 split at hl
 · rename_i v hx
   obtain ⟨hv,dx⟩:=bB h hx
   have fin: ∀ (ad:Addr) (u kC:Nat) (T:Ty),a.eval x= .pointer (some ad)→lu S t=some u→S.eG u f=some (kC,T)→us= []→
    RV P S w (aG S w0 M0 s0 env.bx μ w) μ env.bx V (.pointer (some (ad.add kC)))→(∀ i ∈ aA S V,env.bx i≠none)→o.wp P a w K Q:=by
    rintro ad u kC T he ht hf rfl cV fQ
    refine wp_pure (V:=V) h ?_ hd cV fQ hK
    unfold execOp
    simp only [ho,he]
    simp [Uw hP ht hf]
   unfold BZ at hl
   split at hl
   · rename_i b off
     split at hl
     · rename_i u ht
       split at hl
       · rename_i o' T hf
         obtain ⟨e1,e2⟩:=bE hl
         subst e1
         refine fin _ u o' T hv ht hf e2 ?_ (fun i hi=>dx i hi)
         show Value.pointer _=_
         rw [Addr.add_mid,Nat.add_assoc]
       · exact hl.elim
     · exact hl.elim
   · rename_i u y
     split at hl
     · rename_i u' ht
       cases hb:Nat.beq u u' with
       | false=>rw [hb] at hl; exact hl.elim
       | true=>
       rw [hb] at hl
       obtain rfl:=Nat.eq_of_beq_eq_true hb
       dsimp only [cond] at hl
       split at hl
       · rename_i o' T hf
         split at hl
         · rename_i z hz
           obtain ⟨e1,e2⟩:=bE hl
           subst e1
           obtain ⟨b,kC,ds,he,cG,hlen,n,hr⟩:=hv
           obtain ⟨m,hm⟩:=DC P hP.tocT hr hz
           exact fin _ u o' T he ht hf e2 ⟨b,_,_,by rw [Addr.add_mid],cG.part o' _,hm.length S,m,hm⟩ (by simp [aA,az])
         · exact hl.elim
       · exact hl.elim
     · exact hl.elim
   · rename_i b i off
     split at hl
     · rename_i u ht
       split at hl
       · rename_i o' T hf
         obtain ⟨e1,e2⟩:=bE hl
         subst e1
         obtain ⟨⟨ad,he⟩,gp⟩:=hv
         refine fin _ u o' T he ht hf e2 ⟨⟨_,rfl⟩,fun e' l' hb'=> ?_⟩ (fun i hi=>dx i hi)
         obtain ⟨OG,OH,he'⟩:=gp e' l' hb'
         refine ⟨OG,OH, ?_⟩
         rw [he'] at he
         cases he
         rw [Addr.add_mid,Nat.add_assoc]
       · exact hl.elim
     · exact hl.elim
   · rename_i b c
     obtain ⟨kb,q,he,cG,fP,gG⟩:=hv
     split at hl
     · rename_i u ht
       split at hl
       · rename_i o' T hf
         split at hl
         · obtain ⟨e1,e2⟩:=bE hl
           subst e1
           exact fin _ u 0 T he ht hf e2 ⟨kb,q,rfl,cG⟩ (fun i hi=>dx i (by simp [aA,az] at hi ⊢; exact .inr hi))
         · rename_i kC
           obtain ⟨e1,e2⟩:=bE hl
           subst e1
           refine fin _ u (kC+1) T he ht hf e2 ?_ (fun i hi=>dx i (by simp [aA,az] at hi ⊢; exact .inl hi))
           show Value.pointer _=_
           rw [Addr.add_mid,fP,gG,Nat.add_assoc,Nat.add_comm 1 kC]
       · exact hl.elim
     · exact hl.elim
   · exact hl.elim
 · exact hl.elim
theorem n8 (hP:aV P S ak) {t:Nat} {T:Ty} (ht:S.ty t=some T) {cs:Array Value} {off:Nat} (hle:off+Ty.sz S T≤cs.size) (w:World):
 (part t cs off).run P w= .ok (eR T ((cs.toList.drop off).take (Ty.sz S T))) w:=by
 have one:bq T=false→Ty.sz S T=1→(∀ ds,eR T ds=ds.headD Go.undef)→(part t cs off).run P w= .ok (eR T ((cs.toList.drop off).take (Ty.sz S T))) w:=by
  intro h1 h2 h3
  have hag:=hP.agg ht w
  rw [h1] at hag
  rw [h2] at hle
  have hlt:off<cs.size:=by omega
  unfold part
  simp [hag,hlt]
  rw [h3,h2,List.drop_eq_getElem_cons (by simpa using hlt)]
  simp
 cases T with
 | st u=>
  have hag:=hP.agg ht w
  have hsz:=hP.size ht w
  unfold part
  simp only [Sem.run_bind,hag,hsz,bq,Result.andThen_ok,if_true,Sem.run_pure]
  congr 2
  show _=((cs.toList.drop off).take (Ty.sz S (.st u))).toArray
  apply Array.ext'
  simp [Array.toList_extract,List.extract_eq_take_drop]
 | int k=>exact one rfl rfl (fun _=>rfl)
 | bool=>exact one rfl rfl (fun _=>rfl)
 | str=>exact one rfl rfl (fun _=>rfl)
 | pt=>exact one rfl rfl (fun _=>rfl)
 | sl e=>exact one rfl rfl (fun _=>rfl)
theorem Ox (hP:aV P S ak) (h:Inv P S w0 M0 s0 dq env a w μ) (hd: ∀ d,o.dst=some d→d<a.tmps.size) {t:TypeId} {x:Operand} {f:Nat} (ho:o.op= .field t x f)
 (hl:(match lu S t,aO S env.tm x with
  | some u,some (.d (.st u') y)=>cond (Nat.beq u u') (match S.eG u' f with
   | some (o,w)=>match partOf S (.st u') y o w with
    | some z=>aB S (.d w z) []
    | none=> .fail
   | none=> .fail) .fail
  | some u,some (.agg u' vs)=>cond (Nat.beq u u'&&vs.length == (S.F u).length) (match S.eG u f with
   | some (o, .st w)=>aB S (.agg w ((vs.drop o).take (S.F w).length)) []
   | some (o,_)=>match vs[o]? with
    | some v=>aB S v []
    | none=> .fail
   | none=> .fail) .fail
  | _,_=> .fail).leaf (V,us)) (hK:Goal P S w0 M0 s0 dq env a o.dst V us K):o.wp P a w K Q:=by
 have fin: ∀ (u kC:Nat) (T:Ty) (cs:Array Value),a.eval x= .agg cs→cs.size=(S.F u).length→lu S t=some u→S.eG u f=some (kC,T)→us= []→
  RV P S w (aG S w0 M0 s0 env.bx μ w) μ env.bx V (eR T ((cs.toList.drop kC).take (Ty.sz S T)))→(∀ i ∈ aA S V,env.bx i≠none)→o.wp P a w K Q:=by
  rintro u kC T cs he hsz ht hf rfl cV fQ
  obtain ⟨fs,fd,hu,h1,h2,h3,h4,h5⟩:=hP.eG ht hf
  refine wp_pure (V:=V) h ?_ hd cV fQ hK
  unfold execOp
  simp only [ho,he]
  simp [Instr.field,run_underlying hu,h1,asAgg,h2,n8 hP h3 (cs:=cs) (off:=kC) (by omega)]
 split at hl
 · rename_i u u' y ht hx
   obtain ⟨hv,dx⟩:=bB h hx
   cases hb:Nat.beq u u' with
   | false=>rw [hb] at hl; exact hl.elim
   | true=>
    rw [hb] at hl
    obtain rfl:=Nat.eq_of_beq_eq_true hb
    dsimp only [cond] at hl
    split at hl
    · rename_i o' T hf
      split at hl
      · rename_i z hz
        obtain ⟨e1,e2⟩:=bE hl
        subst e1
        obtain ⟨ha,n,hr⟩:=hv
        have : ∃ cs,a.eval x= .agg cs:=by
         cases e:a.eval x <;> rw [e] at ha <;> first | exact ⟨_,rfl⟩ | (simp [Go.Sy.isAgg,bq] at ha)
        obtain ⟨cs,he⟩:=this
        rw [he] at hr
        obtain ⟨m,hm⟩:=DC P hP.tocT hr hz
        exact fin u o' T cs he (by have :=hr.length S; simpa [Value.cells,Ty.sz] using this) ht hf e2 (zp hm) (by simp [aA,az])
      · exact hl.elim
    · exact hl.elim
 · rename_i u u' vs ht hx
   obtain ⟨⟨cs,he,hlen,oV,hvs⟩,dx⟩:=bB h hx
   cases hb:(Nat.beq u u'&&vs.length == (S.F u).length) with
   | false=>rw [hb] at hl; exact hl.elim
   | true=>
    rw [hb] at hl
    rw [Bool.and_eq_true] at hb
    obtain rfl:=Nat.eq_of_beq_eq_true hb.1
    have hcl:=aH.length P S hvs
    have hsz:cs.size=(S.F u).length:=by rw [← hlen, ← hcl]; simp
    dsimp only [cond] at hl
    split at hl
    · rename_i o' xC hf
      obtain ⟨e1,e2⟩:=bE hl
      subst e1
      obtain ⟨fs,fd,hu,h1,h2,h3,h4,h5⟩:=hP.eG ht hf
      refine fin u o' _ cs he hsz ht hf e2 ⟨_,rfl, ?_, ?_, ?_⟩ (fun i hi=> ?_)
      · rw [List.length_take,List.length_drop]
        have :Ty.sz S (.st xC)=(S.F xC).length:=rfl
        omega
      · rw [List.all_eq_true] at oV ⊢
        exact fun v hv=>oV v (List.mem_of_mem_drop (List.mem_of_mem_take hv))
      · have :=(hvs.drop P S o').take P S (S.F xC).length
        simpa [Ty.sz] using this
      · simp only [aA,List.mem_flatMap] at hi
        obtain ⟨v,hv,hi⟩:=hi
        exact dx i (by simp only [aA,List.mem_flatMap]; exact ⟨v,List.mem_of_mem_drop (List.mem_of_mem_take hv),hi⟩)
    · rename_i o' T hne hf
      split at hl
      · rename_i v hi
        obtain ⟨e1,e2⟩:=bE hl
        subst e1
        obtain ⟨c,hc,hr⟩:=aH.get P S o' hvs hi
        have hT:bq T=false:=by
         cases T with
         | st xC=>exact absurd rfl (hne xC)
         | _=>rfl
        have hmk:eR T ((cs.toList.drop o').take (Ty.sz S T))=c:=by
         have h1:Ty.sz S T=1:=by cases T <;> first | rfl | simp [bq] at hT
         have hlt:=(List.getElem?_eq_some_iff.1 hc).1
         have qO:=(List.getElem?_eq_some_iff.1 hc).2
         rw [h1,List.drop_eq_getElem_cons hlt]
         cases T <;> first | (simp [eR,qO]; done) | simp [bq] at hT
        refine fin u o' T cs he hsz ht hf e2 (by rw [hmk]; exact mE hr) (fun i hi'=> ?_)
        refine dx i ?_
        simp only [aA,List.mem_flatMap]
        refine ⟨V,List.mem_of_getElem? hi, ?_⟩
        cases V <;> first | exact hi' | exact (hr:False).elim
      · exact hl.elim
    · exact hl.elim
 · exact hl.elim
end
end Go.Sy
namespace Go.Sy
section
variable {P:Program} {S:aS} {ak:Nat→Nat}
variable {w0:World} {M0 s0:St} {dq:List Deferred} {env:Env S.C} {a:Act} {w:World} {μ:Nat→Loc} {K:Act→World→Prop} {Q:Exit→Act→World→Prop} {o:Oper} {V:V S.C} {us:aI S.C}
theorem Oq (s:List UInt8) (i j:Nat):(⟨s.toArray⟩:ByteArray).extract i j=⟨((s.take j).drop i).toArray⟩:=by
 apply ByteArray.ext
 apply Array.ext'
 rw [Lib.extract_data]
 simp [List.drop_take]
theorem J2 (s:List UInt8):ByteArray.size ⟨s.toArray⟩=s.length:=by show s.toArray.size=_; simp
theorem rS {k:IntKind} {i:Int} {y:Nat} (code:BoundsCode) (h0:0≤i) (h1:i≤(y:Int)) (w:World):(Instr.sliceBound (.int k i) y code).run P w= .ok i.toNat w:=by
 simp [Instr.sliceBound,asIntOf,h0,h1]
theorem II (h:Inv P S w0 M0 s0 dq env a w μ) {x:Option Operand} {l:Option (Sy.V S.C)} (hx:ju S env.tm x=some l):
 (x=none∧l=none)∨ ∃ y v,x=some y∧l=some v∧RV P S w (aG S w0 M0 s0 env.bx μ w) μ env.bx v (a.eval y):=by
 cases x with
 | none=>cases hx; exact .inl ⟨rfl,rfl⟩
 | some y=>
  simp only [ju] at hx
  obtain ⟨v,hv,hx⟩:=Option.bind_eq_some_iff.1 hx
  cases hx
  exact .inr ⟨y,v,rfl,rfl,(bB h hv).1⟩
theorem ri {s:St} {bx:Bx S.C} {V:Sy.V S.C} {v:Value} {n:Int} (h:RV P S w s μ bx V v) (hi:nP S V=some n): ∃ k,v= .int k n:=by
 unfold nP at hi
 cases e:V.int? with
 | none=>rw [e] at hi; cases hi
 | some p=>
  rw [e] at hi
  cases hi
  exact ⟨p.1,jr h e⟩
theorem qi (h:Inv P S w0 M0 s0 dq env a w μ) {lo hi:Option Operand} {l hh:Option (Sy.V S.C)} (hlo:ju S env.tm lo=some l) (hhi:ju S env.tm hi=some hh) {n cap:Nat} (hcap:n≤cap)
 {gs:List Gd} {i j:Int} (hb:bounds S n l hh=some (gs,i,j)) (hg: ∀ g ∈ gs,g.p) (QM:Bool):
 (Instr.sliceBounds QM n cap (lo.map a.eval) (hi.map a.eval) none).run P w= .ok (i.toNat,j.toNat,cap) w∧0≤i∧i≤j∧j≤(n:Int)∧(hh=none→j=n):=by
 rcases II h hlo with ⟨rfl,rfl⟩ | ⟨x,v,rfl,rfl,hv⟩ <;> rcases II h hhi with ⟨rfl,rfl⟩ | ⟨y,u,rfl,rfl,hu⟩
 · cases hb
   exact ⟨by simp [Instr.sliceBounds],by omega,by omega,by omega,fun _=>rfl⟩
 · simp only [bounds] at hb
   obtain ⟨m,hm,hb⟩:=Option.bind_eq_some_iff.1 hb
   cases hb
   obtain ⟨k,hk⟩:=ri hu hm
   have g0:0≤j:=hg ⟨0≤j,inferInstance⟩ (by simp [gd])
   have g1:j≤(n:Int):=hg ⟨j≤(n:Int),inferInstance⟩ (by simp [gd])
   refine ⟨?_,by omega,by omega,g1,fun h=>by cases h⟩
   simp only [Option.map,hk,Instr.sliceBounds]
   simp [rS (P:=P) _ g0 (show j≤(cap:Int) by omega)]
 · simp only [bounds] at hb
   obtain ⟨m,hm,hb⟩:=Option.bind_eq_some_iff.1 hb
   cases hb
   obtain ⟨k,hk⟩:=ri hv hm
   have g0:0≤i:=hg ⟨0≤i,inferInstance⟩ (by simp [gd])
   have g1:i≤(n:Int):=hg ⟨i≤(n:Int),inferInstance⟩ (by simp [gd])
   refine ⟨?_,g0,g1,by omega,fun _=>rfl⟩
   simp only [Option.map,hk,Instr.sliceBounds]
   simp [rS (P:=P) _ g0 g1]
 · simp only [bounds] at hb
   obtain ⟨m,hm,hb⟩:=Option.bind_eq_some_iff.1 hb
   obtain ⟨p,hp,hb⟩:=Option.bind_eq_some_iff.1 hb
   cases hb
   obtain ⟨k,hk⟩:=ri hv hm
   obtain ⟨k',hk'⟩:=ri hu hp
   have g0:0≤j:=hg ⟨0≤j,inferInstance⟩ (by simp [gd])
   have g1:j≤(n:Int):=hg ⟨j≤(n:Int),inferInstance⟩ (by simp [gd])
   have g2:0≤i:=hg ⟨0≤i,inferInstance⟩ (by simp [gd])
   have g3:i≤j:=hg ⟨i≤j,inferInstance⟩ (by simp [gd])
   refine ⟨?_,g2,g3,g1,fun h=>by cases h⟩
   simp only [Option.map,hk,hk',Instr.sliceBounds]
   simp [rS (P:=P) _ g0 (show j≤(cap:Int) by omega),rS (P:=P) .sliceB g2 (show i≤(j.toNat:Int) by omega)]
def lz (ad:Option Addr) (cap lo sz:Nat):Option Addr:=if cap=lo then ad else ad.map (·.add (lo*sz))
theorem UB (hP:aV P S ak) {t:Nat} {e:Ty} (ht:S.ty t=some (.sl e)) {ad:Option Addr} {n cap i j:Nat} {lo hi:Option Value}
 (hb:(Instr.sliceBounds true n cap lo hi none).run P w= .ok (i,j,cap) w):(Instr.sliceAt t (.slice ad n cap) lo hi none).run P w= .ok (.slice (lz ad cap i (Ty.sz S e)) (j - i) (cap - i)) w:=by
 obtain ⟨te,ie,z,hu,he,_⟩:=hP.sl ht
 simp [Instr.sliceAt,Instr.slice,run_underlying hu,hb,hP.size he,lz]
theorem BB {α:Type} (l:List α) {i j:Int} {hh:Option (Sy.V S.C)} (h0:0≤i) (h1:i≤j) (h2:j≤(l.length:Int)) (hn:hh=none→j=(l.length:Int)):
 jH S l i j hh=(l.take j.toNat).drop i.toNat:=by
 cases hh with
 | none=>
  have :=hn rfl
  show l.drop i.toNat=_
  rw [this,show ((l.length:Int)).toNat=l.length from by omega,List.take_length]
 | some v=>rfl
theorem Sq {R:(t:Ty)→t.den S.C→List Value→Prop} {s:St} {e:Ty} {b o':Nat} {l:List (e.den S.C)} (h:uN S R w s e b o' l) (i j:Nat):uN S R w s e b (o'+i*Ty.sz S e) ((l.take j).drop i):=fun k x hk=>by
 have hk':l[i+k]? =some x:=by
  rw [List.getElem?_drop,List.getElem?_take] at hk
  split at hk
  · exact hk
  · cases hk
 obtain ⟨ds,d1,d2,d3⟩:=h (i+k) x hk'
 refine ⟨ds,d1, ?_,d3⟩
 rw [show o'+i*Ty.sz S e+k*Ty.sz S e=o'+(i+k)*Ty.sz S e from by rw [Nat.add_mul]; omega]
 exact d2
theorem EB {s:St} {e:Ty} {l:List (e.den S.C)} {ad:Option Addr} {cap:Nat} (h:cA S w s (.sl e) l (.slice ad l.length cap)) {i j:Nat} (h1:i≤j) (h2:j≤l.length):
 cA S w s (.sl e) ((l.take j).drop i) (.slice (lz ad cap i (Ty.sz S e)) (j - i) (cap - i)):=by
 obtain ⟨qf,cap',he,hle,hel⟩:=lE h
 cases he
 have hlen:((l.take j).drop i).length=j - i:=by rw [List.length_drop,List.length_take]; omega
 rcases hel with hel | ⟨b,o',n,rfl,hel⟩
 · exact ⟨rfl,1,_,_,by rw [hlen]; rfl,by rw [hlen]; omega, .inl (by rw [hlen]; omega)⟩
 · by_cases hc:cap=i
   · exact ⟨rfl,1,_,_,by rw [hlen]; rfl,by rw [hlen]; omega, .inl (by rw [hlen]; omega)⟩
   · refine ⟨rfl,n+1,_,_,by rw [hlen]; rfl,by rw [hlen]; omega, .inr ⟨b,o'+i*Ty.sz S e, ?_,Sq hel i j⟩⟩
     rw [lz,if_neg hc]
     simp [Addr.add_mid]
theorem UD {t:Nat} (hu:P.underlying t=some .string) (s:List UInt8) {i j:Nat} {lo hi:Option Value}
 (hb:(Instr.sliceBounds false s.length s.length lo hi none).run P w= .ok (i,j,s.length) w):(Instr.sliceAt t (.string ⟨s.toArray⟩) lo hi none).run P w= .ok (.string ⟨((s.take j).drop i).toArray⟩) w:=by
 have e1:=Oq s i j
 have hsz:=J2 s
 simp [Instr.sliceAt,Instr.slice,run_underlying hu,hsz,hb,e1]
theorem Na {n:Nat} {hh:Option (Sy.V S.C)} {gs:List Gd} {i j:Int} (hb:bounds S n none hh=some (gs,i,j)):i=0:=by
 cases hh with
 | none=>cases hb; rfl
 | some u=>
  simp only [bounds] at hb
  obtain ⟨m,hm,hb⟩:=Option.bind_eq_some_iff.1 hb
  cases hb; rfl
theorem EE {s':St} {bx:Bx S.C} {k:Nat} {e:Ty} {l:List (e.den S.C)} (hb:bx k=some (.arr e l)) {ad:Option Addr} {n cap:Nat} (ha:ov (μ k) ad n cap (Ty.sz S e)) {N:Nat} {lo hh:Option (Sy.V S.C)} {gs:List Gd} {i j:Int}
 (hbd:bounds S N lo hh=some (gs,i,j)) (h0:0≤i) (h1:i≤j) (h2:j≤(l.length:Int)) (h3:j≤(cap:Int)):
 RV P S w s' μ bx (om S k i j lo) (.slice (lz ad cap i.toNat (Ty.sz S e)) (j.toNat - i.toNat) (cap - i.toNat)):=by
 have hn: ∀ e' (l':List (e'.den S.C)),bx k=some (.arr e' l')→e'=e∧l'.length=l.length∧Ty.sz S e'=Ty.sz S e:=by
  intro e' l' h
  rw [hb] at h
  cases h
  exact ⟨rfl,rfl,rfl⟩
 cases lo with
 | none=>
  have :=Na hbd
  subst this
  refine ⟨⟨_,_,_,rfl⟩,fun e' l' hb'=> ?_⟩
  obtain ⟨_,q2,q3⟩:=hn e' l' hb'
  rw [q2,q3]
  have hs:lz ad cap 0 (Ty.sz S e)=ad:=by
   unfold lz
   split
   · rfl
   · rw [ha.addr]
     split
     · rfl
     · simp [Addr.add_mid]
  refine ⟨h1,by omega,ad,cap, ?_,ha.addr,ha.lJ,ha.cells,ha.isNil,by omega⟩
  rw [show (0:Int).toNat=0 from rfl,hs]; rfl
 | some u=>
  refine ⟨⟨_,_,_,rfl⟩,fun e' l' hb'=> ?_⟩
  obtain ⟨_,q2,q3⟩:=hn e' l' hb'
  rw [q2,q3]
  refine ⟨h0,by omega,by omega,_,_,by rw [show (j - i).toNat=j.toNat - i.toNat from by omega],by omega, ?_⟩
  by_cases hz:(j - i).toNat=0
  · exact .inl hz
  · refine .inr ?_
    have iF:(μ k).nil=false:=by
     cases hn:(μ k).nil with
     | false=>rfl
     | true=>have :=ha.isNil hn; have :=ha.lJ; omega
    unfold lz
    rw [if_neg (by omega),ha.addr,iF]
    simp [Addr.add_mid]
theorem U0 (hP:aV P S ak) (h:Inv P S w0 M0 s0 dq env a w μ) (hd: ∀ d,o.dst=some d→d<a.tmps.size) {t:TypeId} {x:Operand} {lo hi:Option Operand} {ids:List Nat} {vw:Bool} (ho:o.op= .slice t x lo hi none)
 (hl:(match S.ty t,aO S env.tm x,ju S env.tm lo,ju S env.tm hi with
  | some T,some v,some l,some h=>Er S vw T (restrict S env.bx ids) l h v
  | _,_,_,_=> .fail).leaf (V,us)) (hK:Goal P S w0 M0 s0 dq env a o.dst V us K):o.wp P a w K Q:=by
 split at hl
 · rename_i T v l hh ht hx hlo hhi
   obtain ⟨hv,dx⟩:=bB h hx
   have run: ∀ (e:Ty) (ad:Option Addr) (n cap i j:Nat),S.ty t=some (.sl e)→a.eval x= .slice ad n cap→(Instr.sliceBounds true n cap (lo.map a.eval) (hi.map a.eval) none).run P w= .ok (i,j,cap) w→
    (execOp a.eval o).run P w= .ok (.value (.slice (lz ad cap i (Ty.sz S e)) (j - i) (cap - i))) w:=by
    intro e ad n cap i j ht he hb
    unfold execOp
    simp only [ho,he]
    simp [UB hP ht hb]
   have data: ∀ (e:Ty) (s:List (e.den S.C)),cA S w (aG S w0 M0 s0 env.bx μ w) (.sl e) s (a.eval x)→(if T= .sl e then match bounds S s.length l hh with
    | some (gs,a,b)=>Tr.gd gs (aB S (.d (.sl e) (jH S s a b hh)) [])
    | none=> .fail else .fail:Rt S).leaf (V,us)→o.wp P a w K Q:=by
    intro e s hr cx
    clear hl
    split at cx
    · rename_i hT
      subst hT
      split at cx
      · rename_i gs i j hb
        obtain ⟨hg,rfl,rfl⟩:=fN cx
        obtain ⟨ad,cap,he,hcap,_⟩:=lE hr
        obtain ⟨b1,b2,b3,b4,b5⟩:=qi h hlo hhi hcap hb hg true
        rw [he] at hr
        refine wp_pure (V:= .d (.sl e) (jH S s i j hh)) h (run e ad _ cap _ _ ht he b1) hd ?_ (by simp [aA,az]) hK
        show cA S w _ (.sl e) (jH S s i j hh) _
        rw [BB s b2 b3 b4 b5]
        exact EB hr (by omega) (by omega)
      · exact cx.elim
    · exact cx.elim
   unfold Er at hl
   split at hl
   · rename_i s
     split at hl
     · rename_i hT
       subst hT
       split at hl
       · rename_i gs i j hb
         obtain ⟨hg,rfl,rfl⟩:=fN hl
         have he:=mF hv
         obtain ⟨b1,b2,b3,b4,b5⟩:=qi h hlo hhi (Nat.le_refl _) hb hg false
         have hu:P.underlying t=some .string:=(hP.ty t _ ht).2
         refine wp_pure (V:= .d .str (jH S s i j hh)) h (v:= .string ⟨((List.take j.toNat s).drop i.toNat).toArray⟩) ?_ hd ?_ (by simp [aA,az]) hK
         · unfold execOp
           simp only [ho,he]
           rw [Sem.run_bind,show Option.map a.eval none=none from rfl,UD hu s b1]
           rfl
         · show cA S w _ .str (jH S s i j hh) _
           rw [BB s b2 b3 b4 b5]
           exact AS ..
       · exact hl.elim
     · exact hl.elim
   · exact data _ _ hv hl
   · rename_i k e s
     split at hl
     · rename_i hT
       subst hT
       split at hl
       · rename_i gs i j hb
         obtain ⟨hg,rfl,rfl⟩:=fN hl
         obtain ⟨ad,cap,he,hcap,_⟩:=lE hv.1
         obtain ⟨b1,b2,b3,b4,b5⟩:=qi h hlo hhi hcap hb hg true
         have hr:=hv.1
         rw [he] at hr
         have hsub:=EB hr (show i.toNat≤j.toNat by omega) (by omega)
         cases hh with
         | some dS=>
          refine wp_pure (V:= .d (.sl e) (cut s i j)) h (run e ad _ cap _ _ ht he b1) hd hsub (by simp [aA,az]) hK
         | none=>
          have hj:=b5 rfl
          have G4:cutFrom s i=(s.take j.toNat).drop i.toNat:=by
           show s.drop i.toNat=_
           rw [hj,show ((s.length:Int)).toNat=s.length from by omega,List.take_length]
          refine wp_pure (V:= .aZ k e (cutFrom s i)) h (run e ad _ cap _ _ ht he b1) hd ⟨by rw [G4]; exact hsub,fun hb'=> ?_⟩ (fun i hi=>dx i hi) hK
          have hlen:(cutFrom s i).length=j.toNat - i.toNat:=by rw [G4,List.length_drop,List.length_take]; omega
          obtain ⟨qf,cap',he',tn⟩:=hv.2 hb'
          rw [he] at he'
          cases he'
          refine ⟨_,_,by rw [hlen], ?_⟩
          rw [hlen]
          rcases tn with ⟨rfl,rfl,hn⟩ | ⟨b,o',rfl,t1,t2⟩
          · exact .inl ⟨by unfold lz; split <;> rfl,by omega,hn⟩
          · by_cases hc:cap=i.toNat
            · refine .inr ⟨b,o',by rw [lz,if_pos hc], ?_,fun hlt=>by omega⟩
              rw [t1]; congr 1; omega
            · refine .inr ⟨b,o'+i.toNat*Ty.sz S e,by rw [lz,if_neg hc]; simp [Addr.add_mid], ?_,fun hlt=> ?_⟩
              · rw [t1]; congr 1; omega
              · obtain ⟨t2,t3⟩:=t2 (by omega)
                refine ⟨t2, ?_⟩
                rw [t3]
                have :s.length*Ty.sz S e=i.toNat*Ty.sz S e+(j.toNat - i.toNat)*Ty.sz S e:=by rw [← Nat.add_mul]; congr 1; omega
                omega
       · exact hl.elim
     · exact hl.elim
   · rename_i k
     split at hl
     · rename_i e s hb
       have hb:=eU hb
       split at hl
       · rename_i hT
         subst hT
         split at hl
         · rename_i gs i j hbd
           cases vw with
           | true=>
            obtain ⟨hg,rfl,rfl⟩:=fN hl
            obtain ⟨ad,cap,he,hao⟩:=hv.2 e s (.inl hb)
            obtain ⟨b1,b2,b3,b4,b5⟩:=qi h hlo hhi hao.fits hbd hg true
            have hfit:=hao.fits
            refine wp_pure (V:=om S k i j l) h (run e ad _ cap _ _ ht he b1) hd (EE hb hao hbd b2 b3 b4 (by omega)) (fun q hq=> ?_) hK
            have :q=k:=by cases l <;> simpa [om,aA,az] using hq
            rw [this,hb]; simp
           | false=>
           have hl:(Tr.gd gs (aB S (.d (.sl e) (jH S s i j hh)) [(k, .bM e s)]):Rt S).leaf (V,us):=hl
           obtain ⟨hg,rfl,rfl⟩:=fN hl
           have htk:Tk S env.bx (av env.bx [(k, .bM e s)]):=Tk.KQ hb
           obtain ⟨ad,cap,he,hao⟩:=hv.2 e s (.inl hb)
           obtain ⟨b1,b2,b3,b4,b5⟩:=qi h hlo hhi hao.fits hbd hg true
           refine Wt (V:= .d (.sl e) (jH S s i j hh)) h (run e ad _ cap _ _ ht he b1) hd htk (fun hI=> ?_) (by simp [aA,az]) hK
           have hr:=B8 hI (Tk.refl S _) (aR env.bx k (some (.bM e s))) (bI.step P S (Kj htk) (fun i B0 bS=> ?_) (fun j hj=>dx j hj) hv)
           · rw [he] at hr
             show cA S w _ (.sl e) (jH S s i j hh) _
             rw [BB s b2 b3 b4 b5]
             have hr':cA S w (cE S w0 M0 s0 (av env.bx [(k, .bM e s)]) (av env.bx [(k, .bM e s)]) μ w) (.sl e) s (.slice ad s.length cap):=⟨rfl,hr⟩
             refine cA.mono S (fun b o ⟨h1,h2,h3⟩=>⟨⟨h1,h2,fun i hi=> ?_⟩,rfl⟩) (EB hr' (show i.toNat≤j.toNat by omega) (by omega))
             rcases h3 i hi with ⟨e',l',hf⟩ | hf
             · unfold live at hi; rw [hf] at hi; exact hi.elim
             · exact hf
           · rcases htk i with e1 | ⟨e1,_⟩ | ⟨e',l',e1,e2⟩
             · exact ⟨B0,e1.trans bS,cM.refl S _ _⟩
             · exact ⟨_,e1,by cases B0 <;> rfl⟩
             · rw [bS] at e1; cases e1; exact ⟨_,e2,rfl,rfl,rfl⟩
         · exact hl.elim
       · exact hl.elim
     · rename_i e s hb
       have hb:=eU hb
       refine data e s ?_ hl
       obtain ⟨n,hn⟩:=B8 h (Tk.refl S _) hb hv
       obtain ⟨ad,cap,he,hao⟩:=hv.2 e s (.inr hb)
       rw [he] at hn ⊢
       refine ⟨rfl,n,hn.mono S (fun b o ⟨h1,h2,h3⟩=>⟨⟨h1,h2,fun i hi=> ?_⟩,rfl⟩) (Nat.le_refl _)⟩
       rcases h3 i hi with ⟨e',l',hf⟩ | hf
       · unfold live at hi; rw [hf] at hi; exact hi.elim
       · exact hf
     · exact hl.elim
   · rename_i k n
     split at hl
     · rename_i e s hb
       have hb:=eU hb
       obtain ⟨hn0,hnl,ad,cap,he,hao⟩:=hv.2 e s hb
       obtain ⟨g1,g2,g3,g4,g5⟩:=h.cg k _ hb
       have hcap:=hao.lJ
       have hfit:=hao.fits
       have ids: ∀ i j, ∀ q ∈ aA S (om S k i j l),env.bx q≠none:=fun i j q hq=>by
        have :q=k:=by cases l <;> simpa [om,aA,az] using hq
        rw [this,hb]; simp
       split at hl
       · rename_i hT
         subst hT
         cases hh with
         | none=>
          dsimp only at hl
          split at hl
          · rename_i gs i j hbd
            obtain ⟨hg,rfl,rfl⟩:=fN hl
            obtain ⟨b1,b2,b3,b4,b5⟩:=qi h hlo hhi hao.fits hbd hg true
            exact wp_pure (V:=om S k i j l) h (run e ad _ cap _ _ ht he b1) hd (EE hb hao hbd b2 b3 (by omega) (by omega)) (ids i j) hK
          · exact hl.elim
         | some u=>
          dsimp only at hl
          split at hl
          · rename_i gs i j hbd
            obtain ⟨hg,rfl,rfl⟩:=fN hl
            obtain ⟨b1,b2,b3,b4,b5⟩:=qi (cap:=cap) h hlo hhi (show s.length≤cap by omega) hbd hg true
            obtain ⟨hi',PN⟩: ∃ y,hi=some y:=by
             cases hi with
             | none=>cases hhi
             | some y=>exact ⟨y,rfl⟩
            subst PN
            have MM:(Instr.sliceBounds true n.toNat cap (lo.map a.eval) ((some hi').map a.eval) none).run P w= .ok (i.toNat,j.toNat,cap) w:=b1
            exact wp_pure (V:=om S k i j l) h (run e ad _ cap _ _ ht he MM) hd (EE hb hao hbd b2 b3 b4 (by omega)) (ids i j) hK
          · exact hl.elim
       · exact hl.elim
     · exact hl.elim
   · exact hl.elim
 · exact hl.elim
theorem Rh (hP:aV P S ak) (h:Inv P S w0 M0 s0 dq env a w μ) (hd: ∀ d,o.dst=some d→d<a.tmps.size) {c:Call} (ho:o.op= .call c) (hc:c.callee= .builtin .len) {args:List (Sy.V S.C)} {ids:List Nat}
 (hargs:c.args.toList.mapM (aO S env.tm)=some args)
 (hl:(match args,(c.argTypes[0]?).bind S.ty with
  | [v],some T=>C_ S T (restrict S env.bx ids) v
  | _,_=> .fail).leaf (V,us)) (hK:Goal P S w0 M0 s0 dq env a o.dst V us K):o.wp P a w K Q:=by
 split at hl
 · rename_i v T GW
   obtain ⟨t,ht,hT⟩:=Option.bind_eq_some_iff.1 GW
   clear GW
   have hone: ∃ x,c.args= #[x]∧aO S env.tm x=some v:=by
    cases e:c.args.toList with
    | nil=>rw [e] at hargs; simp at hargs
    | cons x r=>
     rw [e] at hargs
     cases r with
     | nil=>
      refine ⟨x, ?_, ?_⟩
      · have :c.args=c.args.toList.toArray:=by simp
        rw [this,e]
      · simp at hargs
        cases hx:aO S env.tm x with
        | none=>rw [hx] at hargs; simp at hargs
        | some v'=>rw [hx] at hargs; simp at hargs; rw [hargs]
     | cons y r=>
      simp at hargs
      cases hx:aO S env.tm x with
      | none=>rw [hx] at hargs; simp at hargs
      | some v'=>
       rw [hx] at hargs
       cases hy:aO S env.tm y with
       | none=>rw [hy] at hargs; simp at hargs
       | some u'=>
        rw [hy] at hargs
        cases hr:List.mapM (aO S env.tm) r with
        | none=>rw [hr] at hargs; simp at hargs
        | some q=>rw [hr] at hargs; simp at hargs
   obtain ⟨x,hx,HP⟩:=hone
   have hv:=(bB h HP).1
   clear hargs HP
   have fin: ∀ (n:Nat),(Builtin.len_ c.argTypes o.type #[a.eval x]).run P w= .ok (goInt n) w→V= .d (.int .i64) (n:Int)→us= []→o.wp P a w K Q:=by
    rintro n hr rfl rfl
    refine wp_pure (V:= .d (.int .i64) (n:Int)) h (v:=goInt n) ?_ hd (iI ..) (by simp [aA,az]) hK
    unfold execOp
    simp only [ho]
    simp [resolve,hc,hx,invoke,builtin,hr]
   have slc: ∀ (e:Ty) (n cap:Nat) (ad:Option Addr),T= .sl e→a.eval x= .slice ad n cap→(Builtin.len_ c.argTypes o.type #[a.eval x]).run P w= .ok (goInt n) w:=by
    rintro e n cap ad rfl he
    obtain ⟨te,ie,z,hu,_⟩:=hP.sl hT
    rw [he]
    simp [Builtin.len_,ht,run_underlying hu]
   unfold C_ at hl
   split at hl
   · rename_i s
     split at hl
     · rename_i kj
       subst kj
       obtain ⟨e1,e2⟩:=bE hl
       refine fin _ ?_ e1 e2
       have hu:P.underlying t=some .string:=(hP.ty t _ hT).2
       rw [mF hv]
       simp only [Builtin.len_,ht]
       simp [run_underlying hu]
       exact congrArg (fun n:Nat=>goInt n) (J2 s)
     · exact hl.elim
   · split at hl
     · rename_i e
       obtain ⟨e1,e2⟩:=bE hl
       exact fin 0 (slc e 0 0 none rfl hv) e1 e2
     · exact hl.elim
   · rename_i e l
     split at hl
     · rename_i kj
       obtain ⟨e1,e2⟩:=bE hl
       obtain ⟨ad,cap,he,_⟩:=lE hv
       exact fin _ (slc e _ cap ad kj he) e1 e2
     · exact hl.elim
   · rename_i k e l
     split at hl
     · rename_i kj
       obtain ⟨e1,e2⟩:=bE hl
       obtain ⟨ad,cap,he,_⟩:=lE hv.1
       exact fin _ (slc e _ cap ad kj he) e1 e2
     · exact hl.elim
   · rename_i k
     have own: ∀ (e:Ty) (l:List (e.den S.C)),(env.bx k=some (.arr e l)∨env.bx k=some (.bM e l))→(if T= .sl e then aB S (.d (.int .i64) (l.length:Int)) [] else .fail:Rt S).leaf (V,us)→o.wp P a w K Q:=by
      intro e l hb cx
      split at cx
      · rename_i kj
        obtain ⟨e1,e2⟩:=bE cx
        obtain ⟨ad,cap,he,_⟩:=hv.2 e l hb
        exact fin _ (slc e _ cap ad kj he) e1 e2
      · exact cx.elim
     split at hl
     · rename_i hb; exact own _ _ (.inl (eU hb)) hl
     · rename_i hb; exact own _ _ (.inr (eU hb)) hl
     · exact hl.elim
   · rename_i b n
     split at hl
     · rename_i e l hb
       have hb:=eU hb
       split at hl
       · rename_i kj
         obtain ⟨e1,e2⟩:=bE hl
         obtain ⟨hn0,hnl,ad,cap,he,_⟩:=hv.2 e l hb
         refine fin _ (slc e _ cap ad kj he) ?_ e2
         rw [e1,show ((n.toNat:Nat):Int)=n from by omega]
       · exact hl.elim
     · exact hl.elim
   · exact hl.elim
 · exact hl.elim
theorem UC (hP:aV P S ak) {t:Nat} {e:Ty} (ht:S.ty t=some (.sl e)) {ad:Option Addr} {n cap:Nat} {k1 k2 k3:IntKind} {i j m:Int} (h0:0≤i) (h1:i≤j) (h2:j≤m) (h3:m≤(cap:Int)):
 ∃ v,(Instr.sliceAt t (.slice ad n cap) (some (.int k1 i)) (some (.int k2 j)) (some (.int k3 m))).run P w= .ok v w:=by
 obtain ⟨te,ie,z,hu,he,_⟩:=hP.sl ht
 refine ⟨.slice (if m.toNat=i.toNat then ad else ad.map (·.add (i.toNat*Ty.sz S e))) (j.toNat - i.toNat) (m.toNat - i.toNat), ?_⟩
 simp [Instr.sliceAt,Instr.slice,run_underlying hu,Instr.sliceBounds,rS (P:=P) _ (show 0≤m by omega) h3,rS (P:=P) (i:=j) (y:=m.toNat) _ (by omega) (by omega),rS (P:=P) (i:=i) (y:=j.toNat) _ (by omega) (by omega),hP.size he]
theorem UZ (hP:aV P S ak) (h:Inv P S w0 M0 s0 dq env a w μ) (hd: ∀ d,o.dst=some d→d<a.tmps.size) {t:TypeId} {x lo hi mx:Operand} {ids:List Nat} (ho:o.op= .slice t x (some lo) (some hi) (some mx))
 (hl:(match S.ty t,aO S env.tm x,aO S env.tm lo,aO S env.tm hi,aO S env.tm mx with
  | some T,some v,some l,some h,some m=>Ep S T (restrict S env.bx ids) l h m v
  | _,_,_,_,_=> .fail).leaf (V,us)) (hK:Goal P S w0 M0 s0 dq env a o.dst V us K):o.wp P a w K Q:=by
 split at hl
 · rename_i T v l hh m ht hx hlo hhi P9
   obtain ⟨hv,dx⟩:=bB h hx
   unfold Ep at hl
   split at hl
   · rename_i k
     split at hl
     · rename_i e s hb
       have hb:=eU hb
       split at hl
       · rename_i hT
         subst hT
         split at hl
         · rename_i i j c e1 e2 e3
           obtain ⟨hg,rfl,rfl⟩:=fN hl
           have g0:0≤i:=hg ⟨0≤i,inferInstance⟩ (by simp [gd])
           have g1:i≤j:=hg ⟨i≤j,inferInstance⟩ (by simp [gd])
           have g2:j≤c:=hg ⟨j≤c,inferInstance⟩ (by simp [gd])
           have g3:c≤(s.length:Int):=hg ⟨c≤(s.length:Int),inferInstance⟩ (by simp [gd])
           obtain ⟨ad,cap,he,hao⟩:=hv.2 e s (.inl hb)
           have hfit:=hao.fits
           obtain ⟨k1,q1⟩:=ri (bB h hlo).1 e1
           obtain ⟨k2,q2⟩:=ri (bB h hhi).1 e2
           obtain ⟨k3,q3⟩:=ri (bB h P9).1 e3
           obtain ⟨r,hr⟩:=UC (P:=P) (w:=w) hP ht (ad:=ad) (n:=s.length) (cap:=cap) (k1:=k1) (k2:=k2) (k3:=k3) g0 g1 g2 (by omega)
           refine wp_pure (V:= .undef) h (v:=r) ?_ hd trivial (by simp [aA,az]) hK
           unfold execOp
           simp only [ho,he,Option.map,q1,q2,q3]
           simp [hr]
         · exact hl.elim
       · exact hl.elim
     · exact hl.elim
   · exact hl.elim
 · exact hl.elim
end
end Go.Sy
namespace Go.Sy
section
variable {P:Program} {S:aS} {ak:Nat→Nat}
variable {w0:World} {M0 s0:St} {dq:List Deferred} {env:Env S.C} {a:Act} {w:World} {μ:Nat→Loc} {K:Act→World→Prop} {Q:Exit→Act→World→Prop} {o:Oper} {V:V S.C} {us:aI S.C}
theorem aH.map {w w':World} {s s':St} {μ μ':Nat→Loc} {bx ai:Bx S.C} (h: ∀ V v,bI P S w s μ bx V v→(∀ j ∈ az S V,bx j≠none)→bI P S w' s' μ' ai V v):
 ∀ {vs:List (Sy.V S.C)} {cs:List Value},(∀ v ∈ vs, ∀ j ∈ az S v,bx j≠none)→aH P S w s μ bx vs cs→aH P S w' s' μ' ai vs cs
 | [],_,_,h'=>h'
 | v::vs,_,hr,⟨c,r,h1,h2,h3⟩=>⟨c,r,h1,h _ _ h2 (hr v (by simp)),aH.map h (fun v hv=>hr v (by simp [hv])) h3⟩
theorem QL {v:Value} (h:isAgg v=false):v.cells.toList= [v]:=aC.lK (t:= .bool) h rfl
theorem Kd {s:St} {bx:Bx S.C} {V:Sy.V S.C} {v:Value} (hs:bU S V=true) (h:bI P S w s μ bx V v):isAgg v=false∧v.oneCell'=true:=by
 cases V with
 | d t x=>
  obtain ⟨ha,n,hn⟩:=h
  cases t with
  | st u=>simp [bU] at hs
  | int k=>rw [lD (w:=w) (s:=s) ⟨ha,n,hn⟩]; exact ⟨rfl,rfl⟩
  | bool=>rw [p8 (w:=w) (s:=s) ⟨ha,n,hn⟩]; exact ⟨rfl,rfl⟩
  | str=>rw [mF (w:=w) (s:=s) ⟨ha,n,hn⟩]; exact ⟨rfl,rfl⟩
  | pt=>
   cases n with
   | zero=>exact hn.elim
   | succ n=>
    have hn:v.cells.toList= [.pointer none]:=hn
    rw [aC.lK (t:= .pt) ha rfl] at hn
    cases hn
    exact ⟨rfl,rfl⟩
  | sl e=>obtain ⟨a,cap,he,_⟩:=lE (w:=w) (s:=s) ⟨ha,n,hn⟩; rw [he]; exact ⟨rfl,rfl⟩
 | pr p i=>cases h; exact ⟨rfl,rfl⟩
 | aZ b e l=>obtain ⟨a,cap,he,_⟩:=lE h.1; rw [he]; exact ⟨rfl,rfl⟩
 | aQ b=>obtain ⟨⟨a,n,c,rfl⟩,_⟩:=h; exact ⟨rfl,rfl⟩
 | ptr b off=>cases h; exact ⟨rfl,rfl⟩
 | eY b i off=>obtain ⟨⟨p,rfl⟩,_⟩:=h; exact ⟨rfl,rfl⟩
 | dw t x=>obtain ⟨b,o',ds,rfl,_⟩:=h; exact ⟨rfl,rfl⟩
 | nil=>cases h; exact ⟨rfl,rfl⟩
 | cI=>cases h; exact ⟨rfl,rfl⟩
 | fv A R g=>obtain ⟨f,first,cap,rfl,_⟩:=h; exact ⟨rfl,rfl⟩
 | undef=>simp [bU] at hs
 | skip=>simp [bU] at hs
 | pre b n=>simp [bU] at hs
 | win b i n=>simp [bU] at hs
 | cF b n=>simp [bU] at hs
 | split b c=>simp [bU] at hs
 | l8 c=>simp [bU] at hs
 | err b=>simp [bU] at hs
 | fC f vs=>simp [bU] at hs
 | agg u vs=>simp [bU] at hs
 | iy vs=>simp [bU] at hs
theorem xm {s:St} {bx:Bx S.C} : ∀ {vs:List (Sy.V S.C)} {cs:List Value},vs.all (bU S)=true→aH P S w s μ bx vs cs→ ∀ c ∈ cs,c.oneCell'=true
 | [],_,_,h,c,hc=>by cases h; simp at hc
 | V::vs,_,hs,⟨c,r,h1,h2,h3⟩,d,hd=>by
  subst h1
  simp only [List.all_cons,Bool.and_eq_true] at hs
  rcases List.mem_cons.1 hd with rfl | hd
  · exact (Kd hs.1 h2).2
  · exact xm hs.2 h3 d hd
theorem Bz (hS:cT S) {s:St} {bx:Bx S.C} {V:Sy.V S.C} {v:Value} (hs:(cellsOf S V).all (bU S)=true) (h:RV P S w s μ bx V v):
 aH P S w s μ bx (cellsOf S V) v.cells.toList∧ ∀ u ∈ cellsOf S V, ∀ j ∈ az S u,j ∈ aA S V:=by
 have one: ∀ (W:Sy.V S.C),V=W→cellsOf S V= [W]→bI P S w s μ bx W v→(∀ j ∈ az S W,j ∈ aA S V)→aH P S w s μ bx (cellsOf S V) v.cells.toList∧ ∀ u ∈ cellsOf S V, ∀ j ∈ az S u,j ∈ aA S V:=by
  intro W hW he h1 h2
  rw [he] at hs
  simp only [List.all_cons,Bool.and_eq_true] at hs
  refine ⟨?_,fun u hu j hj=> ?_⟩
  · rw [he,QL (Kd hs.1 h1).1]
    exact ⟨v,[],rfl,h1,rfl⟩
  · rw [he] at hu
    simp at hu
    subst hu
    exact h2 j hj
 cases V with
 | d t x=>
  obtain ⟨ha,n,hn⟩:=h
  obtain ⟨h1,h2,h3⟩:=mI (P:=P) hS μ bx hn
  exact ⟨h1,fun u hu j hj=>by rw [h3 u hu] at hj; simp at hj⟩
 | agg u vs=>
  obtain ⟨cs,rfl,_,_,hvs⟩:=h
  exact ⟨hvs,fun v hv j hj=>by simp only [aA,List.mem_flatMap]; exact ⟨v,hv,hj⟩⟩
 | iy vs=>simp [cellsOf,bU] at hs
 | fC f vs=>simp [cellsOf,bU] at hs
 | undef=>simp [cellsOf,bU] at hs
 | skip=>simp [cellsOf,bU] at hs
 | pr p i=>exact one _ rfl rfl h (fun j hj=>hj)
 | aZ b e l=>exact one _ rfl rfl h (fun j hj=>hj)
 | aQ b=>exact one _ rfl rfl h (fun j hj=>hj)
 | pre b n=>simp [cellsOf,bU] at hs
 | win b i n=>simp [cellsOf,bU] at hs
 | cF b n=>simp [cellsOf,bU] at hs
 | split b c=>simp [cellsOf,bU] at hs
 | l8 c=>simp [cellsOf,bU] at hs
 | err b=>simp [cellsOf,bU] at hs
 | ptr b off=>exact one _ rfl rfl h (fun j hj=>hj)
 | eY b i off=>exact one _ rfl rfl h (fun j hj=>hj)
 | dw t x=>exact one _ rfl rfl h (fun j hj=>hj)
 | nil=>exact one _ rfl rfl h (fun j hj=>hj)
 | cI=>exact one _ rfl rfl h (fun j hj=>hj)
 | fv A R g=>exact one _ rfl rfl h (fun j hj=>hj)
theorem B3 {vs:List (Sy.V S.C)} {n:Nat} (h:fits S vs n=true):vs.length=n∧vs.all (bU S)=true:=by
 unfold fits at h
 rw [Bool.and_eq_true] at h
 exact ⟨Nat.eq_of_beq_eq_true h.1,h.2⟩
theorem o9 {w:World} {cs:Array Value} {t:TypeId} :(w.alloc (.cells cs t)).there w.heap.size 0 cs.size∧(w.alloc (.cells cs t)).rangeAt w.heap.size 0 cs.toList:=by
 refine ⟨fun j hj=> ?_,fun j v hv=> ?_⟩
 · rw [Nat.zero_add]
   simp [hj]
 · rw [Nat.zero_add]
   simpa using hv
theorem KY (hP:aV P S ak) (h:Inv P S w0 M0 s0 dq env a w μ) (hd: ∀ d,o.dst=some d→d<a.tmps.size) {B:Nat} {t:TypeId} {cells:Array Value} {vs:List (Sy.V S.C)}
 (hrun:(execOp a.eval o).run P w= .ok (.value (.pointer (some ⟨w.heap.size,0,none⟩))) (w.alloc (.cells cells t))) (hB:env.bx B=none)
 (hs:vs.all (bU S)=true) (hv:aH P S w (aG S w0 M0 s0 env.bx μ w) μ env.bx vs cells.toList) (hr: ∀ v ∈ vs, ∀ j ∈ az S v,env.bx j≠none)
 (hK:Goal P S w0 M0 s0 dq env a o.dst (.ptr B 0) [(B, .cells vs)] K):o.wp P a w K Q:=by
 have hlen:=aH.length P S hv
 refine pV (i:=B) (B:= .cells vs) (V:= .ptr B 0) (L:=⟨w.heap.size,0,vs.length,0,false⟩) h hrun hd (aY.alloc w _ _) hB (fun b o' hf=>Nat.le_of_eq hf.1.symm) (fun _ _ h3=>⟨⟨hs,rfl, ?_,cells.toList,o9.2, ?_⟩, ?_⟩)
  (fun vs' hvs v hv j hj=> ?_) (fun j hj=> .inl (by simpa [aA,az] using hj)) hK
 · have :=(o9 (w:=w) (cs:=cells) (t:=t)).1
   rw [show cells.size=vs.length from by rw [← hlen]; simp] at this
   exact this
 · exact aH.map h3 hr hv
 · show Value.pointer _=_
   rw [aR]
 · rcases hvs with hvs | hvs
   · cases hvs; exact hr v hv j hj
   · cases hvs
theorem Ws (hP:aV P S ak) (h:Inv P S w0 M0 s0 dq env a w μ) (hd: ∀ d,o.dst=some d→d<a.tmps.size) {B c:Nat} {t:TypeId} {cells:Array Value} {vs:List (Sy.V S.C)}
 (hrun:(execOp a.eval o).run P w= .ok (.value (.pointer (some ⟨w.heap.size,0,none⟩))) (w.alloc (.cells cells t))) (hB:env.bx B=none)
 (hs:(Sy.V.ptr c 0::vs).all (bU S)=true) (hv:aH P S w (aG S w0 M0 s0 env.bx μ w) μ env.bx (.ptr c 0::vs) cells.toList) (hr: ∀ v ∈ Sy.V.ptr c 0::vs, ∀ j ∈ az S v,env.bx j≠none)
 (hK:Goal P S w0 M0 s0 dq env a o.dst (.split B c) [(B, .cells vs)] K):o.wp P a w K Q:=by
 obtain ⟨u,r,hcs,hu,hv⟩:=hv
 have hlen:=aH.length P S hv
 have hc0:env.bx c≠none:=hr (.ptr c 0) (by simp) c (by simp [az])
 have Pq:c≠B:=fun e=>hc0 (e▸hB)
 have hu:u= .pointer (some ⟨(μ c).b,(μ c).o,none⟩):=hu
 have hsz:cells.size=vs.length+1:=by rw [← Array.length_toList,hcs,List.length_cons,hlen]
 simp only [List.all_cons,Bool.and_eq_true] at hs
 refine pV (i:=B) (B:= .cells vs) (V:= .split B c) (L:=⟨w.heap.size,1,vs.length,0,false⟩) h hrun hd (aY.alloc w _ _) hB (fun b o' hf=>Nat.le_of_eq hf.1.symm) (fun _ _ h3=>⟨⟨hs.2,rfl, ?_,r, ?_, ?_⟩, ?_⟩)
  (fun vs' hvs v hv j hj=> ?_) (fun j hj=> ?_) hK
 · intro j hj
   have :=(o9 (w:=w) (cs:=cells) (t:=t)).1 (1+j) (by have :j<vs.length:=hj; omega)
   rw [Nat.zero_add] at this
   exact this
 · intro j v hj
   have :=(o9 (w:=w) (cs:=cells) (t:=t)).2 (1+j) v (by rw [hcs,Nat.add_comm]; simpa using hj)
   rw [Nat.zero_add] at this
   exact this
 · exact aH.map h3 (fun v hv=>hr v (by simp [hv])) hv
 · refine ⟨w.heap.size,0,rfl,fun j v hj=> ?_,by rw [aR],by rw [aR]⟩
   have hj0:j=0∧v= .pointer (some ⟨(au μ B ⟨w.heap.size,1,vs.length,0,false⟩ c).b,(au μ B ⟨w.heap.size,1,vs.length,0,false⟩ c).o,none⟩):=by
    cases j with
    | zero=>exact ⟨rfl,by simpa using hj.symm⟩
    | succ j=>simp at hj
   obtain ⟨rfl,rfl⟩:=hj0
   rw [bg _ _ Pq]
   refine ⟨?_,by simp, .inr (.inr h.gY.size),fun i hi hf=> ?_⟩
   · have :=(o9 (w:=w) (cs:=cells) (t:=t)).2 0 u (by rw [hcs]; rfl)
     rw [Nat.zero_add] at this
     rw [← hu]
     exact this
   · by_cases e:i=B
     · subst e
       rw [aR] at hf
       have h1:1≤0+0:=hf.2.1
       omega
     · have hl:=(eA S (show au env.bx B (some (.cells vs)) i=env.bx i from bg _ _ e)).1 hi
       rw [bg _ _ e] at hf
       have :=(lZ P S (h.cg i) hl hf).1
       omega
 · rcases hvs with hvs | hvs
   · cases hvs; exact hr v (by simp [hv]) j hj
   · cases hvs
 · have hj:j ∈ [B,c]:=hj
   simp only [List.mem_cons,List.not_mem_nil,or_false] at hj
   rcases hj with rfl | rfl
   · exact .inl rfl
   · exact .inr hc0
theorem sr {s:St} {bx:Bx S.C} : ∀ (ts:List Ty),ts.all (fun t=> !bq t)=true→aH P S w s μ bx (ts.map (zeroCell S)) (ts.map uJ)∧(ts.map (zeroCell S)).all (bU S)=true∧ ∀ v ∈ ts.map (zeroCell S),az S v= []
 | [],_=>⟨rfl,rfl,by simp⟩
 | t::ts,h=>by
  simp only [List.all_cons,Bool.and_eq_true,Bool.not_eq_true'] at h
  obtain ⟨h1,h2,h3⟩:=sr ts h.2
  refine ⟨⟨_,_,rfl, ?_,h1⟩, ?_, ?_⟩
  · cases t with
    | int k=>exact iI ..
    | bool=>exact nF ..
    | str=>exact AS ..
    | pt=>rfl
    | sl e=>rfl
    | st u=>simp [bq] at h
  · simp only [List.map_cons,List.all_cons,Bool.and_eq_true]
    exact ⟨by cases t <;> first | rfl | simp [bq] at h,h2⟩
  · intro v hv
    simp only [List.map_cons,List.mem_cons] at hv
    rcases hv with rfl | hv
    · cases t <;> rfl
    · exact h3 v hv
theorem K5 (hS:cT S) {s:St} {bx:Bx S.C} (T:Ty):aH P S w s μ bx (zeroCells S T) (su S T)∧(zeroCells S T).all (bU S)=true∧ ∀ v ∈ zeroCells S T,az S v= []:=by
 cases T with
 | st u=>exact sr (S.F u) (hS.flat u)
 | int k=>exact sr [.int k] rfl
 | bool=>exact sr [.bool] rfl
 | str=>exact sr [.str] rfl
 | pt=>exact sr [.pt] rfl
 | sl e=>exact sr [.sl e] rfl
theorem MX (hP:aV P S ak) (h:Inv P S w0 M0 s0 dq env a w μ) (hd: ∀ d,o.dst=some d→d<a.tmps.size) {B:Nat} {t:TypeId} (ho:o.op= .alloc t)
 (hnew: ∀ u ∈ ([(B+1, .buf []),(B, .aX (B+1))]:aI S.C),B≤u.1→u.1<B+16→env.bx u.1=none) (hb:vZ S t=true)
 (hK:Goal P S w0 M0 s0 dq env a o.dst (.ptr B 0) [(B+1, .buf []),(B, .aX (B+1))] K):o.wp P a w K Q:=by
 obtain ⟨T,e,dK,rfl⟩: ∃ T e,S.bt=some (T,e)∧t=T:=by
  unfold vZ at hb
  split at hb
  · rename_i u hu
    exact ⟨u.1,u.2,hu,(Nat.eq_of_beq_eq_true hb).symm⟩
  · cases hb
 obtain ⟨_,i,z,h1,h2,h3⟩:=hP.bt _ dK
 have n1:=hnew (B+1, .buf []) (by simp) (by show B≤B+1; omega) (by show B+1<B+16; omega)
 have n0:=hnew (B, .aX (B+1)) (by simp) (Nat.le_refl _) (by show B<B+16; omega)
 have hrow:mA S w ⟨0,0,0,0,true⟩ []:=⟨rfl,rfl,fun _=>rfl,_,_,dK,World.ownsRowF_nil ..⟩
 obtain ⟨hI,_,_⟩:=h.Dp (aY.refl w _) n1 (B:= .buf []) (L:=⟨0,0,0,0,true⟩) (fun b o' hf=>by have h1:o'<0+0:=hf.2.2; omega) (fun _ _ _=>hrow) (fun vs hvs=>by rcases hvs with hvs | hvs <;> cases hvs)
 have hne: ∀ (i:Nat) (B0:Option (dP S.C)),i=B→au env.bx (B+1) (some (.buf [])) i=env.bx i:=fun i _ e=>bg _ _ (by omega)
 refine pV (env:= { env with bx:=au env.bx (B+1) (some (.buf [])) }) (i:=B) (B:= .aX (B+1)) (V:= .ptr B 0) (v:= .pointer (some ⟨w.heap.size,0,none⟩)) (w':=w.alloc (.cells #[.pointer none, .slice none 0 0] t)) (L:=⟨w.heap.size,0,2,0,false⟩) hI ?_ hd (aY.alloc w _ _) ((hne B none rfl).trans n0) (fun b o' hf=>Nat.le_of_eq hf.1.symm)
  (fun _ _ _=>⟨⟨rfl,rfl, ?_, .slice none 0 0,⟨t,e, .pointer none,dK,(by show (w.heap.push _)[w.heap.size]? =some _; simp), .inl rfl⟩,fun l hl=> ?_⟩, ?_⟩) (fun vs hvs=>by rcases hvs with hvs | hvs <;> cases hvs) (fun j hj=> .inl (by simpa [aA,az] using hj)) hK
 · unfold execOp
   simp only [ho]
   simp [Instr.alloc,zeroValue,typeInfo,h1,h2,h3,newVar,newRow]
 · rw [bg _ _ (show B+1≠B by omega)]
   show au env.bx (B+1) (some (.buf [])) (B+1)≠none
   rw [aR]; simp
 · rw [bg _ _ (show B+1≠B by omega)] at hl
   have hl:au env.bx (B+1) (some (.buf [])) (B+1)=some (.buf l):=hl
   rw [aR] at hl
   cases hl
   rw [bg _ _ (show B+1≠B by omega),aR]
   rfl
 · show Value.pointer _=_
   rw [aR]
theorem Mt (hP:aV P S ak) (h:Inv P S w0 M0 s0 dq env a w μ) (hd: ∀ d,o.dst=some d→d<a.tmps.size) {B:Nat} {t:TypeId} (ho:o.op= .alloc t)
 (hnew: ∀ u ∈ us,B≤u.1→u.1<B+16→env.bx u.1=none)
 (hl:(match S.ty t with
  | some u=>aB S (.ptr B 0) [(B, .cells (zeroCells S u))]
  | none=>cond (vZ S t) (aB S (.ptr B 0) [(B+1, .buf []),(B, .aX (B+1))]) .fail).leaf (V,us)) (hK:Goal P S w0 M0 s0 dq env a o.dst V us K):o.wp P a w K Q:=by
 split at hl
 · rename_i T ht
   obtain ⟨rfl,rfl⟩:=bE hl
   obtain ⟨⟨i,z,h1,h2,h3,h4,h5⟩,_⟩:=hP.ty t T ht
   obtain ⟨z1,z2,z3⟩:=K5 (P:=P) (w:=w) (μ:=μ) hP.tocT (s:=aG S w0 M0 s0 env.bx μ w) (bx:=env.bx) T
   refine KY hP h hd (cells:=z.cells) (t:=t) ?_ (hnew (B, .cells (zeroCells S T)) (List.mem_singleton.2 rfl) (Nat.le_refl _) (by show B<B+16; omega)) z2 (by rw [h5]; exact z1) (fun v hv j hj=>by rw [z3 v hv] at hj; simp at hj) hK
   unfold execOp
   simp only [ho]
   simp [Instr.alloc,zeroValue,typeInfo,h1,h3,newVar,newRow]
 · cases hb:vZ S t with
   | false=>rw [hb] at hl; exact hl.elim
   | true=>
    rw [hb] at hl
    obtain ⟨rfl,rfl⟩:=bE hl
    exact MX hP h hd ho hnew hb hK
theorem Nb (hP:aV P S ak) (h:Inv P S w0 M0 s0 dq env a w μ) (hd: ∀ d,o.dst=some d→d<a.tmps.size) {B:Nat} {t:TypeId} {x:Operand} (ho:o.op= .box t x)
 (hnew: ∀ u ∈ us,B≤u.1→u.1<B+16→env.bx u.1=none)
 (hl:(match S.ty t,aO S env.tm x with
  | some u,some v=>cond (fits S (cellsOf S v) (Ty.sz S u)) (match S.sp t with
   | false=>aB S (.ptr (B) 0) [(B, .cells (cellsOf S v))]
   | true=>match cellsOf S v with
    | .ptr c 0::vs=>aB S (.split B c) [(B, .cells vs)]
    | _=> .fail) .fail
  | _,_=> .fail).leaf (V,us)) (hK:Goal P S w0 M0 s0 dq env a o.dst V us K):o.wp P a w K Q:=by
 split at hl
 · rename_i T v ht hx
   cases hf:fits S (cellsOf S v) (Ty.sz S T) with
   | false=>rw [hf] at hl; exact hl.elim
   | true=>
    rw [hf,cond_true] at hl
    obtain ⟨f1,f2⟩:=B3 hf
    obtain ⟨hv,dx⟩:=bB h hx
    obtain ⟨c1,c2⟩:=Bz hP.tocT f2 hv
    split at hl
    rotate_left
    · split at hl
      · rename_i c vs hcs
        obtain ⟨rfl,rfl⟩:=bE hl
        rw [hcs] at f2 c1 c2
        refine Ws hP h hd (cells:=(a.eval x).cells) (t:=t) ?_ (hnew (B, .cells vs) (List.mem_singleton.2 rfl) (Nat.le_refl _) (by show B<B+16; omega)) f2 c1 (fun v hv j hj=>dx j (c2 v hv j hj)) hK
        unfold execOp
        simp only [ho]
        simp [Instr.box,newVar,newRow]
      · exact hl.elim
    obtain ⟨rfl,rfl⟩:=bE hl
    refine KY hP h hd (cells:=(a.eval x).cells) (t:=t) ?_ (hnew (B, .cells (cellsOf S v)) (List.mem_singleton.2 rfl) (Nat.le_refl _) (by show B<B+16; omega)) f2 c1 (fun v hv j hj=>dx j (c2 v hv j hj)) hK
    unfold execOp
    simp only [ho]
    simp [Instr.box,newVar,newRow]
 · exact hl.elim
end
end Go.Sy
namespace Go.Sy
theorem tP {w:World} {b o b' o':Nat} {cs vals:List Value} (h:w.rangeAt b' o' cs) (hd:b'≠b∨o'+cs.length≤o∨o+vals.length≤o'):(w.setCells b o vals).rangeAt b' o' cs:=fun j v hj=>by
 have hjl:=(List.getElem?_eq_some_iff.1 hj).1
 rw [World.cell?_setCells_out b vals o w ⟨b',o'+j,none⟩ fun hb _=>by
  have hb:b'=b:=hb
  show o'+j<o∨o+vals.length≤o'+j
  rcases hd with hd | hd | hd
  · exact absurd hb hd
  · omega
  · omega]
 exact h j v hj
theorem I7 {w:World} {b o:Nat} {cs vals:List Value} (h:w.rangeAt b o cs) (k:Nat) (hk:k+vals.length≤cs.length):(w.setCells b (o+k) vals).rangeAt b o (cs.take k++vals++cs.drop (k+vals.length)):=fun j v hj=>by
 have hin:=World.cell?_setCells_in b vals (o+k) w (fun i hi=>by
  have :(cs[k+i]?).isSome=true:=by rw [List.getElem?_eq_getElem (by omega)]; rfl
  obtain ⟨u,hu⟩:=Option.isSome_iff_exists.1 this
  rw [Nat.add_assoc,h _ _ hu]; rfl)
 by_cases h1:j<k
 · rw [List.append_assoc,List.getElem?_append_left (by simp; omega),List.getElem?_take,if_pos h1] at hj
   rw [World.cell?_setCells_out b vals (o+k) w ⟨b,o+j,none⟩ fun _ _=> .inl (by show o+j<o+k; omega)]
   exact h j v hj
 · by_cases h2:j<k+vals.length
   · rw [List.append_assoc,List.getElem?_append_right (by simp; omega),List.getElem?_append_left (by simp; omega)] at hj
     have hlen:(List.take k cs).length=k:=by simp; omega
     rw [hlen] at hj
     have :=hin (j - k) (by omega)
     rw [show o+k+(j - k)=o+j from by omega] at this
     rw [this, ← hj,List.getElem?_eq_getElem]
   · rw [List.append_assoc,List.getElem?_append_right (by simp; omega),List.getElem?_append_right (by simp; omega),List.getElem?_drop] at hj
     have hlen:(List.take k cs).length=k:=by simp; omega
     rw [hlen] at hj
     rw [World.cell?_setCells_out b vals (o+k) w ⟨b,o+j,none⟩ fun _ _=> .inr (by show o+k+vals.length≤o+j; omega)]
     rw [show k+vals.length+(j - k - vals.length)=j from by omega] at hj
     exact h j v hj
theorem zF {w:World} {b o:Nat} {vals:List Value} (ht:w.there b o vals.length):(w.setCells b o vals).rangeAt b o vals:=fun j v hj=>by
 have hjl:=(List.getElem?_eq_some_iff.1 hj).1
 rw [World.cell?_setCells_in b vals o w (fun i hi=>(ht i hi).1) j hjl, ← hj,List.getElem?_eq_getElem]
theorem uD {w:World} {b o n b' o':Nat} {vals:List Value} (h:w.there b o n) (hs:w.there b' o' vals.length):(w.setCells b' o' vals).there b o n:=fun j hj=>by
 have hc:=aY.setCells w b' o' vals hs
 have hlt:b<w.heap.size:=by
  obtain ⟨v,hv⟩:=Option.isSome_iff_exists.1 (h j hj).1
  exact World.block_lt_of_cell? w _ hv
 exact ⟨hc.some _ _ hlt (h j hj).1,(World.frozen?_setCells ..).trans (h j hj).2⟩
section
variable {P:Program} {S:aS} {ak:Nat→Nat}
variable {w0:World} {M0 s0:St} {dq:List Deferred} {env:Env S.C} {a:Act} {w:World} {μ:Nat→Loc} {K:Act→World→Prop} {Q:Exit→Act→World→Prop} {o:Oper} {V:V S.C} {us:aI S.C}
theorem RC {s:St} {bx:Bx S.C} {i:Nat} {L:Loc} {B:dP S.C} (hb:bx i=some B) (hl:live S bx i) (hB: ∀ l,B≠ .buf l) (h:RB P S w s μ bx L B):w.there L.b L.o L.n:=by
 unfold live at hl
 rw [hb] at hl
 cases B with
 | cells vs=>exact h.2.2.1
 | arr e l=>exact h.2.2.2.1
 | tail=>exact h
 | bW vs=>exact hl.elim
 | bM e l=>exact hl.elim
 | dead=>exact hl.elim
 | aX j=>
  obtain ⟨h1,h2,_,v,⟨T,e,p,_,h3,_⟩,_⟩:=h
  intro k hk
  rw [h1,h2] at *
  rw [Lib.cell_of_heap h3,Lib.frozen_of_heap h3]
  refine ⟨by simp; omega,rfl⟩
 | buf l=>exact absurd rfl (hB l)
theorem Inv.write (h:Inv P S w0 M0 s0 dq env a w μ) {i:Nat} {B0 B':dP S.C} (hi:env.bx i=some B0) (hl0:live S env.bx i) (OW: ∀ l,B0≠ .buf l) {o':Nat} {vals:List Value}
 (h1:(μ i).o≤o') (h2:o'+vals.length≤(μ i).o+(μ i).n) (hc:cM S (μ i) (μ i) B0 B')
 (hb:bY w (aG S w0 M0 s0 env.bx μ w) (w.setCells (μ i).b o' vals) (aG S w0 M0 s0 (au env.bx i (some B')) μ (w.setCells (μ i).b o' vals))→
  (∀ V v,bI P S w (aG S w0 M0 s0 env.bx μ w) μ env.bx V v→(∀ j ∈ az S V,env.bx j≠none)→
   bI P S (w.setCells (μ i).b o' vals) (aG S w0 M0 s0 (au env.bx i (some B')) μ (w.setCells (μ i).b o' vals)) μ (au env.bx i (some B')) V v)→
  RB P S (w.setCells (μ i).b o' vals) (aG S w0 M0 s0 (au env.bx i (some B')) μ (w.setCells (μ i).b o' vals)) μ (au env.bx i (some B')) (μ i) B')
 (hr: ∀ vs,(B'= .cells vs∨B'= .bW vs)→ ∀ v ∈ vs, ∀ j ∈ az S v,env.bx j≠none):
 Inv P S w0 M0 s0 dq { env with bx:=au env.bx i (some B') } a (w.setCells (μ i).b o' vals) μ:=by
 have vS:=nh (RC hi hl0 OW (h.cg i B0 hi)) h1 h2
 have hU: ∀ j, ¬ j=i→au env.bx i (some B') j=env.bx j∧μ j=μ j:=fun j hj=>⟨bg _ _ hj,rfl⟩
 have hT: ∀ b o,(b=(μ i).b∧o'≤o∧o<o'+vals.length)→b<w.heap.size→ ∃ j,j=i∧live S env.bx j∧(μ j).aF b o:=fun b o vE _=>
  ⟨i,rfl,hl0,vE.1,by omega,by omega⟩
 have hf: ∀ j,j=i→live S (au env.bx i (some B')) j→ ∀ b o,(μ j).aF b o→w.heap.size≤b∨ ∃ k,k=i∧live S env.bx k∧(μ k).aF b o:=by
  rintro j rfl _ b o hfo
  exact .inr ⟨j,rfl,hl0,hfo⟩
 have qO: ∀ j B0,env.bx j=some B0→ ∃ B1,au env.bx i (some B') j=some B1∧cM S (μ j) (μ j) B0 B1:=by
  intro j B1 hj
  by_cases e:j=i
  · subst e
    rw [hi] at hj
    cases hj
    exact ⟨B',aR _ _ _,hc⟩
  · exact ⟨B1,by rw [bg _ _ e]; exact hj,cM.refl S _ _⟩
 have hw:=aY.setCells w (μ i).b o' vals vS
 have hl:=h.later (U:=fun j=>j=i) hw hT hU hf
 refine h.step (U:=fun j=>j=i) hw hT hU hf qO ?_ ?_ ?_
 · rintro j k rfl rfl hne; exact absurd rfl hne
 · rintro j B1 rfl ki
   rw [aR] at ki
   cases ki
   exact hb hl fun V v hv hr=>bI.step P S hl qO hr hv
 · rintro j vs rfl hvs v hv k hk
   rw [aR] at hvs
   have h0:=hr vs (by rcases hvs with hvs | hvs <;> · cases hvs; simp) v hv k hk
   obtain ⟨B1,ki⟩:=Option.ne_none_iff_exists'.1 h0
   obtain ⟨B2,OV,_⟩:=qO k B1 ki
   rw [OV]; simp
theorem run_store (hP:aV P S ak) {t:Nat} {T:Ty} (ht:S.ty t=some T) {b o':Nat} {v:Value} (hs:v.cells.size=Ty.sz S T) (cl:w.there b o' v.cells.toList.length) (h1: ∀ c ∈ v.cells.toList,c.oneCell'=true):
 (Instr.storeAt t (.pointer (some ⟨b,o',none⟩)) v).run P w= .ok () (w.setCells b o' v.cells.toList):=by
 obtain ⟨⟨i,z,hi,hsz,_⟩,_⟩:=hP.ty t T ht
 have h2:=run_storeAt_mid (P:=P) w b o' t v.cells (by simpa using cl) (by rw [hi]; simp [hsz,hs]) (Array.all_eq_true_iff_forall_mem.2 fun c hc=>h1 c (by simpa using hc))
 exact h2
theorem K0 (h:Inv P S w0 M0 s0 dq env a w μ) (hd: ∀ d,o.dst=some d→d<a.tmps.size) {w':World} {us:aI S.C}
 (hrun:(execOp a.eval o).run P w= .ok .skip w') (hI:Inv P S w0 M0 s0 dq { env with bx:=av env.bx us } a w' μ)
 (hK:Goal P S w0 M0 s0 dq env a o.dst .skip us K):o.wp P a w K Q:=by
 unfold Oper.wp
 rw [hrun]
 refine hK _ w' μ (hI.put hd (V:= .skip) (v:=undef) rfl (by simp [aA,az])) ?_
 cases o.dst <;> simp [Act.put]
theorem JY {vs ws:List (Sy.V S.C)} {off:Nat} {p:Sy.V S.C→Bool} (h1:vs.all p=true) (h2:ws.all p=true):(setCells S vs off ws).all p=true:=by
 unfold Sy.setCells
 rw [List.all_eq_true] at *
 intro x hx
 simp only [List.mem_append] at hx
 rcases hx with (hx | hx) | hx
 · exact h1 x (List.mem_of_mem_take hx)
 · exact h2 x hx
 · exact h1 x (List.mem_of_mem_drop hx)
theorem J0 {vs ws:List (Sy.V S.C)} {off:Nat} {x:Sy.V S.C} (hx:x ∈ setCells S vs off ws):x ∈ vs∨x ∈ ws:=by
 unfold Sy.setCells at hx
 simp only [List.mem_append] at hx
 rcases hx with (hx | hx) | hx
 · exact .inl (List.mem_of_mem_take hx)
 · exact .inr hx
 · exact .inl (List.mem_of_mem_drop hx)
theorem JZ {vs ws:List (Sy.V S.C)} {off:Nat} (h:off+ws.length≤vs.length):(setCells S vs off ws).length=vs.length:=by
 unfold Sy.setCells; simp; omega
theorem En {s:St} {bx:Bx S.C} {vs ws:List (Sy.V S.C)} {cs ds:List Value} {off:Nat} (h1:aH P S w s μ bx vs cs) (h2:aH P S w s μ bx ws ds):
 aH P S w s μ bx (setCells S vs off ws) (cs.take off++ds++cs.drop (off+ds.length)):=by
 unfold Sy.setCells
 rw [aH.length P S h2]
 exact aH.append P S (aH.append P S (h1.take P S off) h2) (h1.drop P S _)
theorem vg {bx ai:Bx S.C} {t:Ty} {V:Sy.V S.C} (h: ∀ i ∈ aA S V,ai i=bx i):datum S ai t V=datum S bx t V∧dh S ai V=dh S bx V:=by
 have sK: ∀ (W:Sy.V S.C) (t:Ty),(∀ i ∈ az S W,ai i=bx i)→cU S ai t W=cU S bx t W:=by
  intro W t hW
  cases W with
  | aQ b=>simp only [cU]; rw [hW b (by simp [az])]
  | _=>rfl
 have GD: ∀ (W:Sy.V S.C),(∀ i ∈ az S W,ai i=bx i)→cN S ai W=cN S bx W:=by
  intro W hW
  cases W with
  | aQ b=>simp only [cN]; rw [hW b (by simp [az])]
  | _=>rfl
 have Vt: ∀ (ts:List Ty) (vs:List (Sy.V S.C)),(∀ v ∈ vs, ∀ i ∈ az S v,ai i=bx i)→gR S ai ts vs=gR S bx ts vs:=by
  intro ts
  induction ts with
  | nil=>intro vs _; rfl
  | cons t ts ih=>
   intro vs hvs
   cases vs with
   | nil=>rfl
   | cons v vs=>
    simp only [gR]
    rw [sK v t (hvs v (by simp)),ih vs fun v hv=>hvs v (by simp [hv])]
 have imp_eq: ∀ (t:Ty) (vs:List (Sy.V S.C)),(∀ v ∈ vs, ∀ i ∈ az S v,ai i=bx i)→h_ S ai t vs=h_ S bx t vs:=by
  intro t vs hvs
  cases t with
  | st u=>simp only [h_]; rw [Vt _ vs hvs]
  | _=>
   cases vs with
   | nil=>rfl
   | cons v vs=>exact sK v _ (hvs v (by simp))
 cases V with
 | agg u vs=>
  have hvs: ∀ v ∈ vs, ∀ i ∈ az S v,ai i=bx i:=fun v hv i hi=>h i (by simp only [aA,List.mem_flatMap]; exact ⟨v,hv,hi⟩)
  refine ⟨?_, ?_⟩
  · cases t <;> simp only [datum]
    rw [imp_eq _ vs hvs]
  · simp only [dh]
    clear h
    induction vs with
    | nil=>rfl
    | cons v vs ih=>
     simp only [List.flatMap_cons]
     rw [GD v (hvs v (by simp)),ih fun v hv=>hvs v (by simp [hv])]
 | aQ b=>exact ⟨by cases t <;> first | rfl | exact sK (.aQ b) _ h,GD (.aQ b) h⟩
 | _=>exact ⟨by cases t <;> rfl,rfl⟩
theorem Kg (hP:aV P S ak) (h:Inv P S w0 M0 s0 dq env a w μ) (hd: ∀ d,o.dst=some d→d<a.tmps.size) {t:TypeId} {x y:Operand} {ids:List Nat} (ho:o.op= .store t x y)
 (fQ: ∀ V,aO S env.tm y=some V→ ∀ i ∈ aA S V,restrict S env.bx ids i=env.bx i)
 (hl:(match S.ty t,aO S env.tm x,aO S env.tm y with
  | some u,some p,some v=>xq S u (restrict S env.bx ids) v p
  | _,_,_=> .fail).leaf (V,us)) (hK:Goal P S w0 M0 s0 dq env a o.dst V us K):o.wp P a w K Q:=by
 split at hl
 · rename_i T p v ht hx hy
   obtain ⟨hp,_⟩:=bB h hx
   obtain ⟨hv,dx⟩:=bB h hy
   cases p with
   | ptr b off=>
    simp only [xq] at hl
    split at hl
    · rename_i vs hb
      have hb:=eU hb
      cases hf:fits S (cellsOf S v) (Ty.sz S T)&&Nat.ble (off+Ty.sz S T) vs.length with
      | false=>rw [hf] at hl; exact hl.elim
      | true=>
       rw [hf] at hl
       obtain ⟨rfl,rfl⟩:=bE hl
       rw [Bool.and_eq_true] at hf
       obtain ⟨f1,f2⟩:=B3 hf.1
       have f3:=Nat.le_of_ble_eq_true hf.2
       obtain ⟨c1,c2⟩:=Bz hP.tocT f2 hv
       have Nw:=aH.length P S c1
       obtain ⟨b1,b2,b3,cs,b4,b5⟩:=h.cg b _ hb
       have Wy:=aH.length P S b5
       have cj:live S env.bx b:=by unfold live; rw [hb]; trivial
       have hle:off+(a.eval y).cells.toList.length≤cs.length:=by omega
       have cl:w.there (μ b).b ((μ b).o+off) (a.eval y).cells.toList.length:=nh b3 (by omega) (by omega)
       have hp:a.eval x= .pointer (some ⟨(μ b).b,(μ b).o+off,none⟩):=hp
       have hrun:(execOp a.eval o).run P w= .ok .skip (w.setCells (μ b).b ((μ b).o+off) (a.eval y).cells.toList):=by
        unfold execOp
        simp only [ho,hp]
        have :=run_store hP ht (b:=(μ b).b) (o':=(μ b).o+off) (v:=a.eval y) (w:=w) (by rw [← f1, ← Nw]; simp) cl (xm f2 c1)
        simp [this]
       refine K0 h hd hrun ?_ hK
       show Inv P S w0 M0 s0 dq { env with bx:=au env.bx b (some (.cells (setCells S vs off (cellsOf S v)))) } a _ μ
       refine h.write hb cj (fun _ e=>nomatch e) (by omega) (by omega) rfl (fun hl nI=>⟨JY b1 f2,by rw [JZ (by omega)]; exact b2,uD b3 cl,_,I7 b4 off hle, ?_⟩) fun ws iG u hu j hj=> ?_
       · refine En (aH.map nI (fun v hv=>h.kL b vs (.inl hb) v hv) b5) (aH.map nI (fun u hu j hj=>dx j (c2 u hu j hj)) c1)
       · rcases iG with iG | iG
         · cases iG
           rcases J0 hu with hu | hu
           · exact h.kL b vs (.inl hb) u hu j hj
           · exact dx j (c2 u hu j hj)
         · cases iG
    · exact hl.elim
   | eY b i off=>
    simp only [xq] at hl
    split at hl
    · rename_i e l hb
      have hb:=eU hb
      split at hl
      · rename_i z hz
        obtain ⟨d1,d2⟩:=vg (t:=T) (fQ v hy)
        rw [d1] at hz
        rw [d2] at hl
        cases hf:Nat.ble (off+Ty.sz S T) (Ty.sz S e)&&(dh S env.bx v).all (fun u=> !Nat.beq u.1 b) with
        | false=>rw [hf] at hl; exact hl.elim
        | true=>
         rw [hf,cond_true] at hl
         rw [Bool.and_eq_true] at hf
         split at hl
         · rename_i e' he'
           obtain ⟨rfl,rfl⟩:=bE hl
           have f3:=Nat.le_of_ble_eq_true hf.1
           obtain ⟨k1,r1⟩:=yd hP.tocT h (Tk.refl S env.bx) hv hz
           have h1:=h.tk k1
           have fP:av env.bx (dh S env.bx v) b=some (.arr e l):=by
            rw [uH _ _ fun u hu=> ?_]
            · exact hb
            · have :=List.all_eq_true.1 hf.2 u hu
              intro e
              rw [e,Nat.beq_refl] at this
              cases this
           obtain ⟨_,jL⟩:=h1.jE 0 |> fun _=>(show RV P S w (aG S w0 M0 s0 env.bx μ w) μ env.bx (.eY b i off) (a.eval x) from hp)
           obtain ⟨i0,i1,HH⟩:=jL e l (.inl hb)
           obtain ⟨g1,g2,g3,g4,g5⟩:=h1.cg b _ fP
           have Cz:l[i.toNat]? =some (gE S e l i):=sZ i0 (by omega)
           obtain ⟨ds,WA,NJ,n,NK⟩:=g5 _ _ Cz
           have r2:cA S w (aG S w0 M0 s0 (av env.bx (dh S env.bx v)) μ w) T z (a.eval y):=by
            refine r1.mono S fun b' o' ⟨q1,q2,q3⟩=>⟨⟨q1,q2,fun j hj=> ?_⟩,rfl⟩
            rcases q3 j ((eA S (k1.dU hj)).1 hj) with ⟨_,_,hq⟩ | hq
            · unfold live at hj; rw [hq] at hj; exact hj.elim
            · exact hq
           obtain ⟨m,r3⟩:=r2.2
           have hvl:=r3.length S
           have hrow:(i.toNat+1)*Ty.sz S e≤(μ b).cap*Ty.sz S e:=Nat.mul_le_mul_right _ (by omega)
           rw [Nat.add_mul,Nat.one_mul] at hrow
           have cj:live S (av env.bx (dh S env.bx v)) b:=by unfold live; rw [fP]; trivial
           have cl:w.there (μ b).b ((μ b).o+(i.toNat*Ty.sz S e+off)) (a.eval y).cells.toList.length:=nh g4 (by omega) (by omega)
           obtain ⟨x1,x2,x3⟩:=mI (P:=P) hP.tocT μ (av env.bx (dh S env.bx v)) r3
           obtain ⟨y1,y2,y3⟩:=mI (P:=P) hP.tocT μ (av env.bx (dh S env.bx v)) NK
           have Xa:=aH.length P S x1
           have Xb:=aH.length P S y1
           have hrun:(execOp a.eval o).run P w= .ok .skip (w.setCells (μ b).b ((μ b).o+(i.toNat*Ty.sz S e+off)) (a.eval y).cells.toList):=by
            unfold execOp
            rw [show (μ b).o+i.toNat*Ty.sz S e+off=(μ b).o+(i.toNat*Ty.sz S e+off) from by omega] at HH
            simp only [ho,HH]
            have :=run_store hP ht (b:=(μ b).b) (o':=(μ b).o+(i.toNat*Ty.sz S e+off)) (v:=a.eval y) (w:=w) (by rw [← hvl]; simp) cl (xm x2 x1)
            simp [this]
           refine K0 h hd hrun ?_ hK
           rw [ja]
           show Inv P S w0 M0 s0 dq { env with bx:=au (av env.bx (dh S env.bx v)) b (some (.arr e (l.set i.toNat e'))) } a _ μ
           refine h1.write (B':= .arr e (l.set i.toNat e')) fP cj (fun _ e=>nomatch e) (by omega) (by omega) ⟨rfl,rfl,by simp⟩ (fun hl nI=>⟨g1,g2,by simpa using g3,uD g4 cl,fun k q hk=> ?_⟩) fun ws iG=>by rcases iG with iG | iG <;> cases iG
           by_cases ek:i.toNat=k
           · subst ek
             rw [List.getElem?_set_self (by omega)] at hk
             cases hk
             rw [show (μ b).o+(i.toNat*Ty.sz S e+off)=(μ b).o+i.toNat*Ty.sz S e+off from by omega] at hl ⊢
             refine ⟨_, ?_,I7 (cs:=ds) (vals:=(a.eval y).cells.toList) NJ off (by omega), ?_⟩
             · rw [List.length_append,List.length_append,List.length_take,List.length_drop]; omega
             · obtain ⟨q,hq⟩:=HS (P:=P) hP.tocT (En (off:=off) y1 x1) he'
               refine ⟨q, ?_⟩
               have :=hq.mono S hl (Nat.le_refl _)
               rw [List.take_of_length_le (by rw [List.length_append,List.length_append,List.length_take,List.length_drop]; omega)] at this
               exact this
           · rw [List.getElem?_set_ne ek] at hk
             obtain ⟨ds',p1,p2,p3,p4⟩:=g5 k q hk
             refine ⟨ds',p1,tP p2 (.inr ?_),p3,p4.mono S hl (Nat.le_refl _)⟩
             rcases Nat.lt_or_gt_of_ne ek with hlt | hlt
             · right
               have :(i.toNat+1)*Ty.sz S e≤k*Ty.sz S e:=Nat.mul_le_mul_right _ (by omega)
               rw [Nat.add_mul,Nat.one_mul] at this
               omega
             · left
               have :(k+1)*Ty.sz S e≤i.toNat*Ty.sz S e:=Nat.mul_le_mul_right _ (by omega)
               rw [Nat.add_mul,Nat.one_mul] at this
               omega
         · exact hl.elim
      · exact hl.elim
    · exact hl.elim
   | _=>exact hl.elim
 · exact hl.elim
end
end Go.Sy
