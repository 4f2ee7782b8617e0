import Derived.WalkKit
import Derived.Deep.LoopGhost
import Derived.Deep.AppendSrc
import Derived.Deep.MidRow
import Derived.Lib.FrozenHead2
import Derived.Lib.Strings
set_option linter.unusedVariables false
set_option linter.unusedSimpArgs false
namespace Go.Sy
inductive Ty where
 | int (k:IntKind) | bool | str | st (t:Nat) | sl (e:Ty) | pt
 deriving DecidableEq,Inhabited
def Ty.den (C:Nat→Type):Ty→Type
 | .int _=>Int
 | .bool=>Bool
 | .str=>List UInt8
 | .st t=>C t
 | .sl e=>List (e.den C)
 | .pt=>Unit   -- a pointer in a struct
def ay (C:Nat→Type):List Ty→Type
 | []=>Unit
 | [t]=>t.den C
 | t::u::ts=>t.den C×ay C (u::ts)
def ay.cons {C:Nat→Type} {t:Ty} : {ts:List Ty} →t.den C→ay C ts→ay C (t::ts)
 | [],x,_=>x
 | _::_,x,r=>(x,r)
def ay.head {C:Nat→Type} {t:Ty} : {ts:List Ty} →ay C (t::ts)→t.den C
 | [],x=>x
 | _::_,x=>x.1
def ay.tail {C:Nat→Type} {t:Ty} : {ts:List Ty} →ay C (t::ts)→ay C ts
 | [],_=>()
 | _::_,x=>x.2
structure bg where
 C:Nat→Type
 F:Nat→List Ty
 ex:(t:Nat)→C t→ay C (F t)
 im:(t:Nat)→ay C (F t)→C t
 fe:Nat→Nat→Option (Nat×Ty)
 z:(t:Nat)→C t
 ty:Nat→Option Ty
 pt:Nat→Bool
 ar:Nat→Option (Nat×Ty)
 eq:Nat→Bool
 ru:Nat→Bool
 gl:List ((Nat×Nat)×(Value→Prop))
 gb:List (Nat×(Obj→Prop))
 bt:Option (Nat×Nat)
 sp:Nat→Bool
inductive CK where
 | data (t:Ty)
 | bk (e:Ty)      -- a slice whose room behind its end is its holder's alone
 | aS (e:Ty)      -- a slice whose array is its holder's alone
 deriving DecidableEq,Inhabited
inductive K where
 | val (c:CK)
 | obj (cs:List CK)
 | opt (cs:List CK)
 | nil
 | ro (t:Ty)
 | fn (a r:List Ty)
 | cF (cs:List CK)  -- a slice whose array is cells of its holder's own
 | err                 -- an error: is it nil?
 | bh                 -- a builder of a text
 | bZ (t:Ty) (cs:List CK)  -- an object whose first cell points to an object of its own
 deriving DecidableEq,Inhabited
def CK.den (C:Nat→Type):CK→Type
 | .data t=>t.den C
 | .bk e=>List (e.den C)
 | .aS e=>List (e.den C)
def bH (C:Nat→Type):List CK→Type
 | []=>Unit
 | [t]=>t.den C
 | t::u::ts=>t.den C×bH C (u::ts)
def K.den (C:Nat→Type):K→Type
 | .val c=>c.den C
 | .obj cs=>bH C cs
 | .opt cs=>Option (bH C cs)
 | .nil=>Unit
 | .ro t=>t.den C
 | .fn a r=>ay C a→Option (ay C r)
 | .cF cs=>bH C cs
 | .err=>Bool
 | .bh=>List UInt8
 | .bZ t cs=>t.den C×bH C cs
def Ks (C:Nat→Type):List K→Type
 | []=>Unit
 | [t]=>t.den C
 | t::u::ts=>t.den C×Ks C (u::ts)
def bH.cons {C:Nat→Type} {t:CK} : {ts:List CK} →t.den C→bH C ts→bH C (t::ts)
 | [],x,_=>x
 | _::_,x,r=>(x,r)
def bH.head {C:Nat→Type} {t:CK} : {ts:List CK} →bH C (t::ts)→t.den C
 | [],x=>x
 | _::_,x=>x.1
def bH.tail {C:Nat→Type} {t:CK} : {ts:List CK} →bH C (t::ts)→bH C ts
 | [],_=>()
 | _::_,x=>x.2
def Ks.cons {C:Nat→Type} {t:K} : {ts:List K} →t.den C→Ks C ts→Ks C (t::ts)
 | [],x,_=>x
 | _::_,x,r=>(x,r)
def Ks.head {C:Nat→Type} {t:K} : {ts:List K} →Ks C (t::ts)→t.den C
 | [],x=>x
 | _::_,x=>x.1
def Ks.tail {C:Nat→Type} {t:K} : {ts:List K} →Ks C (t::ts)→Ks C ts
 | [],_=>()
 | _::_,x=>x.2
inductive V (C:Nat→Type) where
 | undef
 | skip
 | d (t:Ty) (x:t.den C)
 | pr (p:Prop) (i:Decidable p)
 | bk (b:Nat) (e:Ty) (l:List (e.den C))
 | aS (b:Nat)
 | pre (b:Nat) (n:Int)
 | win (b:Nat) (i n:Int)
 | ptr (b off:Nat)
 | cF (b n:Nat)
 | split (b c:Nat)
 | mS (c:Nat)
 | err (b:Bool)
 | fK (b:Nat) (i:Int) (off:Nat)
 | dL (t:Ty) (x:t.den C)
 | nil
 | cO
 | fv (a r:List Ty) (g:ay C a→Option (ay C r))
 | fX (f:Nat) (caps:List (V C))
 | agg (t:Nat) (vs:List (V C))
 | jq (vs:List (V C))
inductive dZ (C:Nat→Type) where
 | cells (vs:List (V C))
 | bU (vs:List (V C))
 | arr (e:Ty) (l:List (e.den C))
 | bM (e:Ty) (l:List (e.den C))
 | tail
 | dead
 | bh (j:Nat)           -- a builder; its bytes are in 'j'
 | buf (l:List UInt8)    -- a builder's bytes
structure Env (C:Nat→Type) where
 tm:Nat→V C
 bx:Nat→Option (dZ C)
 df:Bool   -- has the function's deferred call been laid down?
def aC {α:Type} (f:Nat→α) (k:Nat) (v:α):Nat→α:=fun i=>cond (Nat.beq i k) v (f i)
abbrev aR (C:Nat→Type):=List (Nat×dZ C)
abbrev Bx (C:Nat→Type):=Nat→Option (dZ C)
def aD {C:Nat→Type} (bx:Bx C):aR C→Bx C
 | []=>bx
 | u::us=>aD (aC bx u.1 (some u.2)) us
def xd {C:Nat→Type} (tm:Nat→V C) (dst:Option Nat) (v:V C):Nat→V C:=match dst with
 | some d=>aC tm d v
 | none=>tm
def Env.apply {C:Nat→Type} (e:Env C) (dst:Option Nat) (v:V C) (us:aR C):Env C:=
 { tm:=xd e.tm dst v,bx:=aD e.bx us,df:=e.df }
structure Gd where
 p:Prop
 i:Decidable p
def gd (p:Prop) [i:Decidable p]:Gd:=⟨p,i⟩
inductive Tr (X:Type):Type 1 where
 | fail
 | ret (x:X)
 | ite (p:Prop) (i:Decidable p) (a b:Tr X)
 | bind (α:Type) (m:Option α) (k:α→Tr X)
 | opt (α:Type) (m:Option α) (n:Tr X) (s:α→Tr X)
def Tr.run {X:Type} {R:Type} :Tr X→(X→Option R)→Option R
 | .fail,_=>none
 | .ret x,k=>k x
 | .ite _ i a b,k=> @_root_.ite _ _ i (a.run k) (b.run k)
 | .bind _ m f,k=>m.bind fun x=>(f x).run k
 | .opt _ m n s,k=>match m with
  | none=>n.run k
  | some x=>(s x).run k
def Tr.gd {X:Type} :List Gd→Tr X→Tr X
 | [],r=>r
 | g::gs,r=> .ite g.p g.i (Tr.gd gs r) .fail
section
variable (S:bg)
def eV (t u:Ty) (x:t.den S.C):Option (u.den S.C):=if h:t=u then some (h▸x) else none
def Ty.zero:(t:Ty)→t.den S.C
 | .int _=>(0:Int)
 | .bool=>false
 | .str=>([]:List UInt8)
 | .sl _=> []
 | .st u=>S.z u
 | .pt=>()
def Ty.sz:Ty→Nat
 | .st u=>(S.F u).length
 | _=>1
def dn (bx:Bx S.C) (t:Ty) (v:V S.C):Option (t.den S.C):=
 match v with
 | .d u x=>eV S u t x
 | .pr p i=>eV S .bool t (@decide p i)
 | .bk _ e l=>eV S (.sl e) t l
 | .cO=>match t with
  | .sl _=>some []
  | _=>none
 | .aS b=>match bx b with
  | some (.arr e l) | some (.bM e l)=>eV S (.sl e) t l
  | _=>none
 | _=>none
def sE:(ts:List Ty)→ay S.C ts→List (V S.C)
 | [],_=> []
 | t::ts,x=> .d t (ay.head x)::sE ts (ay.tail x)
def jT:(t:Ty)→t.den S.C→List (V S.C)
 | .st u,x=>sE S (S.F u) (S.ex u x)
 | t,x=> [.d t x]
def iQ (bx:Bx S.C):(ts:List Ty)→List (V S.C)→Option (ay S.C ts)
 | [],_=>some ()
 | t::ts,v::vs=>(dn S bx t v).bind fun x=>(iQ bx ts vs).bind fun y=>some (ay.cons x y)
 | _::_,[]=>none
def jd (bx:Bx S.C) (t:Ty) (vs:List (V S.C)):Option (t.den S.C):=
 match t with
 | .st u=>(iQ S bx (S.F u) vs).bind fun x=>some (S.im u x)
 | t=>match vs with
  | v::_=>dn S bx t v
  | []=>none
def zeroCell:Ty→V S.C
 | .sl _=> .cO
 | .pt=> .nil
 | t=> .d t (Ty.zero S t)
def zeroCells:Ty→List (V S.C)
 | .st u=>(S.F u).map (zeroCell S)
 | t=> [zeroCell S t]
end
end Go.Sy
namespace Go.Sy
section
variable (S:bg)
def outs:List K→List K
 | []=> []
 | .obj cs::r=> .obj cs::outs r
 | .bh::r=> .bh::outs r
 | .bZ t cs::r=> .bZ t cs::outs r
 | _::r=>outs r
structure Entry where
 f:Nat
 ps:List K
 rs:List K
 sp:Ks S.C ps→Option (Ks S.C (rs++outs ps))
structure iy where
 f:Nat
 a:List Ty
 c:List Ty
 r:List Ty
 sp:ay S.C a→ay S.C c→Option (ay S.C r)
structure iA where
 es:List (Entry S)
 fs:List (iy S)
 nl:Bool
 vw:Bool
 dc:Option (Nat×List Operand)   -- the call that it defers
 de:List (Entry S)                -- callees that may be deferred
def Bf:Ty→Bool
 | .sl _=>false
 | .st u=>(S.F u).all fun | .sl _=>false | .st _=>false | _=>true
 | _=>true
def tC:CK→Bool
 | .data t=>Bf S t
 | .bk _=>false
 | .aS e=>Bf S e
def vv:K→Bool
 | .val c=>tC S c
 | .obj cs | .opt cs=>cs.all (tC S)
 | .nil | .err | .bh=>true
 | .ro _ | .fn _ _ | .bZ _ _=>false
 | .cF cs=>cs.all (tC S)
def datum (bx:Bx S.C) (t:Ty) (v:V S.C):Option (t.den S.C):=
 match v with
 | .agg u vs=>match t with
  | .st w=>if u=w then jd S bx (.st w) vs else none
  | _=>none
 | v=>match t with
  | .st w=>match v with
   | .d u x=>eV S u (.st w) x
   | _=>none
  | t=>dn S bx t v
def cY (bx:Bx S.C):V S.C→aR S.C
 | .aS b=>match bx b with
  | some (.arr e l)=> [(b, .bM e l)]
  | _=> []
 | _=> []
def dH (bx:Bx S.C) (v:V S.C):aR S.C:=
 match v with
 | .agg _ vs=>vs.flatMap (cY S bx)
 | v=>cY S bx v
def cellsOf (v:V S.C):List (V S.C):=
 match v with
 | .d t x=>jT S t x
 | .agg _ vs=>vs
 | v=> [v]
def aG:V S.C→List Nat
 | .bk b _ _ | .aS b | .ptr b _ | .fK b _ _ | .pre b _ | .win b _ _ | .cF b _ | .mS b=> [b]
 | .split b c=> [b,c]
 | _=> []
def aI:V S.C→List Nat
 | .agg _ vs | .fX _ vs | .jq vs=>vs.flatMap (aG S)
 | v=>aG S v
def cw (id:Nat):(c:CK)→c.den S.C→List (V S.C)×aR S.C×Nat
 | .data t,x=>(jT S t x,[],id)
 | .bk e,x=>([.bk id e x],[(id, .tail)],id+1)
 | .aS e,x=>([.aS id],[(id, .arr e x)],id+1)
def bB (id:Nat):(cs:List CK)→bH S.C cs→List (V S.C)×aR S.C×Nat
 | [],_=>([],[],id)
 | c::cs,x=>
  let a:=cw S id c (bH.head x)
  let b:=bB a.2.2 cs (bH.tail x)
  (a.1++b.1,a.2.1++b.2.1,b.2.2)
def CK.sz:CK→Nat
 | .data t=>Ty.sz S t
 | _=>1
def CK.cz:List CK→Nat
 | []=>0
 | c::cs=>CK.sz S c+CK.cz cs
def MA (id:Nat):(k:K)→k.den S.C→(V S.C×aR S.C×Nat→Tr (V S.C×aR S.C))→Tr (V S.C×aR S.C)
 | .val (.data t),x,κ=>κ (.d t x,[],id)
 | .val (.bk e),x,κ=>κ (.bk id e x,[(id, .tail)],id+1)
 | .val (.aS e),x,κ=>κ (.aS id,[(id, .arr e x)],id+1)
 | .obj cs,x,κ=>let a:=bB S (id+1) cs x; κ (.ptr id 0,(id, .cells a.1)::a.2.1,a.2.2)
 | .opt cs,x,κ=> .opt _ x (κ (.nil,[],id)) fun y=>let a:=bB S (id+1) cs y; κ (.ptr id 0,(id, .cells a.1)::a.2.1,a.2.2)
 | .fn a r,g,κ=>κ (.fv a r g,[],id)
 | .ro t,x,κ=>κ (.dL t x,[],id)
 | .nil,_,κ=>κ (.nil,[],id)
 | .err,x,κ=>κ (.err x,[],id)
 | .bh,x,κ=>κ (.ptr id 0,[(id, .bh (id+1)),(id+1, .buf x)],id+2)
 | .cF cs,x,κ=>let a:=bB S (id+1) cs x; κ (.cF id (CK.cz S cs),(id, .cells a.1)::a.2.1,a.2.2)
 | .bZ _ _,_,_=> .fail
def ez (bx:Bx S.C) (c:CK) (vs:List (V S.C)):Option (c.den S.C×aR S.C):=
 match c with
 | .data t=>(jd S bx t vs).bind fun x=>some (x,(vs.take (Ty.sz S t)).flatMap (cY S bx))
 | .bk e=>match vs with
  | .bk b e' l::_=>match bx b with
   | some .tail=>(eV S (.sl e') (.sl e) l).bind fun x=>some (x,[(b, .dead)])
   | _=>none
  | .cO::_=>some ([],[])
  | _=>none
 | .aS e=>match vs with
  | .aS b::_=>match bx b with
   | some (.arr e' l)=>(eV S (.sl e') (.sl e) l).bind fun x=>some (x,[(b, .dead)])
   | _=>none
  | .pre b n::_=>match bx b with
   | some (.arr e' l)=>(eV S (.sl e') (.sl e) (List.take n.toNat l)).bind fun x=>some (x,[(b, .dead)])
   | _=>none
  | .cO::_=>some ([],[])
  | _=>none
def dY (bx:Bx S.C):(cs:List CK)→List (V S.C)→Option (bH S.C cs×aR S.C)
 | [],_=>some ((),[])
 | c::cs,vs=>(ez S bx c vs).bind fun a=>
  (dY (aD bx a.2) cs (vs.drop (CK.sz S c))).bind fun b=>some (bH.cons a.1 b.1,a.2++b.2)
def MG:V S.C→Bool
 | .aS _=>false
 | _=>true
def nK (bx:Bx S.C) (t:Ty) (v:V S.C):Option (t.den S.C):=match v with
 | .ptr b 0=>match bx b with
  | some (.bU ws)=>cond (ws.all (MG S)) (jd S bx t ws) none
  | _=>none
 | .dL u x=>eV S u t x
 | _=>none
def caps (bx:Bx S.C):(ts:List Ty)→List (V S.C)→Option (ay S.C ts)
 | [],[]=>some ()
 | t::ts,v::vs=>(nK S bx t v).bind fun x=>(caps bx ts vs).bind fun r=>some (ay.cons x r)
 | _,_=>none
def tD (fs:List (iy S)) (bx:Bx S.C) (a r:List Ty):V S.C→Option (ay S.C a→Option (ay S.C r))
 | .fv a' r' g=>if h:a'=a then if h':r'=r then some (h'▸h▸g) else none else none
 | .fX f vs=>fs.findSome? fun e=>
  if e.f=f then (if h:e.a=a then if h':e.r=r then (caps S bx e.c vs).bind fun y=>some (h'▸h▸fun x=>e.sp x y) else none else none) else none
 | _=>none
def gY (bx:Bx S.C) (cs:List CK) (b:Nat):Option (bH S.C cs×aR S.C):=match bx b with
 | some (.cells vs)=>cond (Nat.beq vs.length (CK.cz S cs)) ((dY S (aC bx b (some .dead)) cs (vs.drop 0)).bind fun a=>some (a.1,(b, .dead)::a.2)) none
 | _=>none
def cq (fs:List (iy S)) (bx:Bx S.C) (k:K) (v:V S.C):Option (k.den S.C×aR S.C):=
 match k with
 | .val (.data t)=>(datum S bx t v).bind fun x=>some (x,dH S bx v)
 | .val (.bk e)=>ez S bx (.bk e) [v]
 | .val (.aS e)=>ez S bx (.aS e) [v]
 | .obj cs=>match v with
  | .ptr b off=>match bx b with
   | some (.cells vs)=>cond (Nat.beq off 0&&Nat.beq vs.length (CK.cz S cs)) ((dY S (aC bx b (some .dead)) cs (vs.drop off)).bind fun a=>some (a.1,(b, .dead)::a.2)) none
   | _=>none
  | _=>none
 | .nil=>match v with
  | .nil=>some ((),[])
  | _=>none
 | .ro t=>(nK S bx t v).bind fun x=>some (x,[])
 | .fn a r=>(tD S fs bx a r v).bind fun g=>some (g,[])
 | .opt cs=>match v with
  | .nil=>some (none,[])
  | .ptr b off=>match bx b with
   | some (.cells vs)=>cond (Nat.beq off 0&&Nat.beq vs.length (CK.cz S cs)) ((dY S (aC bx b (some .dead)) cs (vs.drop off)).bind fun a=>some (some a.1,(b, .dead)::a.2)) none
   | _=>none
  | _=>none
 | .err=>match v with
  | .err b=>some (b,[])
  | _=>none
 | .bh=>match v with
  | .ptr b off=>match bx b with
   | some (.bh j)=>match bx j with
    | some (.buf l)=>cond (Nat.beq off 0) (some (l,[(b, .dead),(j, .dead)])) none
    | _=>none
   | _=>none
  | _=>none
 | .cF cs=>match v with
  | .cF b n=>match bx b with
   | some (.cells vs)=>cond (Nat.beq n vs.length&&Nat.beq vs.length (CK.cz S cs)) ((dY S (aC bx b (some .dead)) cs (vs.drop 0)).bind fun a=>some (a.1,(b, .dead)::a.2)) none
   | _=>none
  | _=>none
 | .bZ t cs=>match v with
  | .split b c=>(gY S bx [.data t] c).bind fun x=>(gY S (aD bx x.2) cs b).bind fun y=>some ((x.1,y.1),x.2++y.2)
  | _=>none
def eC (fs:List (iy S)) (bx:Bx S.C):(ks:List K)→List (V S.C)→Option (Ks S.C ks×aR S.C)
 | [],[]=>some ((),[])
 | k::ks,v::vs=>(cq S fs bx k v).bind fun a=>(eC fs (aD bx a.2) ks vs).bind fun b=>some (Ks.cons a.1 b.1,a.2++b.2)
 | _,_=>none
def setCells (vs:List (V S.C)) (off:Nat) (ws:List (V S.C)):List (V S.C):=vs.take off++ws++vs.drop (off+ws.length)
def fO (id:Nat):(ks:List K)→List (V S.C)→Ks S.C (outs ks)→aR S.C
 | [],_,_=> []
 | .obj cs::ks,v::vs,x=>match v with
  | .ptr b _=>
   let a:=bB S id cs (Ks.head (t:= .obj cs) x)
   (b, .cells a.1)::a.2.1++fO a.2.2 ks vs (Ks.tail (t:= .obj cs) x)
  | _=> []
 | .bh::ks,v::vs,x=>match v with
  | .ptr b _=>(b, .bh id)::(id, .buf (Ks.head (t:= .bh) x))::fO (id+1) ks vs (Ks.tail (t:= .bh) x)
  | _=> []
 | .bZ t cs::ks,v::vs,x=>match v with
  | .split b c=>
   let y:=Ks.head (t:= .bZ t cs) x
   let a0:=bB S id [.data t] y.1
   let a:=bB S id cs y.2
   (c, .cells a0.1)::(b, .cells a.1)::a.2.1++fO a.2.2 ks vs (Ks.tail (t:= .bZ t cs) x)
  | _=> []
 | .val _::ks,_::vs,x=>fO id ks vs x
 | .opt _::ks,_::vs,x=>fO id ks vs x
 | .nil::ks,_::vs,x=>fO id ks vs x
 | .ro _::ks,_::vs,x=>fO id ks vs x
 | .fn _ _::ks,_::vs,x=>fO id ks vs x
 | .cF _::ks,_::vs,x=>fO id ks vs x
 | .err::ks,_::vs,x=>fO id ks vs x
 | _::_,[],_=> []
def dN:List K→List (V S.C)→List Nat
 | .obj _::ks, .ptr b _::vs=>b::dN ks vs
 | .bh::ks, .ptr b _::vs=>b::dN ks vs
 | .bZ _ _::ks, .split b c::vs=>c::b::dN ks vs
 | _::ks,_::vs=>dN ks vs
 | _,_=> []
def ku (fZ:Bool) (us:aR S.C):aR S.C:=cond fZ us (us.filter fun u=>match u.2 with
 | .bM _ _=>false
 | _=>true)
end
end Go.Sy
namespace Go.Sy
section
variable (S:bg)
variable (T:iA S)
abbrev Rt:=Tr (V S.C×aR S.C)
def aL (v:V S.C) (us:aR S.C):Rt S:= .ret (v,us)
def l6 (t:Nat):Option Nat:=match S.ar t with
 | some _=>none
 | none=>match S.ty t with
  | some (.st u)=>some u
  | _=>none
def qJ (t:Nat):Option (Nat×Ty×Nat):=match S.ar t with
 | some (n,e)=>match e,S.ty t with
  | .st _,_=>none
  | e,some (.st u)=>some (n,e,u)
  | _,_=>none
 | none=>none
def AI (t:Nat):Option (Nat×Nat×Nat):=match S.ar t with
 | some (n,e)=>match e,S.ty t with
  | .st w,some (.st u)=>some (n,w,u)
  | _,_=>none
 | none=>none
def fB (t:Nat):Option Ty:=match S.ty t with
 | some (.sl e)=>some e
 | _=>none
def arith (op:BinOp) (k:IntKind) (x y:Int):Option (List Gd×V S.C):=
 match op with
 | .add=>some ([], .d (.int k) (k.wrap (x+y)))
 | .sub=>some ([], .d (.int k) (k.wrap (x - y)))
 | .mul=>some ([], .d (.int k) (k.wrap (x*y)))
 | .quo=>some ([gd (¬ y=0)], .d (.int k) (k.wrap (x.tdiv y)))
 | .rem=>some ([gd (¬ y=0)], .d (.int k) (x.tmod y))
 | .and=>some ([], .d (.int k) (k.wrap ((BitVec.ofInt k.bits x &&& BitVec.ofInt k.bits y).toNat:Nat)))
 | .shl=>some ([gd (0≤y)], .d (.int k) (k.wrap (x*2 ^ (min y.toNat k.bits))))
 | .shr=>some ([gd (0≤y)], .d (.int k) (x.fdiv (2 ^ (min y.toNat k.bits))))
 | .eql=>some ([], .pr (x=y) inferInstance)
 | .neq=>some ([], .pr (x≠y) inferInstance)
 | .lss=>some ([], .pr (x<y) inferInstance)
 | .leq=>some ([], .pr (x≤y) inferInstance)
 | .gtr=>some ([], .pr (y<x) inferInstance)
 | .geq=>some ([], .pr (y≤x) inferInstance)
 | _=>none
def Ig (op:BinOp) (x y:List UInt8):Option (List Gd×V S.C):=
 match op with
 | .add=>some ([gd (x.length+y.length≤9223372036854775807)], .d .str (x++y))
 | .eql=>some ([], .pr (x=y) inferInstance)
 | .neq=>some ([], .pr (x≠y) inferInstance)
 | _=>none
def V.int? {D:Nat→Type} :V D→Option (IntKind×Int)
 | .d (.int k) n=>some (k,n)
 | _=>none
def V.sD {D:Nat→Type} :V D→Option (List UInt8)
 | .d .str s=>some s
 | _=>none
def V.bool? {D:Nat→Type} :V D→Option Bool
 | .d .bool b=>some b
 | .pr p i=>some (@decide p i)
 | _=>none
def L6:BinOp→Bool
 | .shl | .shr=>true
 | _=>false
def AL (op:BinOp) (t:Nat) (x y:V S.C):Option (List Gd×V S.C):=
 match x.int?,y.int? with
 | some (k,a),some (k',b)=>if L6 op=true∨k=k' then arith S op k a b else none
 | _,_=>match x.sD,y.sD with
  | some a,some b=>Ig S op a b
  | _,_=>match x.bool?,y.bool? with
   | some a,some b=>cond (match S.ty t with | some .bool=>true | _=>false) (match op with
    | .eql=>some ([], .pr (a=b) inferInstance)
    | .neq=>some ([], .pr (a≠b) inferInstance)
    | _=>none) none
   | _,_=>cond (S.pt t) (match x,y with
    | .nil, .nil=>match op with
     | .eql=>some ([], .d .bool true)
     | .neq=>some ([], .d .bool false)
     | _=>none
    | .ptr _ _, .nil=>match op with
     | .eql=>some ([], .d .bool false)
     | .neq=>some ([], .d .bool true)
     | _=>none
    | _,_=>none) none
def vp:(t:Ty)→t.den S.C→t.den S.C→Prop
 | .int _,x,y=> @Eq Int x y
 | .bool,x,y=> @Eq Bool x y
 | .str,x,y=> @Eq (List UInt8) x y
 | _,_,_=>False
def Km:(t:Ty)→(x y:t.den S.C)→Decidable (vp S t x y)
 | .int _,x,y=>(inferInstance:DecidableEq Int) x y
 | .bool,x,y=>(inferInstance:DecidableEq Bool) x y
 | .str,x,y=>(inferInstance:DecidableEq (List UInt8)) x y
 | .st _,_,_=>instDecidableFalse
 | .sl _,_,_=>instDecidableFalse
 | .pt,_,_=>instDecidableFalse
def jS:(ts:List Ty)→ay S.C ts→ay S.C ts→Prop
 | [],_,_=>True
 | [t],x,y=>vp S t x y
 | t::u::ts,x,y=>vp S t x.1 y.1∧jS (u::ts) x.2 y.2
def yp:(ts:List Ty)→(x y:ay S.C ts)→Decidable (jS S ts x y)
 | [],_,_=>instDecidableTrue
 | [t],x,y=>Km S t x y
 | t::u::ts,x,y=> @instDecidableAnd _ _ (Km S t x.1 y.1) (yp (u::ts) x.2 y.2)
def structEq (op:BinOp) (t:Nat) (x y:V S.C):Rt S:=
 match S.ty t with
 | some (.st u)=>match datum S (fun _=>none) (.st u) x,datum S (fun _=>none) (.st u) y with
  | some a,some b=>match op with
   | .eql=>aL S (.pr (jS S (S.F u) (S.ex u a) (S.ex u b)) (yp S (S.F u) (S.ex u a) (S.ex u b))) []
   | .neq=>aL S (.pr (¬ jS S (S.F u) (S.ex u a) (S.ex u b)) (@instDecidableNot _ (yp S (S.F u) (S.ex u a) (S.ex u b)))) []
   | _=> .fail
  | _,_=> .fail
 | _=> .fail
def JU:Value→Option (V S.C)
 | .int k n=>some (.d (.int k) n)
 | .bool b=>some (.d .bool b)
 | .string s=>some (.d .str s.data.toList)
 | .pointer none=>some .nil
 | .slice none 0 0=>some .cO
 | _=>none
def aX (tm:Nat→V S.C):Operand→Option (V S.C)
 | .tmp t=>some (tm t)
 | .const v=>JU S v
 | .func f=>some (.fX f [])
 | .global _=>none
def jX (tm:Nat→V S.C):Option Operand→Option (Option (V S.C))
 | none=>some none
 | some x=>(aX S tm x).bind fun v=>some (some v)
def bS:V S.C→Bool
 | .d (.st _) _=>false
 | .d _ _ | .pr _ _ | .bk _ _ _ | .aS _ | .ptr _ _ | .fK _ _ _ | .dL _ _ | .nil | .cO | .fv _ _ _=>true
 | _=>false
def fits (vs:List (V S.C)) (n:Nat):Bool:=Nat.beq vs.length n&&vs.all (bS S)
def yz (u:Nat) (vs:List (V S.C)):List (Nat×V S.C)→Option (List (V S.C))
 | []=>some vs
 | (i,v)::r=>match S.fe u i with
  | some (o,t)=>cond (fits S (cellsOf S v) (Ty.sz S t)&&Nat.ble (o+Ty.sz S t) vs.length) (yz u (setCells S vs o (cellsOf S v)) r) none
  | none=>none
def nT (bx:Bx S.C) (e:Ty) (l:List (e.den S.C)):List (Nat×V S.C)→Option (List (e.den S.C)×aR S.C)
 | []=>some (l,[])
 | (i,v)::r=>cond (Nat.blt i (List.length l)) ((datum S bx e v).bind fun x=>(nT bx e (l.set i x) r).bind fun b=>some (b.1,dH S bx v++b.2)) none
def iD (e:Ty) (l:List (e.den S.C)) (i:Int):e.den S.C:=l.getD i.toNat (Ty.zero S e)
def partOf (e:Ty) (x:e.den S.C) (off:Nat) (t:Ty):Option (t.den S.C):=jd S (fun _=>none) t ((jT S e x).drop off)
def limit:Nat:=140737488355328
def Gs (t:Ty) (bx:Bx S.C):V S.C→Rt S
 | .ptr b off=>match bx b with
  | some (.cells vs) | some (.bU vs)=>match t with
   | .st u=>cond (Nat.ble (off+(S.F u).length) vs.length) (aL S (.agg u ((vs.drop off).take (S.F u).length)) []) .fail
   | _=>match vs[off]? with
    | some v=>aL S v []
    | none=> .fail
  | _=> .fail
 | .dL u x=>match eV S u t x with
  | some y=>aL S (.d t y) []
  | none=> .fail
 | .mS c=>match t with
  | .pt=>aL S (.ptr c 0) []
  | _=> .fail
 | .fK b i off=>match bx b with
  | some (.arr e l) | some (.bM e l)=>match partOf S e (iD S e l i) off t with
   | some y=>aL S (.d t y) []
   | none=> .fail
  | _=> .fail
 | _=> .fail
def Ae (t:Ty) (bx:Bx S.C) (v:V S.C):V S.C→Rt S
 | .ptr b off=>match bx b with
  | some (.cells vs)=>cond (fits S (cellsOf S v) (Ty.sz S t)&&Nat.ble (off+Ty.sz S t) vs.length) (aL S .skip [(b, .cells (setCells S vs off (cellsOf S v)))]) .fail
  | _=> .fail
 | .fK b i off=>match bx b with
  | some (.arr e l)=>match datum S bx t v with
   | some y=>cond (Nat.ble (off+Ty.sz S t) (Ty.sz S e)&&(dH S bx v).all fun u=> !Nat.beq u.1 b) (match jd S (fun _=>none) e (setCells S (jT S e (iD S e l i)) off (jT S t y)) with
    | some e'=>aL S .skip (dH S bx v++ [(b, .arr e (l.set i.toNat e'))])
    | none=> .fail) .fail
   | none=> .fail
  | _=> .fail
 | _=> .fail
def Ie (u:Nat) (bx:Bx S.C) (v:V S.C):V S.C→Rt S
 | .ptr b off=>match bx b with
  | some (.cells vs)=>cond (fits S (cellsOf S v) (Ty.sz S (.st u))&&Nat.ble (off+Ty.sz S (.st u)) vs.length) (aL S .skip [(b, .bU (setCells S vs off (cellsOf S v)))]) .fail
  | _=> .fail
 | _=> .fail
def E6 (t f:Nat):V S.C→Rt S
 | .ptr b off=>match l6 S t with
  | some u=>match S.fe u f with
   | some (o,_)=>aL S (.ptr b (off+o)) []
   | none=> .fail
  | _=> .fail
 | .dL (.st u) x=>match l6 S t with
  | some u'=>cond (Nat.beq u u') (match S.fe u f with
   | some (o,w)=>match partOf S (.st u) x o w with
    | some y=>aL S (.dL w y) []
    | none=> .fail
   | none=> .fail) .fail
  | _=> .fail
 | .fK b i off=>match l6 S t with
  | some u=>match S.fe u f with
   | some (o,_)=>aL S (.fK b i (off+o)) []
   | none=> .fail
  | _=> .fail
 | .split b c=>match l6 S t with
  | some u=>match S.fe u f with
   | some (o,_)=>match o with
    | 0=>aL S (.mS c) []
    | o+1=>aL S (.ptr b o) []
   | none=> .fail
  | _=> .fail
 | _=> .fail
def eH (i:Int) (n:Nat):List Gd:= [gd (0≤i),gd (i<(n:Int))]
def pL (v:V S.C):Option Int:=v.int?.map (·.2)
def GP (b:Nat) (i:Int) (j:Nat):Nat→Rt S
 | 0=> .fail
 | n+1=> .ite (i=(j:Int)) (Int.instDecidableEq i (j:Int)) (aL S (.ptr b j) []) (GP b i (j+1) n)
def Ga (e0:Ty) (bx:Bx S.C) (i:Int):V S.C→Rt S
 | .d (.sl e) l=>if e=e0 then .gd (eH i l.length) (aL S (.dL e (iD S e l i)) []) else .fail
 | .bk _ e l=>if e=e0 then .gd (eH i l.length) (aL S (.dL e (iD S e l i)) []) else .fail
 | .aS b=>match bx b with
  | some (.arr e l) | some (.bM e l)=>if e=e0 then .gd (eH i l.length) (aL S (.fK b i 0) []) else .fail
  | _=> .fail
 | .cF b n=>match e0 with
  | .sl _=> .gd (eH i n) (GP S b i 0 n)
  | _=> .fail
 | _=> .fail
def rowOf (e:Ty):List (V S.C)→Option (List (e.den S.C))
 | []=>some []
 | v::vs=>(dn S (fun _=>none) e v).bind fun x=>(rowOf e vs).bind fun r=>some (x::r)
def D6 (n:Nat) (e:Ty) (u:Nat) (bx:Bx S.C) (j:Int):V S.C→Rt S
 | .ptr b off=>match bx b with
  | some (.cells vs) | some (.bU vs)=>match rowOf S e ((vs.drop off).take n) with
   | some l=> .gd (eH j l.length) (aL S (.dL e (iD S e l j)) [(b, .bU vs)])
   | none=> .fail
  | _=> .fail
 | .dL t x=>match eV S t (.st u) x with
  | some y=>match rowOf S e ((jT S (.st u) y).take n) with
   | some l=> .gd (eH j l.length) (aL S (.dL e (iD S e l j)) [])
   | none=> .fail
  | none=> .fail
 | _=> .fail
def xS (u:Nat):V S.C→Option (List (V S.C))
 | .agg u' vs=>cond (Nat.beq u u') (some vs) none
 | .d t x=>(eV S t (.st u) x).bind fun y=>some (jT S (.st u) y)
 | _=>none
def D7 (n:Nat) (e:Ty) (u:Nat) (j:Int) (v:V S.C):Rt S:=
 match xS S u v with
 | some vs=>match rowOf S e (vs.take n) with
  | some l=> .gd (eH j l.length) (aL S (.d e (iD S e l j)) [])
  | none=> .fail
 | none=> .fail
def AH (w k:Nat) (j:Int) (vs:List (V S.C)):(i m:Nat)→Rt S
 | _,0=> .fail
 | i,m+1=> .ite (j=(i:Int)) inferInstance (aL S (.agg w ((vs.drop (i*k)).take k)) []) (AH w k j vs (i+1) m)
def bounds (n:Nat) (lo hi:Option (V S.C)):Option (List Gd×Int×Int):=
 match lo,hi with
 | none,none=>some ([],0,n)
 | some a,none=>(pL S a).bind fun l=>some ([gd (0≤l),gd (l≤(n:Int))],l,n)
 | none,some b=>(pL S b).bind fun h=>some ([gd (0≤h),gd (h≤(n:Int))],0,h)
 | some a,some b=>(pL S a).bind fun l=>(pL S b).bind fun h=>some ([gd (0≤h),gd (h≤(n:Int)),gd (0≤l),gd (l≤h)],l,h)
def cut {α:Type} (l:List α) (a b:Int):List α:=(l.take b.toNat).drop a.toNat
def cutFrom {α:Type} (l:List α) (a:Int):List α:=l.drop a.toNat
def kj {α:Type} (l:List α) (a b:Int) (hi:Option (V S.C)):List α:=match hi with
 | none=>cutFrom l a
 | some _=>cut l a b
def qx (k:Nat) (a b:Int):Option (V S.C)→V S.C
 | none=> .pre k b
 | some _=> .win k a (b - a)
def n5 {α:Type} (l:List α) (n i m:Int):List α:=l.take n.toNat++(l.drop i.toNat).take m.toNat++l.drop (n+m).toNat
def yg {α:Type} (z:α) (l:List α) (i m:Int):List α:=l.take i.toNat++List.replicate m.toNat z++l.drop (i+m).toNat
def H8 (vw:Bool) (T0:Ty) (bx:Bx S.C) (lo hi:Option (V S.C)):V S.C→Rt S
 | .d .str s=>if T0= .str then match bounds S (List.length s) lo hi with
  | some (gs,a,b)=> .gd gs (aL S (.d .str (kj S s a b hi)) [])
  | none=> .fail else .fail
 | .d (.sl e) s=>if T0= .sl e then match bounds S (List.length s) lo hi with
  | some (gs,a,b)=> .gd gs (aL S (.d (.sl e) (kj S s a b hi)) [])
  | none=> .fail else .fail
 | .bk k e s=>if T0= .sl e then match bounds S s.length lo hi with
  | some (gs,a,b)=> .gd gs (aL S (match hi with | none=> .bk k e (cutFrom s a) | some _=> .d (.sl e) (cut s a b)) [])
  | none=> .fail else .fail
 | .aS k=>match bx k with
  | some (.arr e s)=>if T0= .sl e then match bounds S s.length lo hi with
   | some (gs,a,b)=> .gd gs (cond vw (aL S (qx S k a b lo) []) (aL S (.d (.sl e) (kj S s a b hi)) [(k, .bM e s)]))
   | none=> .fail else .fail
  | some (.bM e s)=>if T0= .sl e then match bounds S s.length lo hi with
   | some (gs,a,b)=> .gd gs (aL S (.d (.sl e) (kj S s a b hi)) [])
   | none=> .fail else .fail
  | _=> .fail
 | .pre k n=>match bx k with
  | some (.arr e s)=>if T0= .sl e then match bounds S (match hi with | none=>n.toNat | some _=>s.length) lo hi with
   | some (gs,a,b)=> .gd gs (aL S (qx S k a b lo) [])
   | none=> .fail else .fail
  | _=> .fail
 | _=> .fail
def H7 (T0:Ty) (bx:Bx S.C) (lo hi mx:V S.C):V S.C→Rt S
 | .aS k=>match bx k with
  | some (.arr e s)=>if T0= .sl e then match pL S lo,pL S hi,pL S mx with
   | some a,some b,some c=> .gd [gd (0≤a),gd (a≤b),gd (b≤c),gd (c≤(s.length:Int))] (aL S .undef [])
   | _,_,_=> .fail else .fail
  | _=> .fail
 | _=> .fail
def Ev (e:Ty) (bx:Bx S.C):V S.C→Rt S
 | .win b i m=>match bx b with
  | some (.arr e' l)=>match eV S (.sl e') (.sl e) l with
   | some l=>aL S (.jq []) [(b, .arr e (yg (Ty.zero S e) l i m))]
   | none=> .fail
  | _=> .fail
 | _=> .fail
def u_ (B:Nat) (au:Nat) (e:Ty) (bx:Bx S.C) (x:V S.C):V S.C→Rt S
 | .bk b e' l=>match bx b with
  | some .tail=>match eV S (.sl e') (.sl e) l with
   | some l=>match datum S bx (.sl e) x with
    | some y=> .gd [gd ((List.length l+List.length y)*au≤limit)] (aL S (.bk (B) e (List.append l y)) [(b, .dead),(B, .tail)])
    | none=> .fail
   | none=> .fail
  | _=> .fail
 | .aS b=>match bx b with
  | some (.arr e' l)=>match eV S (.sl e') (.sl e) l with
   | some l=>match datum S bx (.sl e) x with
    | some y=> .gd [gd ((List.length l+List.length y)*au≤limit)] (aL S (.aS (B)) [(b, .dead),(B, .arr e (List.append l y))])
    | none=> .fail
   | none=> .fail
  | _=> .fail
 | .pre b n=>match bx b,x with
  | some (.arr e' l), .win b' i m=>cond (Nat.beq b' b) (match eV S (.sl e') (.sl e) l with
   | some l=> .gd [gd (n≤i),gd (List.length l*au≤limit)] (aL S (.pre B (n+m)) [(b, .dead),(B, .arr e (n5 l n i m))])
   | none=> .fail) .fail
  | _,_=> .fail
 | .cO=>match datum S bx (.sl e) x with
  | some y=> .gd [gd (List.length y*au≤limit)] (aL S (.aS (B)) [(B, .arr e y)])
  | none=> .fail
 | _=> .fail
def Gm (T0:Ty) (bx:Bx S.C):V S.C→Rt S
 | .d .str s=>if T0= .str then aL S (.d (.int .i64) (List.length s:Int)) [] else .fail
 | .cO=>match T0 with
  | .sl _=>aL S (.d (.int .i64) (0:Int)) []
  | _=> .fail
 | .d (.sl e) l=>if T0= .sl e then aL S (.d (.int .i64) (List.length l:Int)) [] else .fail
 | .bk _ e l=>if T0= .sl e then aL S (.d (.int .i64) (l.length:Int)) [] else .fail
 | .aS b=>match bx b with
  | some (.arr e l) | some (.bM e l)=>if T0= .sl e then aL S (.d (.int .i64) (l.length:Int)) [] else .fail
  | _=> .fail
 | .pre b n=>match bx b with
  | some (.arr e _)=>if T0= .sl e then aL S (.d (.int .i64) n) [] else .fail
  | _=> .fail
 | _=> .fail
def BT (id:Nat):(rs:List K)→Ks S.C rs→(List (V S.C)×aR S.C×Nat→Rt S)→Rt S
 | [],_,κ=>κ ([],[],id)
 | k::rs,x,κ=>MA S id k (Ks.head x) fun (v,us,id')=>BT id' rs (Ks.tail x) fun (vs,us',VP)=>κ (v::vs,us++us',VP)
def sF:List (V S.C)→V S.C
 | [v]=>v
 | vs=> .jq vs
def kN:(rs os:List K)→Ks S.C (rs++os)→Ks S.C rs×Ks S.C os
 | [],_,x=>((),x)
 | _::rs,os,x=>let (a,b):=kN rs os (Ks.tail x); (Ks.cons (Ks.head x) a,b)
def oneMore (n:Nat):CK→Nat
 | .data _=>n
 | _=>n+1
def pK:K→Nat
 | .val (.data _) | .ro _ | .fn _ _ | .nil | .err=>0
 | .val _=>1
 | .obj cs | .opt cs | .cF cs=>1+cs.foldl oneMore 0
 | .bh=>2
 | .bZ _ cs=>2+cs.foldl oneMore 0
def jy:List K→Nat
 | []=>0
 | k::ks=>pK k+jy ks
def BK (e:Entry S):Bool:= !((e.rs++outs e.ps).all (vv S))
def qM (B:Nat) (bx:Bx S.C) (f:Nat) (args:List (V S.C)):Rt S:=
 match T.es.findSome? fun e=>if e.f=f then (eC S T.fs bx e.ps args).bind fun a=>some (⟨e,a⟩:(e:Entry S)×(Ks S.C e.ps×aR S.C)) else none with
 | some ⟨e,a⟩=>cond (Nat.ble (jy e.rs+jy (outs e.ps)) 16&&(dN S e.ps args).all fun b=> !(Nat.ble B b&&Nat.blt b (B+16))) (.bind _ (e.sp a.1) fun r=>
  let p:=kN S e.rs (outs e.ps) r
  BT S B e.rs p.1 fun q=>aL S (sF S q.1) (ku S (BK S e) a.2++(q.2.1++fO S q.2.2 e.ps args p.2))) .fail
 | none=> .fail
def uR:(ts:List Ty)→ay S.C ts→List (V S.C)
 | [],_=> []
 | t::ts,x=> .d t (ay.head x)::uR ts (ay.tail x)
def lf (bx:Bx S.C):(ts:List Ty)→List (V S.C)→Option (ay S.C ts×aR S.C)
 | [],[]=>some ((),[])
 | t::ts,v::vs=>(datum S bx t v).bind fun x=>(lf bx ts vs).bind fun b=>some (ay.cons x b.1,dH S bx v++b.2)
 | _,_=>none
def xW (B:Nat) (bx:Bx S.C) (args:List (V S.C)):V S.C→Rt S
 | .fv a r g=>match lf S bx a args with
  | some (x,us)=> .bind _ (g x) fun y=>aL S (sF S (uR S r y)) us
  | none=> .fail
 | .fX f []=>qM S T B bx f args
 | .fX f vs=>match T.fs.find? (·.f == f) with
  | some e=>match caps S bx e.c vs,lf S bx e.a args with
   | some y,some (x,us)=> .bind _ (e.sp x y) fun z=>aL S (sF S (uR S e.r z)) us
   | _,_=> .fail
  | none=> .fail
 | _=> .fail
def mJ (bx:Bx S.C):List (V S.C)→aR S.C
 | []=> []
 | .ptr b _::vs=>(match bx b with
  | some (.cells ws)=> [(b, .bU ws)]
  | _=> [])++mJ bx vs
 | _::vs=>mJ bx vs
def xz (e:Ty):List (V S.C)→Option (List (List (e.den S.C)))
 | []=>some []
 | .bk _ e' l::vs=>(eV S (.sl e') (.sl e) l).bind fun x=>(xz e vs).bind fun r=>some (x::r)
 | _::_=>none
def y_ (t:Nat):Bool:=match S.bt with
 | some u=>Nat.beq u.1 t
 | none=>false
def settle (e:Option Ty) (bx:Bx S.C) (b n:Nat):Rt S:=
 match bx b with
 | some (.cells vs)=>match vs with
  | .cO::_=>aL S (.cF b n) []
  | vs=>match e with
   | some (.sl e)=>match xz S e vs with
    | some l=>cond (Nat.beq n vs.length) (aL S (.d (.sl (.sl e)) l) [(b, .bU vs)]) .fail
    | none=> .fail
   | _=> .fail
 | _=> .fail
def BQ (l c:Operand):Option Nat:=match l,c with
 | .const (.int .i64 (.ofNat n)), .const (.int .i64 (.ofNat m))=>cond (Nat.beq n m&&Nat.ble n 8) (some n) none
 | _,_=>none
def Gb:Ty→Bool
 | .sl _=>true
 | _=>false
def c7 (au:Nat→Nat) (B:Nat) (o:Op) (ty:Nat) (tm:Nat→V S.C) (bx:Bx S.C):Rt S:=
 let ev:=aX S tm
 match o with
 | .move x=>match ev x with
  | some .cO=>cond T.nl (aL S .cO []) (match fB S ty with
   | some e=>aL S (.bk (B) e []) [(B, .tail)]
   | none=> .fail)
  | some v=>aL S v []
  | none=> .fail
 | .assign x=>match ev x with
  | some .cO=>cond T.nl (aL S .cO []) (match fB S ty with
   | some e=>aL S (.bk (B) e []) [(B, .tail)]
   | none=> .fail)
  | some (.cF b n)=>settle S (fB S ty) bx b n
  | some v=>aL S v []
  | none=> .fail
 | .pick c a b=>match ev c with
  | some (.d .bool x)=>match (x:Bool) with
   | true=>match ev a with
    | some v=>aL S v []
    | none=> .fail
   | false=>match ev b with
    | some v=>aL S v []
    | none=> .fail
  | _=> .fail
 | .alloc t=>match S.ty t with
  | some u=>aL S (.ptr (B) 0) [(B, .cells (zeroCells S u))]
  | none=>cond (y_ S t) (aL S (.ptr B 0) [(B+1, .buf []),(B, .bh (B+1))]) .fail
 | .box t x=>match S.ty t,ev x with
  | some u,some v=>cond (fits S (cellsOf S v) (Ty.sz S u)) (match S.sp t with
   | false=>aL S (.ptr (B) 0) [(B, .cells (cellsOf S v))]
   | true=>match cellsOf S v with
    | .ptr c 0::vs=>aL S (.split B c) [(B, .cells vs)]
    | _=> .fail) .fail
  | _,_=> .fail
 | .build t parts=>match S.ty t with
  | some (.st u)=>match parts.toList.mapM (fun p=>(ev p.2).map fun v=>(p.1,v)) with
   | some ps=>match yz S u (zeroCells S (.st u)) ps with
    | some vs=>aL S (.agg u vs) []
    | none=> .fail
   | none=> .fail
  | _=> .fail
 | .buildSlice t len parts=>match fB S t with
  | some e=>cond (T.vw&&Nat.beq len 0) (match parts.toList with
   | []=>aL S (.bk B e []) [(B, .tail)]
   | _=> .fail) (match parts.toList.mapM (fun p=>(ev p.2).map fun v=>(p.1,v)) with
   | some ps=>cond (Nat.ble (len*Ty.sz S e) 16777216) (match nT S bx e (List.replicate len (Ty.zero S e)) ps with
    | some (l,us)=>aL S (.aS (B)) (us++ [(B, .arr e l)])
    | none=> .fail) .fail
   | none=> .fail)
  | none=> .fail
 | .load t x=>match S.ty t,ev x with
  | some T,some v=>Gs S T bx v
  | _,_=> .fail
 | .store t x y=>match qJ S t with
  | some (_,_,u)=>match ev x,ev y with
   | some p,some v=>Ie S u bx v p
   | _,_=> .fail
  | none=>match S.ty t,ev x,ev y with
   | some u,some p,some v=>Ae S u bx v p
   | _,_,_=> .fail
 | .nilCheck x=>match ev x with
  | some (.ptr b o)=>aL S (.ptr b o) []
  | some (.dL t x)=>aL S (.dL t x) []
  | some (.fK b i p)=>aL S (.fK b i p) []
  | some (.split b c)=>aL S (.split b c) []
  | _=> .fail
 | .binOp op t x (.const .nilIface) _=>match ev x with
  | some (.err b)=>cond (S.ru t) (match op with
   | .eql=>aL S (.d .bool b) []
   | .neq=>aL S (.d .bool (Bool.not b)) []
   | _=> .fail) .fail
  | _=> .fail
 | .binOp op t x y _=>cond (S.eq t) (match ev x,ev y with
  | some a,some b=>structEq S op t a b
  | _,_=> .fail) (match ev x,ev y with
  | some a,some b=>match AL S op t a b with
   | some (gs,v)=> .gd gs (aL S v [])
   | none=> .fail
  | _,_=> .fail)
 | .unOp op _ x=>match op,ev x with
  | .not,some (.pr p i)=>aL S (.pr (¬ p) (@instDecidableNot p i)) []
  | .not,some (.d .bool b)=>aL S (.d .bool (Bool.not b)) []
  | .neg,some v=>match v.int? with
   | some (k,n)=>aL S (.d (.int k) (k.wrap (0 - n))) []
   | none=> .fail
  | _,_=> .fail
 | .convert s t x=>match S.ty s,S.ty t,ev x with
  | some _,some (.int k),some v=>match v.int? with
   | some (_,n)=>aL S (.d (.int k) (k.wrap n)) []
   | none=> .fail
  | some _,some .str,some v=>match v.sD with
   | some s=>aL S (.d .str s) []
   | none=> .fail
  | _,_,_=> .fail
 | .makeFunc fn first cs=>match fn,first.toList with
  | .func f,[]=>match cs.toList.mapM ev with
   | some vs=>cond (vs.all (bS S)) (aL S (.fX f vs) (mJ S bx vs)) .fail
   | none=> .fail
  | _,_=> .fail
 | .makeSlice t l c=>match fB S t,ev l,ev c with
  | some e,some v,some w=>match cond (T.vw&&Gb e&&Nat.ble (au t) 64) (BQ l c) none with
   | some n=>aL S (.cF B n) [(B, .cells (List.replicate n .cO))]
   | none=>match v.int?,w.int? with
    | some (.i64,n),some (.i64,m)=> .gd [gd (0≤n),gd (n≤m),gd (m*au t≤limit)] (aL S (.aS (B)) [(B, .arr e (List.replicate n.toNat (Ty.zero S e)))])
    | _,_=> .fail
  | _,_,_=> .fail
 | .slice t x lo hi none=>match S.ty t,ev x,jX S tm lo,jX S tm hi with
  | some T0,some v,some l,some h=>H8 S T.vw T0 bx l h v
  | _,_,_,_=> .fail
 | .slice t x (some lo) (some hi) (some mx)=>match S.ty t,ev x,ev lo,ev hi,ev mx with
  | some T0,some v,some l,some h,some m=>H7 S T0 bx l h m v
  | _,_,_,_,_=> .fail
 | .fieldAddr t x f=>match ev x with
  | some v=>E6 S t f v
  | none=> .fail
 | .field t x f=>match l6 S t,ev x with
  | some u,some (.d (.st u') y)=>cond (Nat.beq u u') (match S.fe u' f with
   | some (o,w)=>match partOf S (.st u') y o w with
    | some z=>aL S (.d w z) []
    | none=> .fail
   | none=> .fail) .fail
  | some u,some (.agg u' vs)=>cond (Nat.beq u u'&&vs.length == (S.F u).length) (match S.fe u f with
   | some (o, .st w)=>aL S (.agg w ((vs.drop o).take (S.F w).length)) []
   | some (o,_)=>match vs[o]? with
    | some v=>aL S v []
    | none=> .fail
   | none=> .fail) .fail
  | _,_=> .fail
 | .indexAddr t x i=>match qJ S t with
  | some (n,e,u)=>match ev x,ev i with
   | some v,some w=>match w.int? with
    | some (_,j)=>D6 S n e u bx j v
    | none=> .fail
   | _,_=> .fail
  | none=>match fB S t,ev x,ev i with
   | some e,some v,some w=>match w.int? with
    | some (_,n)=>Ga S e bx n v
    | none=> .fail
   | _,_,_=> .fail
 | .index t x i=>match qJ S t with
  | some (n,e,u)=>match ev x,ev i with
   | some v,some w=>match w.int? with
    | some (_,j)=>D7 S n e u j v
    | none=> .fail
   | _,_=> .fail
  | none=>match AI S t with
   | some (n,m,u)=>match ev x,ev i with
    | some v,some w=>match xS S u v,w.int? with
     | some vs,some (_,j)=>cond (Nat.beq vs.length (n*(S.F m).length)) (AH S m (S.F m).length j vs 0 n) .fail
     | _,_=> .fail
    | _,_=> .fail
   | none=>match ev x,ev i with
    | some v,some w=>match S.ty t,v.sD,w.int? with
     | some .str,some s,some (_,n)=> .gd (eH n s.length) (aL S (.d (.int .u8) (((s.getD n.toNat 0).toNat:Nat):Int)) [])
     | _,_,_=> .fail
    | _,_=> .fail
 | .extract x i=>match ev x with
  | some (.jq vs)=>match vs[i]? with
   | some v=>aL S v []
   | none=> .fail
  | _=> .fail
 | .call c=>match c.args.toList.mapM ev with
  | none=> .fail
  | some args=>match c.callee with
   | .builtin .len=>match args,(c.argTypes[0]?).bind S.ty with
    | [v],some T=>Gm S T bx v
    | _,_=> .fail
   | .builtin .append=>match args,c.argTypes.toList with
    | [s,x],[t,u]=>match fB S t,fB S u with
     | some e,some e'=>if e=e' then u_ S B (au t) e bx x s else .fail
     | _,_=> .fail
    | _,_=> .fail
   | .builtin .clear=>match args,c.argTypes.toList with
    | [v],[t]=>match fB S t with
     | some e=>Ev S e bx v
     | none=> .fail
    | _,_=> .fail
   | .builtin b=>match args with
    | [v,w]=>match v.int?,w.int? with
     | some (k,x),some (k',y)=>if k=k' then match b with
      | .min=>aL S (.d (.int k) (Min.min (α:=Int) x y)) []
      | .max=>aL S (.d (.int k) (Max.max (α:=Int) x y)) []
      | _=> .fail else .fail
     | _,_=> .fail
    | _=> .fail
   | .value f=>match ev f with
    | some v=>xW S T B bx args v
    | none=> .fail
   | _=> .fail
 | _=> .fail
def pO (B:Nat):List Nat:=(List.range 16).map (B+ ·)
def vT (tm:Nat→V S.C) (x:Operand):List Nat:=match aX S tm x with
 | some v=>aI S v
 | none=> []
def deep (bx:Bx S.C) (ids:List Nat):List Nat:=ids++ids.flatMap fun i=>match bx i with
 | some (.cells vs) | some (.bU vs)=>vs.flatMap (aG S)
 | some (.bh j)=> [j]
 | _=> []
def aN (vw:Bool) (B:Nat) (o:Op) (tm:Nat→V S.C) (bx:Bx S.C):List Nat×List Nat:=
 let ids:=o.operands.toList.flatMap (vT S tm)
 match o with
 | .load .. =>(ids,[])
 | .indexAddr t _ _=>(ids,match S.ar t with | some _=>ids | none=> [])
 | .call { callee:= .builtin .len, .. } =>(ids,[])
 | .slice .. =>(ids,cond vw [] (ids++pO B))
 | .call { callee:= .value _, .. } =>let ids:=deep S bx ids; (ids++pO B,ids++pO B)
 | .move x=>match aX S tm x with
  | some .cO=>(pO B,pO B)
  | _=>([],[])
 | .assign x=>match aX S tm x with
  | some .cO=>(pO B,pO B)
  | some (.cF b _)=>([b],[b])
  | _=>([],[])
 | .pick .. | .field .. | .fieldAddr .. | .extract .. | .unOp .. | .convert .. | .index .. | .binOp .. | .nilCheck _=>([],[])
 | _=>(ids++pO B,ids++pO B)
end
end Go.Sy
namespace Go.Sy
inductive AC where
 | skip
 | w4 (id:Nat) (ops:Array Oper) (draw:Bool)
 | seq (a b:AC)
 | cut (n:Nat) (a b:AC)
 | cond (c:Operand) (a b:AC)
 | block (id:Nat) (a:AC)
 | loop (n:Nat) (a:AC)
 | exit (id:Nat)
 | ret
 | scope (a:AC)
 | bad (c:Code)
 deriving Inhabited
def AC.code:AC→Code
 | .skip=> .skip
 | .w4 id ops draw=> .region id ops draw
 | .seq a b | .cut _ a b=> .seq a.code b.code
 | .cond c a b=> .cond c a.code b.code
 | .block id a=> .block id a.code
 | .loop _ a=> .loop a.code
 | .exit id=> .exit id
 | .ret=> .ret
 | .scope a=> .scope a.code
 | .bad c=>c
def AC.of (dU:List Nat):Code→(ls ss:Nat)→AC×Nat×Nat
 | .skip,l,s=>(.skip,l,s)
 | .region id ops draw,l,s=>(.w4 id ops draw,l,s)
 | .seq a b,l,s=>
  let (x,l1,s1):=AC.of dU a l (s+1)
  let (y,l2,s2):=AC.of dU b l1 s1
  (match dU.idxOf? s with | some n=> .cut (2*n+1) x y | none=> .seq x y,l2,s2)
 | .cond c a b,l,s=>
  let (x,l1,s1):=AC.of dU a l s
  let (y,l2,s2):=AC.of dU b l1 s1
  (.cond c x y,l2,s2)
 | .block id a,l,s=>let (x,l1,s1):=AC.of dU a l s; (.block id x,l1,s1)
 | .loop a,l,s=>let (x,l1,s1):=AC.of dU a (l+1) s; (.loop (2*l) x,l1,s1)
 | .exit id,l,s=>(.exit id,l,s)
 | .ret,l,s=>(.ret,l,s)
 | .scope a,l,s=>let (x,l1,s1):=AC.of dU a l s; (.scope x,l1,s1)
 | c,l,s=>(.bad c,l,s)
theorem AC.S6 (dU:List Nat) (c:Code): ∀ l s,(AC.of dU c l s).1.code=c:=by
 induction c with
 | seq a b F7 F8=>
  intro l s
  simp only [AC.of]
  split <;> simp [AC.code,F7,F8]
 | cond c a b F7 F8=>intro l s; simp [AC.of,AC.code,F7,F8]
 | block id a ih=>intro l s; simp [AC.of,AC.code,ih]
 | loop a ih=>intro l s; simp [AC.of,AC.code,ih]
 | scope a ih=>intro l s; simp [AC.of,AC.code,ih]
 | _=>intro l s; simp [AC.of,AC.code]
section
variable (S:bg)
variable (T:iA S) (au:Nat→Nat)
def zb (a b:List Nat):Bool:=a.any fun x=>b.contains x
def meets (x y:List Nat×List Nat):Bool:=zb x.2 y.1||zb x.2 y.2||zb y.2 x.1
def oT (ops:Array Oper) (eE:Array Nat):List (Nat×Option (List Nat×List Nat))→Bool
 | []=>true
 | (j,fj)::r=>oT ops eE r&&r.all fun (i,fi)=>
  (eE.getD j 0).testBit i||(Oper.apart ops (ops.getD i default) (ops.getD j default)&&
   match fi,fj with
   | some a,some b=> !meets a b
   | _,_=>true)
def Am (ops:Array Oper):Bool:=ops.toList.zipIdx.all fun p=>p.1.after.toList.all fun e=> !Region.binds .any e||Nat.blt e.on p.2
def restrict (bx:Bx S.C) (ids:List Nat):Bx S.C:=fun i=>cond (ids.contains i) (bx i) none
def nY (bx:Bx S.C) (B:Nat) (fp:List Nat) (us:aR S.C):Bool:=
 us.all fun u=>fp.contains u.1&&(!(Nat.ble B u.1&&Nat.blt u.1 (B+16))||(bx u.1).isNone)
def Ic {R:Type} (B:Nat) (dst:Option Nat) (o:Op) (ty:Nat) (env:Env S.C) (k:Env S.C→Option R):Option R:=
 let fp:=aN S T.vw B o env.tm env.bx
 (c7 S T au B o ty env.tm (restrict S env.bx fp.1)).run fun p=>
  cond (nY S env.bx B fp.2 p.2) (k (env.apply dst p.1 p.2)) none
def mm (di n:Nat):Option Nat→Nat
 | _=>16*(100000+1000*di+n)
def za (ops:Array Oper) (n:Nat):Bool:=ops.any fun o=>match o.guard with
 | some (j,_)=>Nat.beq j n
 | none=>false
def splitK {R:Type} (g:Bool) (dst:Option Nat) (env:Env S.C) (k:Env S.C→Option R):Option R:=
 match g with
 | false=>k env
 | true=>match dst with
  | none=>none
  | some t=>match env.tm t with
   | .d .bool x=>match (x:Bool) with
    | true=>k { env with tm:=aC env.tm t (.d .bool true) }
    | false=>k { env with tm:=aC env.tm t (.d .bool false) }
   | .pr _ i=> @ite _ _ i (k { env with tm:=aC env.tm t (.d .bool true) }) (k { env with tm:=aC env.tm t (.d .bool false) })
   | _=>none
def oK (ops:Array Oper) (o:Oper) (tm:Nat→V S.C):Option Bool:=
 match o.guard with
 | none=>some true
 | some (j,want)=>match (ops[j]?).bind (·.dst) with
  | none=>none
  | some t=>match tm t with
   | .d .bool x=>some (match (x:Bool) with | true=>want | false=> !want)
   | .skip=>some false
   | _=>none
noncomputable def agree {R:Type} (a b:Option R):Option R:=open Classical in if a=b then a else none
def zo (o:Op) (tm:Nat→V S.C):Option (Nat×Bool):=match o with
 | .binOp op t x (.const (.slice none 0 0)) _=>match fB S t with
  | some _=>match aX S tm x with
   | some (.d (.sl _) l)=>match op with
    | .eql=>some (List.length l,false)
    | .neq=>some (List.length l,true)
    | _=>none
   | _=>none
  | none=>none
 | _=>none
def BC:Op→Bool
 | .defer _=>true
 | _=>false
def HX (tm:Nat→V S.C) (x y:Operand):Bool:=match x,y with
 | .const (.int k x), .const (.int k' y)=>decide (k=k')&&decide (x=y)
 | .tmp a, .tmp b=>match tm a,tm b with
  | .ptr b o, .ptr b' o'=>Nat.beq b b'&&Nat.beq o o'
  | _,_=>false
 | _,_=>false
def C9 (tm:Nat→V S.C):List Operand→List Operand→Bool
 | [],[]=>true
 | a::as,b::bs=>HX S tm a b&&C9 tm as bs
 | _,_=>false
def A9 (tm:Nat→V S.C) (dc:Option (Nat×List Operand)):Op→Bool
 | .defer ⟨.value (.func f),args,_⟩=>match dc with
  | some (g,ops)=>Nat.beq f g&&C9 S tm args.toList ops
  | none=>false
 | _=>false
noncomputable def j6 {R:Type} (di:Nat) (ops:Array Oper) (draw:Bool) (eE:Array Nat) (k:Env S.C→Option R):List Oper→Nat→List (Nat×Option (List Nat×List Nat))→Env S.C→Option R
 | [],_,dA,env=>cond (!draw||(oT ops eE dA&&Am ops)) (k env) none
 | o::r,n,dA,env=>match oK S ops o env.tm with
  | none=>none
  | some true=>match BC o.op with
   | true=>cond (draw||env.df|| !A9 S env.tm T.dc o.op) none (j6 di ops draw eE k r (n+1) ((n,none)::dA) { env.apply o.dst .skip [] with df:=true })
   | false=>match zo S o.op env.tm with
   | some (m,v)=>cond draw none (@ite _ (m=0) (instDecidableEqNat m 0) (agree (splitK S (za ops n) o.dst (env.apply o.dst (.d .bool (Bool.not v)) []) fun e=>
    j6 di ops draw eE k r (n+1) ((n,some ([],[]))::dA) e) (splitK S (za ops n) o.dst (env.apply o.dst (.d .bool v) []) fun e=>
    j6 di ops draw eE k r (n+1) ((n,some ([],[]))::dA) e)) (splitK S (za ops n) o.dst (env.apply o.dst (.d .bool v) []) fun e=>
    j6 di ops draw eE k r (n+1) ((n,some ([],[]))::dA) e))
   | none=>Ic S T au (mm di n o.dst) o.dst o.op o.type env fun e=>splitK S (za ops n) o.dst e fun e=>
    j6 di ops draw eE k r (n+1) ((n,some (aN S T.vw (mm di n o.dst) o.op env.tm env.bx))::dA) e
  | some false=>j6 di ops draw eE k r (n+1) ((n,none)::dA) (env.apply o.dst .skip [])
inductive Ex where
 | normal | exit (id:Nat) | ret
 deriving Inhabited
abbrev Kt (R:Type):=Ex→Env S.C→Option R
noncomputable def exec {R:Type} (L:Nat→Env S.C→Option R):AC→Env S.C→Kt S R→Option R
 | .skip,env,k=>k .normal env
 | .w4 id ops draw,env,k=>j6 S T au id ops draw (Region.before ops) (k .normal) ops.toList 0 [] env
 | .seq a b,env,k=>exec L a env fun e env'=>match e with
  | .normal=>exec L b env' k
  | e=>k e env'
 | .cut n a _,env,k=>exec L a env fun e env'=>match e with
  | .normal=>L n env'
  | e=>k e env'
 | .cond c a b,env,k=>match aX S env.tm c with
  | some (.d .bool x)=>match (x:Bool) with
   | true=>exec L a env k
   | false=>exec L b env k
  | some (.pr _ i)=> @ite _ _ i (exec L a env k) (exec L b env k)
  | _=>none
 | .block id a,env,k=>exec L a env fun e env'=>match e with
  | .exit j=>cond (Nat.beq j id) (k .normal env') (k (.exit j) env')
  | e=>k e env'
 | .loop n _,env,_=>L n env
 | .exit id,env,k=>k (.exit id) env
 | .ret,env,k=>k .ret env
 | .scope a,env,k=>exec L a env k
 | .bad _,_,_=>none
def zu (sl:List Nat) (ks:List K) (env:Env S.C):Option (Ks S.C ks):=
 (eC S T.fs env.bx ks (sl.map env.tm)).bind fun a=>some a.1
def fC (id:Nat):(k:K)→k.den S.C→V S.C×aR S.C
 | .val (.data t),x=>(.d t x,[])
 | .val (.bk e),x=>(.bk id e x,[(id, .tail)])
 | .val (.aS e),x=>(.aS id,[(id, .arr e x)])
 | .obj cs,x=>let a:=bB S (id+1) cs x; (.ptr id 0,(id, .cells a.1)::a.2.1)
 | .ro t,x=>(.dL t x,[])
 | .fn a r,g=>(.fv a r g,[])
 | .nil,_=>(.nil,[])
 | .err,x=>(.err x,[])
 | .bh,x=>(.ptr id 0,[(id, .bh (id+1)),(id+1, .buf x)])
 | .opt _,_=>(.undef,[])
 | .bZ t cs,x=>let a0:=bB S (id+1) [.data t] x.1; let a:=bB S (id+2) cs x.2; (.split (id+1) id,(id, .cells a0.1)::(id+1, .cells a.1)::a.2.1)
 | .cF cs,x=>let a:=bB S (id+1) cs x; (.cF id (CK.cz S cs),(id, .cells a.1)::a.2.1)
def fW:(ks:List K)→(sl:List Nat)→Ks S.C ks→Env S.C→Env S.C
 | [],_,_,env=>env
 | _::_,[],_,env=>env
 | k::r,t::sl,x,env=>
  let a:=fC S (16*t) k (Ks.head x)
  fW r sl (Ks.tail x) (env.apply (some t) a.1 a.2)
def Env.none (df:Bool):Env S.C:=⟨fun _=> .undef,fun _=>Option.none,df⟩
structure iz (R:Type) where
 sl:List Nat
 ks:List K
 fn:Ks S.C ks→Option R
 df:Bool
def OI:Bool→Bool→Bool
 | true,b=>b
 | false,true=>false
 | false,false=>true
noncomputable def BF {R:Type} (env:Env S.C):List (iz S R)→Option R
 | []=>none
 | l::ls=>match cond (OI l.df env.df) (zu S T l.sl l.ks env) none with
  | some x=>l.fn x
  | none=>BF env ls
noncomputable def iH {R:Type} (ls:Nat→List (iz S R)) (n:Nat) (env:Env S.C):Option R:=BF S T env (ls n)
def l5:List Nat→List K→Bool
 | [],[]=>true
 | t::sl,k::ks=>Nat.ble (pK k) 16&& !sl.contains t&&(match k with | .opt _=>false | _=>true)&&l5 sl ks
 | _,_=>false
noncomputable def VC {R:Type} (l0 l1:Nat→List (iz S R)):AC→Kt S R→List Prop
 | .seq a b,k=>VC l0 l1 a (fun e env'=>match e with
  | .normal=>exec S T au (iH S T l0) b env' k
  | e=>k e env')++VC l0 l1 b k
 | .cut n a b,k=>VC l0 l1 a (fun e env'=>match e with
  | .normal=>iH S T l0 n env'
  | e=>k e env')++VC l0 l1 b k++(l1 n).map fun l=> ∀ x,l.fn x=exec S T au (iH S T l0) b (fW S l.ks l.sl x (Env.none S l.df)) k
 | .cond _ a b,k=>VC l0 l1 a k++VC l0 l1 b k
 | .block id a,k=>VC l0 l1 a fun e env'=>match e with
  | .exit j=>cond (Nat.beq j id) (k .normal env') (k (.exit j) env')
  | e=>k e env'
 | .loop n a,k=>VC l0 l1 a (fun e env'=>match e with
  | .normal=>iH S T l0 n env'
  | e=>k e env')++(l1 n).map fun l=> ∀ x,l.fn x=exec S T au (iH S T l0) a (fW S l.ks l.sl x (Env.none S l.df)) (fun e env'=>match e with
   | .normal=>iH S T l0 n env'
   | e=>k e env')
 | .scope a,k=>VC l0 l1 a k
 | _,_=> []
def yC (ps:List K) (x:Ks S.C ps):Env S.C:=fW S ps (List.range' 0 ps.length) x (Env.none S false)
def oy (env:Env S.C):ResultVar→V S.C
 | .tmp t=>env.tm t
 | .cell a t=>match S.ty t,env.tm a with
  | some (.st u), .ptr b 0=>match env.bx b with
   | some (.cells vs)=>cond (vs.length == (S.F u).length) (.agg u vs) .undef
   | _=> .undef
  | some _, .ptr b 0=>match env.bx b with
   | some (.cells [v])=>v
   | _=> .undef
  | _,_=> .undef
def jh:List K→Nat→List Nat
 | [],_=> []
 | .obj _::r,i=>i::jh r (i+1)
 | .bh::r,i=>i::jh r (i+1)
 | .bZ _ _::r,i=>i::jh r (i+1)
 | _::r,i=>jh r (i+1)
def mE:Nat:=1440000
def lR (fn:Func) (ps rs:List K):Kt S (Ks S.C (rs++outs ps)):=fun e env=>match e with
 | .exit _=>none
 | _=>match env.df with
  | false=>(eC S T.fs env.bx (rs++outs ps) (fn.results.toList.map (oy S env)++(jh ps 0).map env.tm)).map (·.1)
  | true=>match T.dc with
   | some (f,ops)=>match ops.mapM (aX S env.tm) with
    | some vs=>(qM S ⟨T.de,T.fs,T.nl,T.vw,none,[]⟩ mE env.bx f vs).run fun p=>cond (p.2.all fun u=> !(Nat.ble mE u.1&&Nat.blt u.1 (mE+16))||(env.bx u.1).isNone)
     ((eC S T.fs (aD env.bx p.2) (rs++outs ps) (fn.results.toList.map (oy S (env.apply none .undef p.2))++(jh ps 0).map env.tm)).map (·.1)) none
    | none=>none
   | none=>none
end
end Go.Sy
namespace Go.Sy
abbrev St:=Nat→Nat→Prop
def At (w:World) (s:St) (b o:Nat) (cs:List Value):Prop:=
 ∀ j v,cs[j]? =some v→w.cell? ⟨b,o+j,none⟩=some v∧s b (o+j)
def bX (w:World) (s:St) (w':World) (s':St):Prop:=
 ∀ b o,s b o→s' b o∧w'.cell? ⟨b,o,none⟩=w.cell? ⟨b,o,none⟩
theorem bX.refl (w:World) (s:St):bX w s w s:=fun _ _ h=>⟨h,rfl⟩
theorem bX.trans {w w' w'':World} {s s' s'':St} (h:bX w s w' s') (h':bX w' s' w'' s''):bX w s w'' s'':=
 fun b o hs=>⟨(h' b o (h b o hs).1).1,((h' b o (h b o hs).1).2).trans (h b o hs).2⟩
theorem At.later {w w':World} {s s':St} {b o:Nat} {cs:List Value} (h:At w s b o cs) (hl:bX w s w' s'):At w' s' b o cs:=
 fun j v hj=>⟨(hl _ _ (h j v hj).2).2.trans (h j v hj).1,(hl _ _ (h j v hj).2).1⟩
theorem At.left {w:World} {s:St} {b o:Nat} {cs ds:List Value} (h:At w s b o (cs++ds)):At w s b o cs:=fun j v hj=>
 h j v (by rw [List.getElem?_append_left (List.getElem?_eq_some_iff.1 hj).1]; exact hj)
theorem At.right {w:World} {s:St} {b o:Nat} {cs ds:List Value} (h:At w s b o (cs++ds)):At w s b (o+cs.length) ds:=fun j v hj=>by
 have :=h (cs.length+j) v (by rw [List.getElem?_append_right (by omega)]; simpa using hj)
 rw [← Nat.add_assoc] at this
 exact this
theorem At.append {w:World} {s:St} {b o:Nat} {cs ds:List Value} (h:At w s b o cs) (h':At w s b (o+cs.length) ds):At w s b o (cs++ds):=fun j v hj=>by
 by_cases hlt:j<cs.length
 · exact h j v (by rw [List.getElem?_append_left hlt] at hj; exact hj)
 · have :=h' (j - cs.length) v (by rw [List.getElem?_append_right (by omega)] at hj; exact hj)
   rw [show o+cs.length+(j - cs.length)=o+j from by omega] at this
   exact this
def isAgg:Value→Bool
 | .agg _=>true
 | _=>false
def bA:Ty→Bool
 | .st _=>true
 | _=>false
def iT (M:St):Prop:= ∀ b o, ¬ M b o
def iU (M A B:St):Prop:=(∀ b o,M b o↔A b o∨B b o)∧ ∀ b o,A b o→B b o→False
section
variable (P:Program) (S:bg)
def bG (R:(t:Ty)→t.den S.C→List Value→Prop):(ts:List Ty)→ay S.C ts→List Value→Prop
 | [],_,cs=>cs= []
 | t::ts,x,cs=> ∃ c r,cs=c::r∧R t (ay.head x) [c]∧bG R ts (ay.tail x) r
def xF (R:(t:Ty)→t.den S.C→List Value→Prop) (w:World) (s:St) (e:Ty) (b o:Nat) (l:List (e.den S.C)):Prop:=
 ∀ (i:Nat) (x:e.den S.C),l[i]? =some x→ ∃ ds,ds.length=Ty.sz S e∧At w s b (o+i*Ty.sz S e) ds∧R e x ds
def aM (w:World) (s:St):Nat→(t:Ty)→t.den S.C→List Value→Prop
 | 0,_,_,_=>False
 | n+1,t,x,cs=>match t,x with
  | .int k,x=>cs= [.int k x]
  | .bool,x=>cs= [.bool x]
  | .str,x=>cs= [.string ⟨List.toArray x⟩]
  | .pt,_=>cs= [.pointer none]
  | .sl e,l=> ∃ a cap,cs= [.slice a (List.length l) cap]∧List.length l≤cap∧
   (List.length l=0∨ ∃ b o,a=some ⟨b,o,none⟩∧xF S (fun t x cs=>aM w s n t x cs) w s e b o l)
  | .st u,x=>bG S (fun t x cs=>aM w s n t x cs) (S.F u) (S.ex u x) cs
def cy (w:World) (s:St) (t:Ty) (x:t.den S.C) (v:Value):Prop:=isAgg v=bA t∧ ∃ n,aM S w s n t x v.cells.toList
theorem bG.mono {R R':(t:Ty)→t.den S.C→List Value→Prop} (h: ∀ t x cs,R t x cs→R' t x cs):
 ∀ (ts:List Ty) (x:ay S.C ts) (cs:List Value),bG S R ts x cs→bG S R' ts x cs
 | [],_,_,hr=>hr
 | _::ts,_,_,⟨c,r,hc,h1,h2⟩=>⟨c,r,hc,h _ _ _ h1,bG.mono h ts _ _ h2⟩
theorem aM.mono {w w':World} {s s':St} (hl:bX w s w' s'): ∀ {n m:Nat},n≤m→ ∀ {t:Ty} {x:t.den S.C} {cs:List Value},aM S w s n t x cs→aM S w' s' m t x cs
 | 0,_,_,_,_,_,h=>h.elim
 | n+1,0,hm,_,_,_,_=>by omega
 | n+1,m+1,hm,t,x,cs,h=>by
  have ih:=fun {t:Ty} {x:t.den S.C} {cs:List Value} =>aM.mono hl (n:=n) (m:=m) (by omega) (t:=t) (x:=x) (cs:=cs)
  cases t with
  | int k=>exact h
  | bool=>exact h
  | str=>exact h
  | pt=>exact h
  | sl e=>
   obtain ⟨a,cap,hcs,hc,h⟩:=h
   refine ⟨a,cap,hcs,hc,h.imp id ?_⟩
   rintro ⟨b,o,ha,he⟩
   refine ⟨b,o,ha,fun i x hi=> ?_⟩
   obtain ⟨ds,hd,cZ,hr⟩:=he i x hi
   exact ⟨ds,hd,cZ.later hl,ih hr⟩
  | st u=>exact bG.mono S (fun t x cs h=>ih h) _ _ _ h
theorem cy.mono {w w':World} {s s':St} (hl:bX w s w' s') {t:Ty} {x:t.den S.C} {v:Value} (h:cy S w s t x v):cy S w' s' t x v:=
 ⟨h.1,h.2.imp fun _ hn=>aM.mono S hl (Nat.le_refl _) hn⟩
theorem aM.up {w:World} {s:St} {n m:Nat} (hm:n≤m) {t:Ty} {x:t.den S.C} {cs:List Value} (h:aM S w s n t x cs):aM S w s m t x cs:=
 aM.mono S (bX.refl w s) hm h
theorem bG.length {R:(t:Ty)→t.den S.C→List Value→Prop} : ∀ (ts:List Ty) (x:ay S.C ts) (cs:List Value),bG S R ts x cs→cs.length=ts.length
 | [],_,_,h=>by cases h; rfl
 | _::ts,_,_,⟨c,r,hc,_,h2⟩=>by subst hc; simp [bG.length ts _ _ h2]
theorem aM.length {w:World} {s:St} {n:Nat} {t:Ty} {x:t.den S.C} {cs:List Value} (h:aM S w s n t x cs):cs.length=Ty.sz S t:=by
 cases n with
 | zero=>exact h.elim
 | succ n=>cases t with
  | int k=>cases h; rfl
  | bool=>cases h; rfl
  | str=>cases h; rfl
  | pt=>cases h; rfl
  | sl e=>obtain ⟨a,cap,rfl,_⟩:=h; rfl
  | st u=>exact bG.length S _ _ _ h
theorem bG.flat {w w':World} {s s':St} {n m:Nat} : ∀ (ts:List Ty) (x:ay S.C ts) (cs:List Value),(ts.all fun | .sl _=>false | .st _=>false | _=>true)=true→
 bG S (fun t x cs=>aM S w s n t x cs) ts x cs→bG S (fun t x cs=>aM S w' s' (m+1) t x cs) ts x cs
 | [],_,_,_,h=>h
 | t::ts,x,cs,hf,⟨c,r,hc,h1,h2⟩=>by
  simp only [List.all_cons,Bool.and_eq_true] at hf
  refine ⟨c,r,hc, ?_,bG.flat ts _ _ hf.2 h2⟩
  cases n with
  | zero=>exact h1.elim
  | succ n=>cases t with
   | int k=>exact h1
   | bool=>exact h1
   | str=>exact h1
   | pt=>exact h1
   | sl e=>simp at hf
   | st u=>simp at hf
end
end Go.Sy
namespace Go.Sy
structure bq (w w':World) (T:St):Prop where
 os:w'.os=w.os
 tape:w'.tape=w.tape
 output:w'.output=w.output
 size:w.heap.size≤w'.heap.size
 same: ∀ b,b<w.heap.size→(∀ o, ¬ T b o)→w'.heap[b]? =w.heap[b]?
 cell: ∀ b o,b<w.heap.size→ ¬ T b o→w'.cell? ⟨b,o,none⟩=w.cell? ⟨b,o,none⟩
 some: ∀ b o,b<w.heap.size→(w.cell? ⟨b,o,none⟩).isSome=true→(w'.cell? ⟨b,o,none⟩).isSome=true
 Bj: ∀ b o,b<w.heap.size→ ¬ T b o→w'.frozen? ⟨b,o,none⟩=w.frozen? ⟨b,o,none⟩
theorem bq.refl (w:World) (T:St):bq w w T:=⟨rfl,rfl,rfl,Nat.le_refl _,fun _ _ _=>rfl,fun _ _ _ _=>rfl,fun _ _ _ h=>h,fun _ _ _ _=>rfl⟩
theorem bq.mono {w w':World} {T T':St} (h:bq w w' T) (ht: ∀ b o,T b o→T' b o):bq w w' T':=
 ⟨h.os,h.tape,h.output,h.size,fun b hb hn=>h.same b hb fun o ho=>hn o (ht b o ho),fun b o hb hn=>h.cell b o hb fun ho=>hn (ht b o ho),h.some,fun b o hb hn=>h.Bj b o hb fun ho=>hn (ht b o ho)⟩
theorem bq.trans {w w' w'':World} {T T' DN:St} (h:bq w w' T) (h':bq w' w'' T') (h1: ∀ b o,T b o→DN b o) (h2: ∀ b o,b<w.heap.size→T' b o→DN b o):bq w w'' DN:=
 ⟨h'.os.trans h.os,h'.tape.trans h.tape,h'.output.trans h.output,Nat.le_trans h.size h'.size,
  fun b hb hn=>(h'.same b (Nat.lt_of_lt_of_le hb h.size) fun o ho=>hn o (h2 b o hb ho)).trans (h.same b hb fun o ho=>hn o (h1 b o ho)),
  fun b o hb hn=>(h'.cell b o (Nat.lt_of_lt_of_le hb h.size) fun ho=>hn (h2 b o hb ho)).trans (h.cell b o hb fun ho=>hn (h1 b o ho)),
  fun b o hb hs=>h'.some b o (Nat.lt_of_lt_of_le hb h.size) (h.some b o hb hs),
  fun b o hb hn=>(h'.Bj b o (Nat.lt_of_lt_of_le hb h.size) fun ho=>hn (h2 b o hb ho)).trans (h.Bj b o hb fun ho=>hn (h1 b o ho))⟩
theorem cell_of_heap {w w':World} {b o:Nat} (h:w'.heap[b]? =w.heap[b]?):w'.cell? ⟨b,o,none⟩=w.cell? ⟨b,o,none⟩:=by
 simp [World.cell?,h]
theorem Bk {w w':World} {b o:Nat} (h:w'.heap[b]? =w.heap[b]?):w'.frozen? ⟨b,o,none⟩=w.frozen? ⟨b,o,none⟩:=by
 simp [World.frozen?,h]
theorem bq.drew (w:World) (T:St):bq w w.drew T:=⟨rfl,rfl,rfl,Nat.le_refl _,fun _ _ _=>rfl,fun _ _ _ _=>rfl,fun _ _ _ h=>h,fun _ _ _ _=>rfl⟩
theorem heap_alloc (w:World) (o:Obj) (b:Nat) (h:b<w.heap.size):(w.alloc o).heap[b]? =w.heap[b]? :=RowKit.Below.heap_alloc w o b h
theorem bq.alloc (w:World) (o:Obj) (T:St):bq w (w.alloc o) T:=
 ⟨rfl,rfl,rfl,by simp,fun b hb _=>heap_alloc w o b hb,fun b o' hb _=>cell_of_heap (heap_alloc w o b hb),fun b o' hb h=>by rw [cell_of_heap (heap_alloc w o b hb)]; exact h,fun b o' hb _=>Bk (heap_alloc w o b hb)⟩
theorem os_setCells (b:Nat): ∀ (vs:List Value) (o:Nat) (w:World),(w.setCells b o vs).os=w.os∧(w.setCells b o vs).tape=w.tape∧(w.setCells b o vs).output=w.output∧(w.setCells b o vs).heap.size=w.heap.size
 | [],_,_=>⟨rfl,rfl,rfl,rfl⟩
 | v::r,o,w=>by
  obtain ⟨h1,h2,h3,h4⟩:=os_setCells b r (o+1) (w.setCell ⟨b,o,none⟩ v)
  exact ⟨h1,h2,h3,h4.trans (by simp)⟩
theorem Lt (b:Nat): ∀ (vs:List Value) (o:Nat) (w:World) (k:Nat),k≠b→(w.setCells b o vs).heap[k]? =w.heap[k]?
 | [],_,_,_,_=>rfl
 | v::r,o,w,k,hk=>(Lt b r (o+1) (w.setCell ⟨b,o,none⟩ v) k hk).trans (RowKit.Below.heap_setCell w _ v k hk)
theorem aaH (w:World) (b o:Nat):w.setCells b o []=w:=rfl
theorem bq.setCells (w:World) (b o:Nat) (vs:List Value) (ht:w.there b o vs.length):bq w (w.setCells b o vs) (fun b' o'=>b'=b∧o≤o'∧o'<o+vs.length):=by
 obtain ⟨h1,h2,h3,h4⟩:=os_setCells b vs o w
 refine ⟨h1,h2,h3,by omega,fun k hk hn=> ?_,fun k o' hk hn=> ?_,fun k o' hk hs=> ?_,fun k o' hk _=> ?_⟩
 · by_cases e:k=b
   · subst e
     cases vs with
     | nil=>rfl
     | cons v r=>exact absurd ⟨rfl,Nat.le_refl _,by simp⟩ (hn o)
   · exact Lt b vs o w k e
 · exact World.cell?_setCells_out b vs o w ⟨k,o',none⟩ fun hb _=>by
    have hb:k=b:=hb
    by_cases e:o≤o'∧o'<o+vs.length
    · exact absurd ⟨hb,e⟩ hn
    · show o'<o∨o+vs.length≤o'
      omega
 · by_cases e:k=b∧o≤o'∧o'<o+vs.length
   · obtain ⟨rfl,e1,e2⟩:=e
     have :=World.cell?_setCells_in k vs o w (fun i hi=>(ht i hi).1) (o' - o) (by omega)
     rw [show o+(o' - o)=o' from by omega] at this
     rw [this]; rfl
   · rw [World.cell?_setCells_out b vs o w ⟨k,o',none⟩ fun hb _=>by
      have hb:k=b:=hb
      show o'<o∨o+vs.length≤o'
      omega]
     exact hs
 · exact World.frozen?_setCells ..
structure Loc where
 b:Nat
 o:Nat
 n:Nat
 cap:Nat
 nil:Bool
def Loc.aN (L:Loc):St:=fun b o=>b=L.b∧L.o≤o∧o<L.o+L.n
def IN (L:Loc) (a:Option Addr) (len cap sz:Nat):Prop:=
 (a=none∧cap=0∧L.n=0)∨ ∃ b o,a=some ⟨b,o,none⟩∧L.n=(cap - len)*sz∧(len<cap→L.b=b∧L.o=o+len*sz)
structure qC (L:Loc) (a:Option Addr) (len cap sz:Nat):Prop where
 addr:a=if L.nil then none else some ⟨L.b,L.o,none⟩
 mA:cap=L.cap
 cells:L.n=L.cap*sz
 isNil:L.nil=true→L.cap=0
 fits:len≤cap
def jM (P:Program) (f:Nat):Prop:= ∃ fn,P.funcs[f]? =some fn∧(fn.name == "runtime.NumGoroutine")=false∧fn.body.isNone=false
def lS:List Value→Value
 | [v]=>v
 | vs=> .tuple vs.toArray
def grown (s:St) (w w':World):St:=fun b o=>s b o∨(w.heap.size≤b∧b<w'.heap.size)
section
variable (P:Program) (S:bg)
def gk (w:World) (s:St):(ts:List Ty)→ay S.C ts→List Value→Prop
 | [],_,vs=>vs= []
 | t::ts,x,vs=> ∃ v r,vs=v::r∧cy S w s t (ay.head x) v∧gk w s ts (ay.tail x) r
theorem gk.mono {w w':World} {s s':St} (hl:bX w s w' s'): ∀ (ts:List Ty) (x:ay S.C ts) (vs:List Value),gk S w s ts x vs→gk S w' s' ts x vs
 | [],_,_,h=>h
 | _::ts,_,_,⟨v,r,h1,h2,h3⟩=>⟨v,r,h1,h2.mono S hl,gk.mono hl ts _ _ h3⟩
def js (S:bg) (w:World) (M:St):Prop:=(∀ g ∈ S.gl,g.1.1<w.heap.size∧ ¬ M g.1.1 g.1.2∧ ∃ v,w.cell? ⟨g.1.1,g.1.2,none⟩=some v∧g.2 v)∧
 ∀ g ∈ S.gb,g.1<w.heap.size∧(∀ o, ¬ M g.1 o)∧ ∃ ob,w.heap[g.1]? =some ob∧g.2 ob
theorem js.at {S:bg} {w0 w:World} {M0 M:St} (hG:js S w0 M0) (hc:bq w0 w M0) (hM: ∀ b o,M b o→w0.heap.size≤b∨M0 b o):js S w M:=
 ⟨fun g hg=>by
  obtain ⟨g1,g2,v,g3,g4⟩:=hG.1 g hg
  refine ⟨Nat.lt_of_lt_of_le g1 hc.size,fun hm=> ?_,v,(hc.cell g.1.1 g.1.2 g1 g2).trans g3,g4⟩
  rcases hM _ _ hm with h1 | h1
  · exact absurd g1 (Nat.not_lt.2 h1)
  · exact g2 h1,fun g hg=>by
  obtain ⟨g1,g2,v,g3,g4⟩:=hG.2 g hg
  refine ⟨Nat.lt_of_lt_of_le g1 hc.size,fun o hm=> ?_,v,(hc.same g.1 g1 g2).trans g3,g4⟩
  rcases hM _ _ hm with h1 | h1
  · exact absurd g1 (Nat.not_lt.2 h1)
  · exact g2 o h1⟩
def ID (w:World):Prop:=js S w (fun _ _=>False)
def nB (w:World) (s:St) (a r:List Ty) (g:ay S.C a→Option (ay S.C r)) (v:Value):Prop:=
 ∃ f first cap,v= .func (.func f) first cap∧jM P f∧ ∀ w1 s1,bX w s w1 s1→ID S w1→ ∀ x args y,gk S w1 s1 a x args→g x=some y→
  Calls P f (first++args.toArray++cap) w1 fun e w'=> ∃ us,e= .returned (lS us)∧bq w1 w' (fun _ _=>False)∧gk S w' (grown s1 w1 w') r y us
theorem nB.mono {w w':World} {s s':St} (hl:bX w s w' s') {a r:List Ty} {g:ay S.C a→Option (ay S.C r)} {v:Value} (h:nB P S w s a r g v):nB P S w' s' a r g v:=by
 obtain ⟨f,first,cap,hv,hf,h⟩:=h
 exact ⟨f,first,cap,hv,hf,fun w1 s1 cv=>h w1 s1 (hl.trans cv)⟩
def nD (w:World) (s:St) (t:Ty) (x:t.den S.C) (v:Value):Prop:=
 ∃ b o ds,v= .pointer (some ⟨b,o,none⟩)∧At w s b o ds∧ds.length=Ty.sz S t∧ ∃ n,aM S w s n t x ds
theorem nD.mono {w w':World} {s s':St} (hl:bX w s w' s') {t:Ty} {x:t.den S.C} {v:Value} (h:nD S w s t x v):nD S w' s' t x v:=by
 obtain ⟨b,o,ds,hv,cZ,hd,n,hr⟩:=h
 exact ⟨b,o,ds,hv,cZ.later hl,hd,n,hr.mono S hl (Nat.le_refl _)⟩
def xI:Bool→Value→Prop
 | true,v=>v= .nilIface
 | false,v=> ∃ t p,v= .iface t p
def bI (w:World) (s:St) (μ:Nat→Loc) (bx:Bx S.C):V S.C→Value→Prop
 | .undef,_=>True
 | .skip,v=>v=Go.undef
 | .d t x,v=>cy S w s t x v
 | .pr p i,v=>v= .bool (@decide p i)
 | .bk b e l,v=>cy S w s (.sl e) l v∧(bx b=some .tail→ ∃ a cap,v= .slice a l.length cap∧IN (μ b) a l.length cap (Ty.sz S e))
 | .aS b,v=>(∃ a n c,v= .slice a n c)∧ ∀ e (l:List (e.den S.C)),(bx b=some (.arr e l)∨bx b=some (.bM e l))→ ∃ a cap,v= .slice a l.length cap∧qC (μ b) a l.length cap (Ty.sz S e)
 | .pre b n,v=>(∃ a n c,v= .slice a n c)∧ ∀ e (l:List (e.den S.C)),bx b=some (.arr e l)→0≤n∧n.toNat≤l.length∧ ∃ a cap,v= .slice a n.toNat cap∧qC (μ b) a n.toNat cap (Ty.sz S e)
 | .win b i n,v=>(∃ a n c,v= .slice a n c)∧ ∀ e (l:List (e.den S.C)),bx b=some (.arr e l)→0≤i∧0≤n∧i.toNat+n.toNat≤l.length∧ ∃ a cap,v= .slice a n.toNat cap∧n.toNat≤cap∧(n.toNat=0∨a=some ⟨(μ b).b,(μ b).o+i.toNat*Ty.sz S e,none⟩)
 | .ptr b off,v=>v= .pointer (some ⟨(μ b).b,(μ b).o+off,none⟩)
 | .split b c,v=> ∃ k q,v= .pointer (some ⟨k,q,none⟩)∧At w s k q [.pointer (some ⟨(μ c).b,(μ c).o,none⟩)]∧(μ b).b=k∧(μ b).o=q+1
 | .mS c,v=> ∃ k q,v= .pointer (some ⟨k,q,none⟩)∧At w s k q [.pointer (some ⟨(μ c).b,(μ c).o,none⟩)]
 | .cF b n,v=>v= .slice (some ⟨(μ b).b,(μ b).o,none⟩) n n
 | .fK b i off,v=>(∃ p,v= .pointer (some p))∧ ∀ e (l:List (e.den S.C)),(bx b=some (.arr e l)∨bx b=some (.bM e l))→0≤i∧i.toNat<l.length∧v= .pointer (some ⟨(μ b).b,(μ b).o+i.toNat*Ty.sz S e+off,none⟩)
 | .dL t x,v=>nD S w s t x v
 | .nil,v=>v= .pointer none
 | .err b,v=>xI b v
 | .cO,v=>v= .slice none 0 0
 | .fv a r g,v=>nB P S w s a r g v
 | .fX _ _,_=>False
 | .agg _ _,_=>False
 | .jq _,_=>False
def aQ (w:World) (s:St) (μ:Nat→Loc) (bx:Bx S.C):List (V S.C)→List Value→Prop
 | [],cs=>cs= []
 | v::vs,cs=> ∃ c r,cs=c::r∧bI P S w s μ bx v c∧aQ w s μ bx vs r
def RV (w:World) (s:St) (μ:Nat→Loc) (bx:Bx S.C):V S.C→Value→Prop
 | .agg u vs,v=> ∃ cs:Array Value,v= .agg cs∧vs.length=(S.F u).length∧vs.all (bS S)=true∧aQ P S w s μ bx vs cs.toList
 | .jq vs,v=> ∃ us,v= .tuple us∧aQ P S w s μ bx vs us.toList
 | .fX f vs,v=> ∃ cs:Array Value,v= .func (.func f) #[] cs∧aQ P S w s μ bx vs cs.toList
 | v,c=>bI P S w s μ bx v c
def live (bx:Bx S.C) (i:Nat):Prop:=match bx i with
 | some (.cells _) | some (.arr _ _) | some .tail | some (.bh _) | some (.buf _)=>True
 | _=>False
def fJ (L:Loc) (n:Nat):Value:= .slice (if L.nil then none else some ⟨L.b,0,none⟩) n L.cap
def xD (w:World) (b:Nat) (v:Value):Prop:=
 ∃ T e p,S.bt=some (T,e)∧w.heap[b]? =some (.cells #[p,v] T (0,0))∧(p= .pointer none∨p= .pointer (some ⟨b,0,none⟩))
def nA (w:World) (L:Loc) (l:List UInt8):Prop:=
 L.o=0∧L.n=L.cap∧(L.nil=true→L.cap=0)∧ ∃ T e,S.bt=some (T,e)∧w.ownsRowF 0 e 1 (fJ L l.length) l.length (Lib.byteCells l)
def RB (w:World) (s:St) (μ:Nat→Loc) (bx:Bx S.C) (L:Loc):dZ S.C→Prop
 | .cells vs=>vs.all (bS S)=true∧L.n=vs.length∧w.there L.b L.o L.n∧ ∃ cs,w.rangeAt L.b L.o cs∧aQ P S w s μ bx vs cs
 | .bU vs=>vs.all (bS S)=true∧ ∃ cs,At w s L.b L.o cs∧aQ P S w s μ bx vs cs
 | .arr e l=>L.n=L.cap*Ty.sz S e∧(L.nil=true→L.cap=0)∧l.length≤L.cap∧w.there L.b L.o L.n∧
  ∀ i x,l[i]? =some x→ ∃ ds,ds.length=Ty.sz S e∧w.rangeAt L.b (L.o+i*Ty.sz S e) ds∧ ∃ n,aM S w s n e x ds
 | .bM e l=>(L.nil=true→L.cap=0)∧l.length≤L.cap∧
  ∀ i x,l[i]? =some x→ ∃ ds,ds.length=Ty.sz S e∧At w s L.b (L.o+i*Ty.sz S e) ds∧ ∃ n,aM S w s n e x ds
 | .tail=>w.there L.b L.o L.n
 | .dead=>True
 | .bh j=>L.o=0∧L.n=2∧bx j≠none∧ ∃ v,xD S w L.b v∧ ∀ l,bx j=some (.buf l)→v=fJ (μ j) l.length
 | .buf l=>nA S w L l
end
end Go.Sy
namespace Go.Sy
section
variable (P:Program) (S:bg)
theorem aY {α:Type} (f:Nat→α) (k:Nat) (v:α):aC f k v k=v:=by
 unfold aC
 rw [show Nat.beq k k=true from Nat.beq_refl k]; rfl
theorem br {α:Type} (f:Nat→α) {k i:Nat} (v:α) (h:i≠k):aC f k v i=f i:=by
 unfold aC
 cases e:Nat.beq i k with
 | true=>exact absurd (Nat.eq_of_beq_eq_true e) h
 | false=>rfl
def cW (m m':Loc):dZ S.C→dZ S.C→Prop
 | .cells _, .cells _=>m'=m
 | .cells _, .bU _=>m'=m
 | .bU _, .bU _=>m'=m
 | .arr e l, .arr e' l'=>m'=m∧e'=e∧l'.length=l.length
 | .arr e l, .bM e' l'=>m'=m∧e'=e∧l'.length=l.length
 | .bM e l, .bM e' l'=>m'=m∧e'=e∧l'.length=l.length
 | .tail, .tail=>m'=m
 | .bh _, .bh _=>m'=m
 | .cells _, .bh _=>m'=m
 | .bh _, .cells _=>m'=m
 | .buf l, .buf l'=>m'=m∧l'.length=l.length
 | _, .dead=>m'=m
 | _,_=>False
def ud:dZ S.C→Prop
 | .cells _ | .bh _=>True
 | _=>False
theorem S8 {m m':Loc} {B B':dZ S.C} (h:ud S B) (h':ud S B') (e:m'=m):cW S m m' B B':=by
 cases B <;> first | exact h.elim | (cases B' <;> first | exact h'.elim | exact e)
theorem cW.refl (m:Loc) (B:dZ S.C):cW S m m B B:=by cases B <;> simp [cW]
def aO (w0:World) (M0 s0:St) (bx:Bx S.C) (μ:Nat→Loc) (w:World):St:=
 fun b o=>b<w.heap.size∧(s0 b o∨M0 b o∨w0.heap.size≤b)∧ ∀ i,live S bx i→ ¬ (μ i).aN b o
structure Inv (w0:World) (M0 s0:St) (dq:List Deferred) (env:Env S.C) (a:Act) (w:World) (μ:Nat→Loc):Prop where
 j9: ∀ t,RV P S w (aO S w0 M0 s0 env.bx μ w) μ env.bx (env.tm t) (a.tmps.getD t Go.undef)
 cc: ∀ i B,env.bx i=some B→RB P S w (aO S w0 M0 s0 env.bx μ w) μ env.bx (μ i) B
 dK: ∀ i j,i≠j→live S env.bx i→live S env.bx j→ ∀ b o,(μ i).aN b o→(μ j).aN b o→False
 own: ∀ i,live S env.bx i→ ∀ b o,(μ i).aN b o→w0.heap.size≤b∨M0 b o
 ref: ∀ t i,i ∈ aI S (env.tm t)→env.bx i≠none
 lQ: ∀ i vs,(env.bx i=some (.cells vs)∨env.bx i=some (.bU vs))→ ∀ v ∈ vs, ∀ j ∈ aG S v,env.bx j≠none
 iZ:bq w0 w M0
 vn:a.defers=cond env.df dq []
 tF:js S w0 M0
theorem bI.step {w w':World} {s s':St} {μ μ':Nat→Loc} {bx aq:Bx S.C} (hl:bX w s w' s')
 (hc: ∀ i B0,bx i=some B0→ ∃ B,aq i=some B∧cW S (μ i) (μ' i) B0 B) {V:V S.C} {v:Value}
 (hr: ∀ i ∈ aG S V,bx i≠none) (h:bI P S w s μ bx V v):bI P S w' s' μ' aq V v:=by
 cases V with
 | undef=>trivial
 | skip=>exact h
 | d t x=>exact cy.mono S hl h
 | pr p i=>exact h
 | bk b e l=>
  refine ⟨cy.mono S hl h.1,fun hb=> ?_⟩
  obtain ⟨B0,bQ⟩:=Option.ne_none_iff_exists'.1 (hr b (by simp [aG]))
  obtain ⟨B,hB,cL⟩:=hc b B0 bQ
  rw [hb] at hB
  obtain rfl:=Option.some.inj hB
  cases B0 <;> simp only [cW] at cL
  rw [cL]
  exact h.2 bQ
 | aS b=>
  refine ⟨h.1,fun e l hb=> ?_⟩
  replace h:=h.2
  obtain ⟨B0,bQ⟩:=Option.ne_none_iff_exists'.1 (hr b (by simp [aG]))
  obtain ⟨B,hB,cL⟩:=hc b B0 bQ
  rcases hb with hb | hb <;>
  · rw [hb] at hB
    obtain rfl:=Option.some.inj hB
    cases B0 <;> simp only [cW] at cL
    all_goals
     obtain ⟨hm,rfl,hlen⟩:=cL
     rw [hm,hlen]
     first
     | exact h _ _ (.inl bQ)
     | exact h _ _ (.inr bQ)
 | pre b n=>
  refine ⟨h.1,fun e l hb=> ?_⟩
  replace h:=h.2
  obtain ⟨B0,bQ⟩:=Option.ne_none_iff_exists'.1 (hr b (by simp [aG]))
  obtain ⟨B,hB,cL⟩:=hc b B0 bQ
  rw [hb] at hB
  obtain rfl:=Option.some.inj hB
  cases B0 <;> simp only [cW] at cL
  obtain ⟨hm,rfl,hlen⟩:=cL
  rw [hm,hlen]
  exact h _ _ bQ
 | win b i n=>
  refine ⟨h.1,fun e l hb=> ?_⟩
  replace h:=h.2
  obtain ⟨B0,bQ⟩:=Option.ne_none_iff_exists'.1 (hr b (by simp [aG]))
  obtain ⟨B,hB,cL⟩:=hc b B0 bQ
  rw [hb] at hB
  obtain rfl:=Option.some.inj hB
  cases B0 <;> simp only [cW] at cL
  obtain ⟨hm,rfl,hlen⟩:=cL
  rw [hm,hlen]
  exact h _ _ bQ
 | ptr b off=>
  obtain ⟨B0,bQ⟩:=Option.ne_none_iff_exists'.1 (hr b (by simp [aG]))
  obtain ⟨B,hB,cL⟩:=hc b B0 bQ
  have hm:μ' b=μ b:=by
   cases B0 <;> cases B <;> simp only [cW] at cL <;> first | exact cL | exact cL.1
  show v=_
  rw [hm]
  exact h
 | cF b n=>
  obtain ⟨B0,bQ⟩:=Option.ne_none_iff_exists'.1 (hr b (by simp [aG]))
  obtain ⟨B,hB,cL⟩:=hc b B0 bQ
  have hm:μ' b=μ b:=by
   cases B0 <;> cases B <;> simp only [cW] at cL <;> first | exact cL | exact cL.1
  show v=_
  rw [hm]
  exact h
 | split b c=>
  have hm: ∀ i ∈ [b,c],μ' i=μ i:=fun i hb=>by
   obtain ⟨B0,bQ⟩:=Option.ne_none_iff_exists'.1 (hr i hb)
   obtain ⟨B,hB,cL⟩:=hc i B0 bQ
   cases B0 <;> cases B <;> simp only [cW] at cL <;> first | exact cL | exact cL.1
  obtain ⟨k,q,h1,h2,h3,h4⟩:=h
  rw [← hm c (by simp)] at h2
  rw [← hm b (by simp)] at h3 h4
  exact ⟨k,q,h1,h2.later hl,h3,h4⟩
 | mS c=>
  have hm:μ' c=μ c:=by
   obtain ⟨B0,bQ⟩:=Option.ne_none_iff_exists'.1 (hr c (by simp [aG]))
   obtain ⟨B,hB,cL⟩:=hc c B0 bQ
   cases B0 <;> cases B <;> simp only [cW] at cL <;> first | exact cL | exact cL.1
  obtain ⟨k,q,h1,h2⟩:=h
  rw [← hm] at h2
  exact ⟨k,q,h1,h2.later hl⟩
 | fK b i off=>
  refine ⟨h.1,fun e l hb=> ?_⟩
  replace h:=h.2
  obtain ⟨B0,bQ⟩:=Option.ne_none_iff_exists'.1 (hr b (by simp [aG]))
  obtain ⟨B,hB,cL⟩:=hc b B0 bQ
  rcases hb with hb | hb <;>
  · rw [hb] at hB
    obtain rfl:=Option.some.inj hB
    cases B0 <;> simp only [cW] at cL
    all_goals
     obtain ⟨hm,rfl,hlen⟩:=cL
     rw [hm,hlen]
     first
     | exact h _ _ (.inl bQ)
     | exact h _ _ (.inr bQ)
 | dL t x=>exact nD.mono S hl h
 | nil=>exact h
 | err b=>exact h
 | cO=>exact h
 | fv a r g=>exact nB.mono P S hl h
 | fX f vs=>exact h.elim
 | agg u vs=>exact h.elim
 | jq vs=>exact h.elim
theorem aQ.step {w w':World} {s s':St} {μ μ':Nat→Loc} {bx aq:Bx S.C} (hl:bX w s w' s')
 (hc: ∀ i B0,bx i=some B0→ ∃ B,aq i=some B∧cW S (μ i) (μ' i) B0 B): ∀ {vs:List (V S.C)} {cs:List Value},
 (∀ v ∈ vs, ∀ i ∈ aG S v,bx i≠none)→aQ P S w s μ bx vs cs→aQ P S w' s' μ' aq vs cs
 | [],_,_,h=>h
 | v::vs,_,hr,⟨c,r,h1,h2,h3⟩=>⟨c,r,h1,bI.step P S hl hc (hr v (by simp)) h2,aQ.step hl hc (fun v hv=>hr v (by simp [hv])) h3⟩
theorem RV.step {w w':World} {s s':St} {μ μ':Nat→Loc} {bx aq:Bx S.C} (hl:bX w s w' s')
 (hc: ∀ i B0,bx i=some B0→ ∃ B,aq i=some B∧cW S (μ i) (μ' i) B0 B) {V:V S.C} {v:Value}
 (hr: ∀ i ∈ aI S V,bx i≠none) (h:RV P S w s μ bx V v):RV P S w' s' μ' aq V v:=by
 cases V with
 | agg u vs=>
  obtain ⟨cs,h1,h2,h3,h4⟩:=h
  exact ⟨cs,h1,h2,h3,aQ.step P S hl hc (fun v hv i hi=>hr i (by simp only [aI,List.mem_flatMap]; exact ⟨v,hv,hi⟩)) h4⟩
 | jq vs=>
  obtain ⟨cs,h1,h4⟩:=h
  exact ⟨cs,h1,aQ.step P S hl hc (fun v hv i hi=>hr i (by simp only [aI,List.mem_flatMap]; exact ⟨v,hv,hi⟩)) h4⟩
 | fX f vs=>
  obtain ⟨cs,h1,h4⟩:=h
  exact ⟨cs,h1,aQ.step P S hl hc (fun v hv i hi=>hr i (by simp only [aI,List.mem_flatMap]; exact ⟨v,hv,hi⟩)) h4⟩
 | undef=>exact trivial
 | skip=>exact bI.step P S hl hc (V:= .skip) hr h
 | d t x=>exact bI.step P S hl hc (V:= .d t x) hr h
 | pr p i=>exact bI.step P S hl hc (V:= .pr p i) hr h
 | bk b e l=>exact bI.step P S hl hc (V:= .bk b e l) hr h
 | aS b=>exact bI.step P S hl hc (V:= .aS b) hr h
 | pre b n=>exact bI.step P S hl hc (V:= .pre b n) hr h
 | win b i n=>exact bI.step P S hl hc (V:= .win b i n) hr h
 | ptr b off=>exact bI.step P S hl hc (V:= .ptr b off) hr h
 | cF b n=>exact bI.step P S hl hc (V:= .cF b n) hr h
 | split b c=>exact bI.step P S hl hc (V:= .split b c) hr h
 | mS c=>exact bI.step P S hl hc (V:= .mS c) hr h
 | fK b i off=>exact bI.step P S hl hc (V:= .fK b i off) hr h
 | dL t x=>exact bI.step P S hl hc (V:= .dL t x) hr h
 | nil=>exact bI.step P S hl hc (V:= .nil) hr h
 | err b=>exact bI.step P S hl hc (V:= .err b) hr h
 | cO=>exact bI.step P S hl hc (V:= .cO) hr h
 | fv a r g=>exact bI.step P S hl hc (V:= .fv a r g) hr h
theorem aQ.length {w:World} {s:St} {μ:Nat→Loc} {bx:Bx S.C} : ∀ {vs:List (V S.C)} {cs:List Value},aQ P S w s μ bx vs cs→cs.length=vs.length
 | [],_,h=>by cases h; rfl
 | _::_,_,⟨c,r,h1,_,h3⟩=>by subst h1; simp [aQ.length h3]
theorem aQ.append {w:World} {s:St} {μ:Nat→Loc} {bx:Bx S.C} : ∀ {vs ws:List (V S.C)} {cs ds:List Value},aQ P S w s μ bx vs cs→aQ P S w s μ bx ws ds→aQ P S w s μ bx (vs++ws) (cs++ds)
 | [],_,_,_,h,h'=>by cases h; exact h'
 | _::_,_,_,ds,⟨c,r,h1,h2,h3⟩,h'=>⟨c,r++ds,by simp [h1],h2,aQ.append h3 h'⟩
theorem aQ.take {w:World} {s:St} {μ:Nat→Loc} {bx:Bx S.C} : ∀ (n:Nat) {vs:List (V S.C)} {cs:List Value},aQ P S w s μ bx vs cs→aQ P S w s μ bx (vs.take n) (cs.take n)
 | 0,_,_,_=>by simp [aQ]
 | _+1,[],_,h=>by cases h; simp [aQ]
 | n+1,_::_,_,⟨c,r,h1,h2,h3⟩=>⟨c,r.take n,by simp [h1],h2,aQ.take n h3⟩
theorem aQ.drop {w:World} {s:St} {μ:Nat→Loc} {bx:Bx S.C} : ∀ (n:Nat) {vs:List (V S.C)} {cs:List Value},aQ P S w s μ bx vs cs→aQ P S w s μ bx (vs.drop n) (cs.drop n)
 | 0,_,_,h=>h
 | _+1,[],_,h=>by cases h; simp [aQ]
 | n+1,_::_,_,⟨c,r,h1,h2,h3⟩=>by subst h1; exact aQ.drop n h3
theorem aQ.get {w:World} {s:St} {μ:Nat→Loc} {bx:Bx S.C} : ∀ {vs:List (V S.C)} {cs:List Value} (n:Nat) {v:V S.C},aQ P S w s μ bx vs cs→vs[n]? =some v→ ∃ c,cs[n]? =some c∧bI P S w s μ bx v c
 | [],_,_,_,_,hv=>by simp at hv
 | _::_,_,0,_,⟨c,r,h1,h2,h3⟩,hv=>by subst h1; simp at hv; subst hv; exact ⟨c,by simp,h2⟩
 | _::_,_,n+1,_,⟨c,r,h1,h2,h3⟩,hv=>by
  subst h1
  obtain ⟨c',iF,hr⟩:=aQ.get n h3 (by simpa using hv)
  exact ⟨c',by simpa using iF,hr⟩
theorem tn {w:World} {b o:Nat} {cs:Array Value} {T:TypeId} {fz:Nat×Nat} (h:w.heap[b]? =some (.cells cs T fz)):(w.cell? ⟨b,o,none⟩).isSome=true↔o<cs.size:=by
 rw [Lib.cell_of_heap h]; simp
theorem xD.cells {w:World} {b:Nat} {v:Value} (h:xD S w b v) {o:Nat} :(w.cell? ⟨b,o,none⟩).isSome=true↔o<2:=by
 obtain ⟨T,e,p,_,h,_⟩:=h
 exact tn h
theorem nA.row {w:World} {L:Loc} {l:List UInt8} (h:nA S w L l):L.n=0∧L.nil=true∧l= []∨ ∃ T e cur fz,S.bt=some (T,e)∧w.heap[L.b]? =some (.cells cur e fz)∧cur.size=L.n∧L.nil=false:=by
 obtain ⟨h1,h2,h3,T,e,h4,h5,h6⟩:=h
 rcases h6 with ⟨h6,h7⟩ | ⟨g,cap,cur,fz,h6, -,h7, -, -, -,h8, -⟩
 · unfold fJ at h6
   simp only [Value.slice.injEq] at h6
   obtain ⟨h6,_,h8⟩:=h6
   refine .inl ⟨by omega, ?_,List.length_eq_zero_iff.1 h7⟩
   cases hn:L.nil with
   | true=>rfl
   | false=>rw [hn] at h6; simp at h6
 · unfold fJ at h6
   simp only [Value.slice.injEq] at h6
   obtain ⟨h6,_,h9⟩:=h6
   cases hn:L.nil with
   | true=>rw [hn] at h6; simp at h6
   | false=>
    rw [hn] at h6
    simp at h6
    subst h6
    exact .inr ⟨T,e,cur,fz,h4,h7,by omega,rfl⟩
theorem mO {w:World} {s:St} {μ:Nat→Loc} {bx:Bx S.C} {i:Nat} (h: ∀ B,bx i=some B→RB P S w s μ bx (μ i) B) (hi:live S bx i) {b o:Nat} (hf:(μ i).aN b o):
 b<w.heap.size∧(w.cell? ⟨b,o,none⟩).isSome=true:=by
 have key:w.there (μ i).b (μ i).o (μ i).n→b<w.heap.size∧(w.cell? ⟨b,o,none⟩).isSome=true:=fun ht=>by
  obtain ⟨rfl,h1,h2⟩:=hf
  have :=(ht (o - (μ i).o) (by omega)).1
  rw [show (μ i).o+(o - (μ i).o)=o from by omega] at this
  obtain ⟨v,hv⟩:=Option.isSome_iff_exists.1 this
  exact ⟨World.block_lt_of_cell? w _ hv,this⟩
 unfold live at hi
 split at hi
 · rename_i vs hb; exact key (h _ hb).2.2.1
 · rename_i e l hb; exact key (h _ hb).2.2.2.1
 · rename_i hb; exact key (h _ hb)
 · rename_i j hb
   obtain ⟨h1,h2,_,v,h3,_⟩:=h _ hb
   obtain ⟨rfl,h4,h5⟩:=hf
   have :=(h3.cells S (o:=o)).2 (by omega)
   obtain ⟨v,hv⟩:=Option.isSome_iff_exists.1 this
   exact ⟨World.block_lt_of_cell? w _ hv,this⟩
 · rename_i l hb
   obtain ⟨rfl,h4,h5⟩:=hf
   have h1:nA S w (μ i) l:=h _ hb
   rcases h1.row with ⟨h2, -⟩ | ⟨T,e,cur,fz, -,h2,h3, -⟩
   · omega
   · have :=(tn (o:=o) h2).2 (by have :=h1.1; omega)
     obtain ⟨v,hv⟩:=Option.isSome_iff_exists.1 this
     exact ⟨World.block_lt_of_cell? w _ hv,this⟩
 · exact hi.elim
theorem eI {bx aq:Bx S.C} {i:Nat} (h:aq i=bx i):live S aq i↔live S bx i:=by unfold live; rw [h]
variable {P S}
theorem Inv.later {w0:World} {M0 s0:St} {dq:List Deferred} {env:Env S.C} {a:Act} {w:World} {μ:Nat→Loc} (h:Inv P S w0 M0 s0 dq env a w μ)
 {w':World} {T:St} {aq:Bx S.C} {μ':Nat→Loc} {U:Nat→Prop} (hw:bq w w' T)
 (hT: ∀ b o,T b o→b<w.heap.size→ ∃ i,U i∧live S env.bx i∧(μ i).aN b o)
 (hU: ∀ i, ¬ U i→aq i=env.bx i∧μ' i=μ i)
 (hf: ∀ i,U i→live S aq i→ ∀ b o,(μ' i).aN b o→w.heap.size≤b∨ ∃ j,U j∧live S env.bx j∧(μ j).aN b o):
 bX w (aO S w0 M0 s0 env.bx μ w) w' (aO S w0 M0 s0 aq μ' w'):=by
 intro b o ⟨h1,h2,h3⟩
 refine ⟨⟨Nat.lt_of_lt_of_le h1 hw.size,h2,fun i hi hfo=> ?_⟩, ?_⟩
 · by_cases hu:U i
   · rcases hf i hu hi b o hfo with hlt | ⟨j,_,hj,UU⟩
     · omega
     · exact h3 j hj UU
   · rw [eI S (hU i hu).1] at hi
     rw [(hU i hu).2] at hfo
     exact h3 i hi hfo
 · exact hw.cell b o h1 fun ht=>by
    obtain ⟨i,_,hi,hfo⟩:=hT b o ht h1
    exact h3 i hi hfo
theorem Inv.step {w0:World} {M0 s0:St} {dq:List Deferred} {env:Env S.C} {a:Act} {w:World} {μ:Nat→Loc} (h:Inv P S w0 M0 s0 dq env a w μ)
 {w':World} {T:St} {aq:Bx S.C} {μ':Nat→Loc} {U:Nat→Prop} (hw:bq w w' T)
 (hT: ∀ b o,T b o→b<w.heap.size→ ∃ i,U i∧live S env.bx i∧(μ i).aN b o)
 (hU: ∀ i, ¬ U i→aq i=env.bx i∧μ' i=μ i)
 (hf: ∀ i,U i→live S aq i→ ∀ b o,(μ' i).aN b o→w.heap.size≤b∨ ∃ j,U j∧live S env.bx j∧(μ j).aN b o)
 (hc: ∀ i B0,env.bx i=some B0→ ∃ B,aq i=some B∧cW S (μ i) (μ' i) B0 B)
 (hd: ∀ i j,U i→U j→i≠j→live S aq i→live S aq j→ ∀ b o,(μ' i).aN b o→(μ' j).aN b o→False)
 (hb: ∀ i B,U i→aq i=some B→RB P S w' (aO S w0 M0 s0 aq μ' w') μ' aq (μ' i) B)
 (hr: ∀ i vs,U i→(aq i=some (.cells vs)∨aq i=some (.bU vs))→ ∀ v ∈ vs, ∀ j ∈ aG S v,aq j≠none):
 Inv P S w0 M0 s0 dq { env with bx:=aq } a w' μ':=by
 have hl:=h.later hw hT hU hf
 have hne: ∀ i,env.bx i≠none→aq i≠none:=fun i hi=>by
  obtain ⟨B0,bQ⟩:=Option.ne_none_iff_exists'.1 hi
  obtain ⟨B,hB,_⟩:=hc i B0 bQ
  rw [hB]; simp
 have Lp: ∀ i j, ¬ U i→U j→live S aq i→live S aq j→ ∀ b o,(μ' i).aN b o→(μ' j).aN b o→False:=by
  intro i j hi hj li lj b o fi fj
  rw [eI S (hU i hi).1] at li
  rw [(hU i hi).2] at fi
  rcases hf j hj lj b o fj with hlt | ⟨k,hk,lk,fk⟩
  · exact absurd (mO P S (h.cc i) li fi).1 (by omega)
  · exact h.dK i k (fun e=>hi (e▸hk)) li lk b o fi fk
 refine ⟨fun t=>RV.step P S hl hc (h.ref t) (h.j9 t), ?_, ?_, ?_,fun t i hi=>hne i (h.ref t i hi), ?_, ?_,h.vn,h.tF⟩
 · intro i B hB
   by_cases hu:U i
   · exact hb i B hu hB
   · have iE:env.bx i=some B:=(hU i hu).1▸hB
     have hold:=h.cc i B iE
     rw [(hU i hu).2]
     have hcell:live S env.bx i→ ∀ o,(μ i).aN (μ i).b o→w'.cell? ⟨(μ i).b,o,none⟩=w.cell? ⟨(μ i).b,o,none⟩∧w'.frozen? ⟨(μ i).b,o,none⟩=w.frozen? ⟨(μ i).b,o,none⟩:=fun li o fo=>by
      have hlt:=(mO P S (h.cc i) li fo).1
      exact ⟨hw.cell _ _ hlt fun ht=>by
       obtain ⟨j,uj,lj,fj⟩:=hT _ _ ht hlt
       exact h.dK i j (fun e=>hu (e▸uj)) li lj _ _ fo fj,hw.Bj _ _ hlt fun ht=>by
       obtain ⟨j,uj,lj,fj⟩:=hT _ _ ht hlt
       exact h.dK i j (fun e=>hu (e▸uj)) li lj _ _ fo fj⟩
     have vE:live S env.bx i→(∀ o,(w.cell? ⟨(μ i).b,o,none⟩).isSome=true→(μ i).aN (μ i).b o)→(μ i).b<w.heap.size→w'.heap[(μ i).b]? =w.heap[(μ i).b]? :=fun li hin hlt=>
      hw.same _ hlt fun o ht=>by
       obtain ⟨j,uj,lj,fj⟩:=hT _ _ ht hlt
       exact h.dK i j (fun e=>hu (e▸uj)) li lj _ _ (hin o (mO P S (h.cc j) lj fj).2) fj
     have yW:live S env.bx i→w.there (μ i).b (μ i).o (μ i).n→w'.there (μ i).b (μ i).o (μ i).n:=fun li ht j hj=>by
      obtain ⟨c1,c2⟩:=hcell li ((μ i).o+j) ⟨rfl,by omega,by omega⟩
      rw [c1,c2]; exact ht j hj
     have LV:live S env.bx i→ ∀ o cs,(μ i).o≤o→o+cs.length≤(μ i).o+(μ i).n→w.rangeAt (μ i).b o cs→w'.rangeAt (μ i).b o cs:=fun li o cs h1 h2 d_ j v hj=>by
      have hjl:=(List.getElem?_eq_some_iff.1 hj).1
      rw [(hcell li (o+j) ⟨rfl,by omega,by omega⟩).1]
      exact d_ j v hj
     cases B with
     | cells vs=>
      have li:live S env.bx i:=by unfold live; rw [iE]; trivial
      obtain ⟨h1,h2,h3,cs,h4,h5⟩:=hold
      have hlen:=aQ.length P S h5
      exact ⟨h1,h2,yW li h3,cs,LV li _ _ (Nat.le_refl _) (by omega) h4,aQ.step P S hl hc (h.lQ i vs (.inl iE)) h5⟩
     | bU vs=>
      obtain ⟨h1,cs,h4,h5⟩:=hold
      exact ⟨h1,cs,h4.later hl,aQ.step P S hl hc (h.lQ i vs (.inr iE)) h5⟩
     | arr e l=>
      have li:live S env.bx i:=by unfold live; rw [iE]; trivial
      obtain ⟨h1,h2,h3,h4,h5⟩:=hold
      refine ⟨h1,h2,h3,yW li h4,fun k x hk=> ?_⟩
      obtain ⟨ds,hds,d_,n,ko⟩:=h5 k x hk
      have hkl:=(List.getElem?_eq_some_iff.1 hk).1
      refine ⟨ds,hds,LV li _ _ (by omega) ?_ d_,n,ko.mono S hl (Nat.le_refl _)⟩
      have :(k+1)*Ty.sz S e≤(μ i).cap*Ty.sz S e:=Nat.mul_le_mul_right _ (by omega)
      rw [Nat.add_mul,Nat.one_mul] at this
      omega
     | bM e l=>
      obtain ⟨h2,h3,h5⟩:=hold
      refine ⟨h2,h3,fun k x hk=> ?_⟩
      obtain ⟨ds,hds,d_,n,ko⟩:=h5 k x hk
      exact ⟨ds,hds,d_.later hl,n,ko.mono S hl (Nat.le_refl _)⟩
     | tail=>
      have li:live S env.bx i:=by unfold live; rw [iE]; trivial
      exact yW li hold
     | dead=>trivial
     | bh k=>
      have li:live S env.bx i:=by unfold live; rw [iE]; trivial
      obtain ⟨h1,h2,h3,v,h4,h5⟩:=hold
      have hlt:(μ i).b<w.heap.size:=by
       obtain ⟨v,hv⟩:=Option.isSome_iff_exists.1 ((h4.cells S (o:=0)).2 (by omega))
       exact World.block_lt_of_cell? w _ hv
      have hb:=vE li (fun o ho=>by have :=(h4.cells S).1 ho; exact ⟨rfl,by omega,by omega⟩) hlt
      refine ⟨h1,h2,hne k h3,v, ?_,fun l hl'=> ?_⟩
      · obtain ⟨T,e,p,q1,q2,q3⟩:=h4
        exact ⟨T,e,p,q1,hb.trans q2,q3⟩
      · obtain ⟨B0,bQ⟩:=Option.ne_none_iff_exists'.1 h3
        obtain ⟨B1,lg,cL⟩:=hc k B0 bQ
        have hl':aq k=some (.buf l):=hl'
        rw [hl'] at lg
        cases lg
        cases B0 <;> simp only [cW] at cL
        obtain ⟨hm,hlen⟩:=cL
        rw [hm,hlen]
        exact h5 _ bQ
     | buf l=>
      have li:live S env.bx i:=by unfold live; rw [iE]; trivial
      have hold:nA S w (μ i) l:=hold
      rcases hold.row with ⟨q1,q2,q3⟩ | ⟨T,e,cur,fz,q1,q2,q3,q4⟩
      · obtain ⟨r1,r2,r3,T,e,r4,r5⟩:=hold
        refine ⟨r1,r2,r3,T,e,r4, ?_⟩
        subst q3
        have hv:fJ (μ i) ([]:List UInt8).length= .slice none 0 0:=by unfold fJ; rw [q2,r3 q2]; rfl
        rw [hv]
        exact World.ownsRowF_nil ..
      · have hlt:(μ i).b<w.heap.size:=(Array.getElem?_eq_some_iff.1 q2).1
        have hb:=vE li (fun o ho=>by have :=(tn q2).1 ho; exact ⟨rfl,by have :=hold.1; omega,by have :=hold.1; omega⟩) hlt
        obtain ⟨r1,r2,r3,T',e',r4,r5,r6⟩:=hold
        refine ⟨r1,r2,r3,T',e',r4,r5, ?_⟩
        rcases r6 with r6 | ⟨g,cap,cur',mK,r6,r7,r8,r9⟩
        · exact .inl r6
        · have hg:g=(μ i).b:=by
           unfold fJ at r6
           rw [q4] at r6
           simp at r6
           exact r6.1.symm
          subst hg
          exact .inr ⟨_,cap,cur',mK,r6,r7,hb.trans r8,r9⟩
 · intro i j hij li lj b o fi fj
   by_cases hi:U i
   · by_cases hj:U j
     · exact hd i j hi hj hij li lj b o fi fj
     · exact Lp j i hj hi lj li b o fj fi
   · by_cases hj:U j
     · exact Lp i j hi hj li lj b o fi fj
     · have l1:=(eI S (hU i hi).1).1 li
       have l2:=(eI S (hU j hj).1).1 lj
       rw [(hU i hi).2] at fi
       rw [(hU j hj).2] at fj
       exact h.dK i j hij l1 l2 b o fi fj
 · intro i li b o fi
   by_cases hi:U i
   · rcases hf i hi li b o fi with hlt | ⟨j,_,lj,fj⟩
     · exact .inl (Nat.le_trans h.iZ.size hlt)
     · exact h.own j lj b o fj
   · have l1:=(eI S (hU i hi).1).1 li
     rw [(hU i hi).2] at fi
     exact h.own i l1 b o fi
 · intro i vs hvs v hv j hj
   by_cases hu:U i
   · exact hr i vs hu hvs v hv j hj
   · have y5:aq i=some (.cells vs)∨aq i=some (.bU vs):=hvs
     rw [(hU i hu).1] at y5
     exact hne j (h.lQ i vs y5 v hv j hj)
 · refine h.iZ.trans hw (fun _ _ h=>h) fun b o hb ht=> ?_
   obtain ⟨i,_,li,fi⟩:=hT b o ht (Nat.lt_of_lt_of_le hb h.iZ.size)
   rcases h.own i li b o fi with hlt | hm
   · omega
   · exact hm
theorem Inv.put {w0:World} {M0 s0:St} {dq:List Deferred} {env:Env S.C} {a:Act} {w:World} {μ:Nat→Loc} (h:Inv P S w0 M0 s0 dq env a w μ) {dst:Option Nat} {V:V S.C} {v:Value}
 (hd: ∀ d,dst=some d→d<a.tmps.size) (hv:RV P S w (aO S w0 M0 s0 env.bx μ w) μ env.bx V v) (hr: ∀ i ∈ aI S V,env.bx i≠none):
 Inv P S w0 M0 s0 dq { env with tm:=xd env.tm dst V } (a.put dst v) w μ:=by
 cases dst with
 | none=>exact h
 | some d=>
  have hlt:=hd d rfl
  refine ⟨fun t=> ?_,h.cc,h.dK,h.own,fun t i hi=> ?_,h.lQ,h.iZ,h.vn,h.tF⟩
  · show RV P S w _ μ env.bx (aC env.tm d V t) ((a.tmps.setIfInBounds d v).getD t Go.undef)
    by_cases e:t=d
    · subst e
      have :(a.tmps.setIfInBounds t v).getD t Go.undef=v:=by simp [Array.getD,hlt]
      rw [this,show aC env.tm t V t=V from aY _ _ _]
      exact hv
    · have :(a.tmps.setIfInBounds d v).getD t Go.undef=a.tmps.getD t Go.undef:=by
       simp [Array.getElem?_setIfInBounds_ne (Ne.symm e)]
      rw [this,show aC env.tm d V t=env.tm t from br _ _ e]
      exact h.j9 t
  · have hi':i ∈ aI S (aC env.tm d V t):=hi
    by_cases e:t=d
    · subst e
      rw [show aC env.tm t V t=V from aY _ _ _] at hi'
      exact hr i hi'
    · rw [show aC env.tm d V t=env.tm t from br _ _ e] at hi'
      exact h.ref t i hi'
end
end Go.Sy
namespace Go.Sy
structure dm (S:bg):Prop where
  flat: ∀ u,(S.F u).all (fun t=> !bA t)=true
  vq: ∀ u y,S.ex u (S.im u y)=y
section
variable (P:Program) (S:bg)
def Qc (w:World) (s M:St) (e:Ty) (l:List (e.den S.C)) (cs:List Value):Prop:=
  ∃ a cap L,cs= [.slice a l.length cap]∧qC L a l.length cap (Ty.sz S e)∧w.there L.b L.o L.n∧(∀ b o,M b o↔L.aN b o)∧
    ∀ (i:Nat) (x:e.den S.C),l[i]? =some x→ ∃ ds,ds.length=Ty.sz S e∧w.rangeAt L.b (L.o+i*Ty.sz S e) ds∧ ∃ n,aM S w s n e x ds
def Qo (w:World) (s M:St) (e:Ty) (l:List (e.den S.C)) (cs:List Value):Prop:=
  ∃ a cap L,cs= [.slice a l.length cap]∧(∃ n,aM S w s n (.sl e) l cs)∧IN L a l.length cap (Ty.sz S e)∧w.there L.b L.o L.n∧ ∀ b o,M b o↔L.aN b o
def mc (w:World) (s M:St):(c:CK)→c.den S.C→List Value→Prop
  | .data t,x,cs=>iT M∧ ∃ n,aM S w s n t x cs
  | .bk e,l,cs=>Qo S w s M e l cs
  | .aS e,l,cs=>Qc S w s M e l cs
def iS (w:World) (s:St):(M:St)→(cs:List CK)→bH S.C cs→List Value→Prop
  | M,[],_,vs=>iT M∧vs= []
  | M,c::cs,x,vs=> ∃ M1 M2 Dw PB,iU M M1 M2∧vs=Dw++PB∧Dw.length=CK.sz S c∧mc S w s M1 c (bH.head x) Dw∧iS w s M2 cs (bH.tail x) PB
def eD (w:World) (s M:St) (cs:List CK) (x:bH S.C cs) (v:Value):Prop:=
  ∃ b o ds M',v= .pointer (some ⟨b,o,none⟩)∧w.there b o ds.length∧w.rangeAt b o ds∧
    iU M (fun b' o'=>b'=b∧o≤o'∧o'<o+ds.length) M'∧iS S w s M' cs x ds
def P7 (w:World) (s M:St) (cs:List CK) (x:bH S.C cs) (v:Value):Prop:=
  ∃ p,v= .slice (some p) (CK.cz S cs) (CK.cz S cs)∧eD S w s M cs x (.pointer (some p))
def oP (w:World) (M:St) (l:List UInt8) (v:Value):Prop:=
  ∃ b L,v= .pointer (some ⟨b,0,none⟩)∧xD S w b (fJ L l.length)∧nA S w L l∧iU M (Loc.mk b 0 2 0 false).aN L.aN
def Qj (w:World) (s M:St) (t:Ty) (cs:List CK) (x:t.den S.C×bH S.C cs) (v:Value):Prop:=
  ∃ b o p M1 M2,v= .pointer (some ⟨b,o,none⟩)∧At w s b o [.pointer (some p)]∧iU M M1 M2∧eD S w s M1 [.data t] x.1 (.pointer (some p))∧eD S w s M2 cs x.2 (.pointer (some ⟨b,o+1,none⟩))
def nC (w:World) (s M:St):(k:K)→k.den S.C→Value→Prop
  | .val c,x,v=>mc S w s M c x v.cells.toList∧isAgg v=(match c with | .data t=>bA t | _=>false)
  | .obj cs,x,v=>eD S w s M cs x v
  | .opt cs,x,v=>match (x:Option (bH S.C cs)) with
    | none=>iT M∧v= .pointer none
    | some y=>eD S w s M cs y v
  | .nil,_,v=>iT M∧v= .pointer none
  | .ro t,x,v=>iT M∧nD S w s t x v
  | .fn a r,g,v=>iT M∧nB P S w s a r g v
  | .cF cs,x,v=>P7 S w s M cs x v
  | .err,x,v=>iT M∧xI x v
  | .bh,x,v=>oP S w M x v
  | .bZ t cs,x,v=>Qj S w s M t cs x v
def b_ (w:World) (s:St):(M:St)→(ks:List K)→Ks S.C ks→List Value→Prop
  | M,[],_,vs=>iT M∧vs= []
  | M,k::ks,x,vs=> ∃ M1 M2 v r,iU M M1 M2∧vs=v::r∧nC P S w s M1 k (Ks.head x) v∧b_ w s M2 ks (Ks.tail x) r
theorem mc.mono {w:World} {s s' M:St} (hl:bX w s w s') {c:CK} {x:c.den S.C} {cs:List Value} (h:mc S w s M c x cs):mc S w s' M c x cs:=by
  cases c with
  | data t=>exact ⟨h.1,h.2.imp fun _ hn=>hn.mono S hl (Nat.le_refl _)⟩
  | bk e=>
    obtain ⟨a,cap,L,h1,⟨n,h2⟩,h3,h4,h5⟩:=h
    exact ⟨a,cap,L,h1,⟨n,h2.mono S hl (Nat.le_refl _)⟩,h3,h4,h5⟩
  | aS e=>
    obtain ⟨a,cap,L,h1,h2,h3,h4,h5⟩:=h
    refine ⟨a,cap,L,h1,h2,h3,h4,fun i y hi=> ?_⟩
    obtain ⟨ds,d1,d2,n,d3⟩:=h5 i y hi
    exact ⟨ds,d1,d2,n,d3.mono S hl (Nat.le_refl _)⟩
theorem iS.mono {w:World} {s s':St} (hl:bX w s w s'): ∀ {M:St} {cs:List CK} {x:bH S.C cs} {vs:List Value},iS S w s M cs x vs→iS S w s' M cs x vs
  | _,[],_,_,h=>h
  | _,_::_,_,_,⟨M1,M2,v1,v2,h1,h2,h3,h4,h5⟩=>⟨M1,M2,v1,v2,h1,h2,h3,h4.mono S hl,iS.mono hl h5⟩
theorem eD.mono {w:World} {s s' M:St} (hl:bX w s w s') {cs:List CK} {x:bH S.C cs} {v:Value} (h:eD S w s M cs x v):eD S w s' M cs x v:=by
  obtain ⟨b,o,ds,M',h1,h2,h3,h4,h5⟩:=h
  exact ⟨b,o,ds,M',h1,h2,h3,h4,h5.mono S hl⟩
theorem nC.mono {w:World} {s s' M:St} (hl:bX w s w s') {k:K} {x:k.den S.C} {v:Value} (h:nC P S w s M k x v):nC P S w s' M k x v:=by
  cases k with
  | val c=>exact ⟨h.1.mono S hl,h.2⟩
  | obj cs=>exact eD.mono S hl h
  | opt cs=>
    cases x with
    | none=>exact h
    | some y=>exact eD.mono S hl h
  | nil=>exact h
  | ro t=>exact ⟨h.1,h.2.mono S hl⟩
  | fn a r=>exact ⟨h.1,h.2.mono P S hl⟩
  | cF cs=>
    obtain ⟨p,h1,h2⟩:=h
    exact ⟨p,h1,eD.mono S hl h2⟩
  | err=>exact h
  | bh=>exact h
  | bZ t cs=>
    obtain ⟨b,o,p,M1,M2,h1,h2,h3,h4,h5⟩:=h
    exact ⟨b,o,p,M1,M2,h1,h2.later hl,h3,eD.mono S hl h4,eD.mono S hl h5⟩
theorem b_.mono {w:World} {s s':St} (hl:bX w s w s'): ∀ {M:St} {ks:List K} {x:Ks S.C ks} {vs:List Value},b_ P S w s M ks x vs→b_ P S w s' M ks x vs
  | _,[],_,_,h=>h
  | _,_::_,_,_,⟨M1,M2,v,r,h1,h2,h3,h4⟩=>⟨M1,M2,v,r,h1,h2,h3.mono P S hl,b_.mono hl h4⟩
def iw (w:World) (s:St):(ts:List Ty)→ay S.C ts→List Value→Prop
  | [],_,vs=>vs= []
  | t::ts,x,vs=> ∃ v r,vs=v::r∧nD S w s t (ay.head x) v∧iw w s ts (ay.tail x) r
def eZ (e:iy S):Prop:=jM P e.f∧ ∀ (w:World) (s:St) (x:ay S.C e.a) (c:ay S.C e.c) (y:ay S.C e.r) (args caps:List Value),
  ID S w→gk S w s e.a x args→iw S w s e.c c caps→e.sp x c=some y→
  Calls P e.f (args++caps).toArray w fun en w'=> ∃ us,en= .returned (lS us)∧bq w w' (fun _ _=>False)∧gk S w' (grown s w w') e.r y us
def Tk (bx aq:Bx S.C):Prop:= ∀ i,aq i=bx i∨(aq i=some .dead∧live S bx i)∨ ∃ e l,bx i=some (.arr e l)∧aq i=some (.bM e l)
theorem Tk.refl (bx:Bx S.C):Tk S bx bx:=fun _=> .inl rfl
theorem Tk.trans {bx aq jQ:Bx S.C} (h:Tk S bx aq) (h':Tk S aq jQ):Tk S bx jQ:=by
  intro i
  rcases h' i with e | ⟨e,l⟩ | ⟨e,l,h1,h2⟩
  · rw [e]; exact h i
  · rcases h i with e' | ⟨e',l'⟩ | ⟨e',l',h1,h2⟩
    · exact .inr (.inl ⟨e,(eI S e').1 l⟩)
    · exact .inr (.inl ⟨e,l'⟩)
    · exact .inr (.inl ⟨e,by unfold live; rw [h1]; trivial⟩)
  · rcases h i with e' | ⟨e',l'⟩ | ⟨e',l',h3,h4⟩
    · exact .inr (.inr ⟨e,l,e'▸h1,h2⟩)
    · rw [e'] at h1; cases h1
    · rw [h4] at h1; cases h1
def cA (w0:World) (M0 s0:St) (gp bx:Bx S.C) (μ:Nat→Loc) (w:World):St:=
  fun b o=>b<w.heap.size∧(s0 b o∨M0 b o∨w0.heap.size≤b)∧ ∀ i,live S gp i→(∃ e l,bx i=some (.bM e l))∨ ¬ (μ i).aN b o
theorem oG (w0:World) (M0 s0:St) (gp bx:Bx S.C) (μ:Nat→Loc) (w:World):bX w (aO S w0 M0 s0 gp μ w) w (cA S w0 M0 s0 gp bx μ w):=
  fun b o ⟨h1,h2,h3⟩=>⟨⟨h1,h2,fun i hi=> .inr (h3 i hi)⟩,rfl⟩
theorem xu {w0:World} {M0 s0:St} {gp bx aq:Bx S.C} {μ:Nat→Loc} {w:World} (h:Tk S bx aq):bX w (cA S w0 M0 s0 gp bx μ w) w (cA S w0 M0 s0 gp aq μ w):=
  fun b o ⟨h1,h2,h3⟩=>⟨⟨h1,h2,fun i hi=>(h3 i hi).imp (fun ⟨e,l,hb⟩=>by
    rcases h i with e' | ⟨_,l'⟩ | ⟨e',l',h1,_⟩
    · exact ⟨e,l,e'.trans hb⟩
    · unfold live at l'; rw [hb] at l'; exact l'.elim
    · rw [hb] at h1; cases h1) id⟩,rfl⟩
variable {P S}
theorem iw.mono {w w':World} {s s':St} (hl:bX w s w' s'): ∀ (ts:List Ty) (x:ay S.C ts) (vs:List Value),iw S w s ts x vs→iw S w' s' ts x vs
  | [],_,_,h=>h
  | _::ts,_,_,⟨v,r,h1,h2,h3⟩=>⟨v,r,h1,h2.mono S hl,iw.mono hl ts _ _ h3⟩
theorem eG {t u:Ty} {x:t.den S.C} {y:u.den S.C} (h:eV S t u x=some y): ∃ e:t=u,e▸x=y:=by
  unfold eV at h
  split at h
  · rename_i e; exact ⟨e,Option.some.inj h⟩
  · cases h
theorem aM.mB {t:Ty} {v:Value} (h:isAgg v=bA t) (ht:bA t=false):v.cells.toList= [v]:=by
  rw [ht] at h
  cases v <;> first | rfl | simp [isAgg] at h
theorem Tk.Py {bx:Bx S.C} {b:Nat} {e:Ty} {l:List (e.den S.C)} (h:bx b=some (.arr e l)):Tk S bx (aC bx b (some (.bM e l))):=fun i=>by
  by_cases hi:i=b
  · subst hi; exact .inr (.inr ⟨e,l,h,aY _ _ _⟩)
  · exact .inl (br _ _ hi)
theorem Tk.xA {bx:Bx S.C} {b:Nat} (h:live S bx b):Tk S bx (aC bx b (some .dead)):=fun i=>by
  by_cases hi:i=b
  · subst hi; exact .inr (.inl ⟨aY _ _ _,h⟩)
  · exact .inl (br _ _ hi)
theorem Tk.cY (bx:Bx S.C) (v:V S.C):Tk S bx (aD bx (cY S bx v)):=by
  cases v with
  | aS b=>
    unfold Sy.cY
    dsimp only
    split
    · rename_i e l hb; exact Tk.Py hb
    · exact Tk.refl S bx
  | _=>exact Tk.refl S bx
theorem jL (bx:Bx S.C) (us vs:aR S.C):aD bx (us++vs)=aD (aD bx us) vs:=by
  induction us generalizing bx with
  | nil=>rfl
  | cons u us ih=>exact ih _
theorem KS (bx aq:Bx S.C) (h: ∀ i,aq i=bx i∨ ∃ e l,bx i=some (.arr e l)∧aq i=some (.bM e l)) (v:V S.C):
    (∀ i,aD aq (cY S bx v) i=bx i∨ ∃ e l,bx i=some (.arr e l)∧aD aq (cY S bx v) i=some (.bM e l))∧Tk S aq (aD aq (cY S bx v)):=by
  have qv:(∀ i,aD aq [] i=bx i∨ ∃ e l,bx i=some (.arr e l)∧aD aq [] i=some (.bM e l))∧Tk S aq (aD aq []):=⟨h,Tk.refl S aq⟩
  cases v with
  | aS b=>
    unfold Sy.cY
    dsimp only
    split
    · rename_i e l hb
      refine ⟨fun i=> ?_,fun i=> ?_⟩ <;>
      · show _∨_
        by_cases hi:i=b
        · subst hi
          have e1:aD aq [(i, .bM e l)] i=some (.bM e l):=aY _ _ _
          first
          | exact .inr ⟨e,l,hb,e1⟩
          | (rcases h i with h1 | ⟨e',l',h1,h2⟩
             · exact .inr (.inr ⟨e,l,h1.trans hb,e1⟩)
             · rw [hb] at h1
               cases h1
               exact .inl (e1.trans h2.symm))
        · have e1:aD aq [(b, .bM e l)] i=aq i:=br _ _ hi
          first
          | (rw [e1]; exact h i)
          | exact .inl e1
    · exact qv
  | _=>exact qv
theorem yD (bx:Bx S.C): ∀ (vs:List (V S.C)) (aq:Bx S.C),(∀ i,aq i=bx i∨ ∃ e l,bx i=some (.arr e l)∧aq i=some (.bM e l))→
    (∀ i,aD aq (vs.flatMap (cY S bx)) i=bx i∨ ∃ e l,bx i=some (.arr e l)∧aD aq (vs.flatMap (cY S bx)) i=some (.bM e l))∧Tk S aq (aD aq (vs.flatMap (cY S bx)))
  | [],aq,h=>⟨h,Tk.refl S aq⟩
  | v::vs,aq,h=>by
    simp only [List.flatMap_cons,jL]
    obtain ⟨h1,h2⟩:=KS bx aq h v
    obtain ⟨h3,h4⟩:=yD bx vs _ h1
    exact ⟨h3,h2.trans S h4⟩
end
end Go.Sy
namespace Go.Sy
section
variable {P:Program} {S:bg}
variable {w0:World} {M0 s0:St} {dq:List Deferred} {env:Env S.C} {a:Act} {w:World} {μ:Nat→Loc}
theorem Tk.eo {bx aq:Bx S.C} (h:Tk S bx aq) {i:Nat} (hl:live S aq i):aq i=bx i:=by
 rcases h i with e | ⟨e,_⟩ | ⟨e,l,_,e'⟩
 · exact e
 · unfold live at hl; rw [e] at hl; exact hl.elim
 · unfold live at hl; rw [e'] at hl; exact hl.elim
theorem Fb (h:Inv P S w0 M0 s0 dq env a w μ) {bx:Bx S.C} (hk:Tk S env.bx bx) {b:Nat} {e:Ty} {l:List (e.den S.C)} (hb:bx b=some (.bM e l)) {v:Value}
 (hv:bI P S w (aO S w0 M0 s0 env.bx μ w) μ env.bx (.aS b) v): ∃ n,aM S w (cA S w0 M0 s0 env.bx bx μ w) n (.sl e) l [v]:=by
 have hl:=oG S w0 M0 s0 env.bx bx μ w
 have key:(∃ n, ∀ (i:Nat) (x:e.den S.C),l[i]? =some x→ ∃ ds,ds.length=Ty.sz S e∧At w (cA S w0 M0 s0 env.bx bx μ w) (μ b).b ((μ b).o+i*Ty.sz S e) ds∧aM S w (cA S w0 M0 s0 env.bx bx μ w) n e x ds)→
  (∃ a cap,v= .slice a l.length cap∧qC (μ b) a l.length cap (Ty.sz S e))→ ∃ n,aM S w (cA S w0 M0 s0 env.bx bx μ w) n (.sl e) l [v]:=by
  rintro ⟨n,hel⟩ ⟨a,cap,rfl,ha⟩
  refine ⟨n+1,a,cap,rfl,ha.fits, ?_⟩
  by_cases hn:(μ b).nil=true
  · exact .inl (by have :=ha.isNil hn; have :=ha.mA; have :=ha.fits; show l.length=0; omega)
  · refine .inr ⟨(μ b).b,(μ b).o,by rw [ha.addr]; simp [hn],fun i x hi=> ?_⟩
    exact hel i x hi
 have bound:(∀ (i:Nat) (x:e.den S.C),l[i]? =some x→ ∃ ds,ds.length=Ty.sz S e∧At w (cA S w0 M0 s0 env.bx bx μ w) (μ b).b ((μ b).o+i*Ty.sz S e) ds∧ ∃ n,aM S w (cA S w0 M0 s0 env.bx bx μ w) n e x ds)→
  ∃ n, ∀ (i:Nat) (x:e.den S.C),l[i]? =some x→ ∃ ds,ds.length=Ty.sz S e∧At w (cA S w0 M0 s0 env.bx bx μ w) (μ b).b ((μ b).o+i*Ty.sz S e) ds∧aM S w (cA S w0 M0 s0 env.bx bx μ w) n e x ds:=by
  intro hall
  have : ∀ m,m≤l.length→ ∃ n, ∀ (i:Nat) (x:e.den S.C),i<m→l[i]? =some x→ ∃ ds,ds.length=Ty.sz S e∧At w (cA S w0 M0 s0 env.bx bx μ w) (μ b).b ((μ b).o+i*Ty.sz S e) ds∧aM S w (cA S w0 M0 s0 env.bx bx μ w) n e x ds:=by
   intro m
   induction m with
   | zero=>exact fun _=>⟨0,fun i x hi=>by omega⟩
   | succ m ih=>
    intro hm
    obtain ⟨n,hn⟩:=ih (by omega)
    obtain ⟨ds,h1,h2,n',h3⟩:=hall m l[m] (by simp)
    refine ⟨max n n',fun i x hi hx=> ?_⟩
    by_cases e:i=m
    · subst e
      have :x=l[i]:=by simpa [List.getElem?_eq_getElem (show i<l.length by omega)] using hx.symm
      subst this
      exact ⟨ds,h1,h2,h3.up S (by omega)⟩
    · obtain ⟨ds,h1,h2,h3⟩:=hn i x (by omega) hx
      exact ⟨ds,h1,h2,h3.up S (by omega)⟩
  obtain ⟨n,hn⟩:=this l.length (Nat.le_refl _)
  exact ⟨n,fun i x hx=>hn i x (List.getElem?_eq_some_iff.1 hx).1 hx⟩
 rcases hk b with e1 | ⟨e1,_⟩ | ⟨e',l',e1,e2⟩
 · rw [hb] at e1
   obtain ⟨_,_,h3⟩:=h.cc b _ e1.symm
   refine key (bound fun i x hi=> ?_) (hv.2 e l (.inr e1.symm))
   obtain ⟨ds,d1,d2,n,d3⟩:=h3 i x hi
   exact ⟨ds,d1,d2.later hl,n,d3.mono S hl (Nat.le_refl _)⟩
 · rw [hb] at e1; cases e1
 · rw [hb] at e2
   cases e2
   have cg:live S env.bx b:=by unfold live; rw [e1]; trivial
   obtain ⟨g1,g2,g3,g4,h3⟩:=h.cc b _ e1
   refine key (bound fun i x hi=> ?_) (hv.2 e l (.inl e1))
   obtain ⟨ds,d1,d2,n,d3⟩:=h3 i x hi
   refine ⟨ds,d1,fun j u hj=>⟨d2 j u hj, ?_⟩,n,d3.mono S hl (Nat.le_refl _)⟩
   have hj':=(List.getElem?_eq_some_iff.1 hj).1
   have vJ:=(List.getElem?_eq_some_iff.1 hi).1
   have jc:(μ b).aN (μ b).b ((μ b).o+i*Ty.sz S e+j):=by
    refine ⟨rfl,by omega, ?_⟩
    have :(i+1)*Ty.sz S e≤(μ b).cap*Ty.sz S e:=Nat.mul_le_mul_right _ (by omega)
    rw [Nat.add_mul,Nat.one_mul] at this
    omega
   refine ⟨(mO P S (h.cc b) cg jc).1,(h.own b cg _ _ jc).elim (fun h=> .inr (.inr h)) (fun h=> .inr (.inl h)),fun k hk'=> ?_⟩
   by_cases ek:k=b
   · subst ek; exact .inl ⟨e,l,hb⟩
   · exact .inr fun hf=>h.dK k b ek hk' cg _ _ hf jc
theorem D9 (h:Inv P S w0 M0 s0 dq env a w μ) {bx aq:Bx S.C} (hk:Tk S env.bx bx) (hk':Tk S bx aq) {t:Ty} (ht:bA t=false) {V:V S.C} {v:Value} {x:t.den S.C}
 (hf: ∀ b e (l:List (e.den S.C)),V= .aS b→bx b=some (.arr e l)→aq b=some (.bM e l))
 (hv:bI P S w (aO S w0 M0 s0 env.bx μ w) μ env.bx V v) (hx:dn S bx t V=some x): ∃ n,aM S w (cA S w0 M0 s0 env.bx aq μ w) n t x [v]:=by
 have hl:=oG S w0 M0 s0 env.bx aq μ w
 have hd: ∀ (u:Ty) (y:u.den S.C),cy S w (aO S w0 M0 s0 env.bx μ w) u y v→eV S u t y=some x→ ∃ n,aM S w (cA S w0 M0 s0 env.bx aq μ w) n t x [v]:=by
  intro u y hr hc
  obtain ⟨rfl,rfl⟩:=eG hc
  obtain ⟨h1,n,hn⟩:=hr
  rw [aM.mB h1 ht] at hn
  exact ⟨n,hn.mono S hl (Nat.le_refl _)⟩
 cases V with
 | d u y=>exact hd u y hv hx
 | pr p i=>
  obtain ⟨rfl,rfl⟩:=eG hx
  cases hv
  exact ⟨1,rfl⟩
 | bk b e l=>exact hd (.sl e) l hv.1 hx
 | cO=>
  cases t with
  | sl e=>
   cases hx
   cases hv
   exact ⟨1,none,0,rfl,Nat.le_refl _, .inl rfl⟩
  | _=>cases hx
 | aS b=>
  have ok: ∀ (e:Ty) (l:List (e.den S.C)),aq b=some (.bM e l)→eV S (.sl e) t l=some x→ ∃ n,aM S w (cA S w0 M0 s0 env.bx aq μ w) n t x [v]:=by
   intro e l hb hc
   obtain ⟨rfl,rfl⟩:=eG hc
   exact Fb h (hk.trans S hk') hb hv
  simp only [dn] at hx
  split at hx
  · rename_i e l hb; exact ok e l (hf b e l rfl hb) hx
  · rename_i e l hb
    refine ok e l ?_ hx
    rcases hk' b with e1 | ⟨_,e1⟩ | ⟨_,_,e1,_⟩
    · exact e1.trans hb
    · unfold live at e1; rw [hb] at e1; exact e1.elim
    · rw [hb] at e1; cases e1
  · cases hx
 | _=>cases hx
theorem Po (h:Inv P S w0 M0 s0 dq env a w μ) {bx aq:Bx S.C} (hk:Tk S env.bx bx) (hk':Tk S bx aq): ∀ (ts:List Ty) (hts:ts.all (fun t=> !bA t)=true) {vs:List (V S.C)} {cs:List Value} {x:ay S.C ts},
 (∀ V ∈ vs.take ts.length, ∀ b e (l:List (e.den S.C)),V= .aS b→bx b=some (.arr e l)→aq b=some (.bM e l))→
 aQ P S w (aO S w0 M0 s0 env.bx μ w) μ env.bx vs cs→iQ S bx ts vs=some x→
 ∃ n,bG S (fun t x cs=>aM S w (cA S w0 M0 s0 env.bx aq μ w) n t x cs) ts x (cs.take ts.length)
 | [],_,_,cs,_,_,_,_=>⟨0,by simp [bG]⟩
 | t::ts,hts,[],_,_,_,_,hx=>by simp [iQ] at hx
 | t::ts,hts,V::vs,cs,x,hf,⟨c,r,hcs,hv,hr⟩,hx=>by
  simp only [List.all_cons,Bool.and_eq_true,Bool.not_eq_true'] at hts
  simp only [iQ] at hx
  obtain ⟨y,hy,hx⟩:=Option.bind_eq_some_iff.1 hx
  obtain ⟨z,hz,hx⟩:=Option.bind_eq_some_iff.1 hx
  cases hx
  obtain ⟨n,hn⟩:=D9 h hk hk' hts.1 (hf V (by simp)) hv hy
  obtain ⟨m,hm⟩:=Po h hk hk' ts hts.2 (fun V hV=>hf V (by simp [hV])) hr hz
  refine ⟨max n m,c,r.take ts.length,by simp [hcs], ?_, ?_⟩
  · rw [show ay.head (ay.cons y z)=y from by cases ts <;> rfl]
    exact hn.up S (by omega)
  · rw [show ay.tail (ay.cons y z)=z from by cases ts <;> rfl]
    exact bG.mono S (fun t x cs hr=>hr.up S (by omega)) _ _ _ hm
theorem F_ (hS:dm S) (h:Inv P S w0 M0 s0 dq env a w μ) {bx aq:Bx S.C} (hk:Tk S env.bx bx) (hk':Tk S bx aq) {t:Ty} {vs:List (V S.C)} {cs:List Value} {x:t.den S.C}
 (hf: ∀ V ∈ vs.take (Ty.sz S t), ∀ b e (l:List (e.den S.C)),V= .aS b→bx b=some (.arr e l)→aq b=some (.bM e l))
 (hv:aQ P S w (aO S w0 M0 s0 env.bx μ w) μ env.bx vs cs) (hx:jd S bx t vs=some x):
 ∃ n,aM S w (cA S w0 M0 s0 env.bx aq μ w) n t x (cs.take (Ty.sz S t)):=by
 have one:bA t=false→Ty.sz S t=1→(∃ V r,vs=V::r∧dn S bx t V=some x)→ ∃ n,aM S w (cA S w0 M0 s0 env.bx aq μ w) n t x (cs.take (Ty.sz S t)):=by
  rintro ht h1 ⟨V,vs',rfl,hx1⟩
  rw [h1]
  rw [h1] at hf
  obtain ⟨c,r,hcs,hv,hr⟩:=hv
  subst hcs
  exact D9 h hk hk' ht (hf V (by simp)) hv hx1
 cases t with
 | st u=>
  simp only [jd] at hx
  obtain ⟨y,hy,hx⟩:=Option.bind_eq_some_iff.1 hx
  cases hx
  obtain ⟨n,hn⟩:=Po h hk hk' (S.F u) (hS.flat u) hf hv hy
  refine ⟨n+1, ?_⟩
  show bG S _ (S.F u) (S.ex u (S.im u y)) _
  rw [hS.vq]
  exact hn
 | int k=>exact one rfl rfl (by cases vs with | nil=>cases hx | cons V r=>exact ⟨V,r,rfl,hx⟩)
 | bool=>exact one rfl rfl (by cases vs with | nil=>cases hx | cons V r=>exact ⟨V,r,rfl,hx⟩)
 | str=>exact one rfl rfl (by cases vs with | nil=>cases hx | cons V r=>exact ⟨V,r,rfl,hx⟩)
 | pt=>exact one rfl rfl (by cases vs with | nil=>cases hx | cons V r=>exact ⟨V,r,rfl,hx⟩)
 | sl e=>exact one rfl rfl (by cases vs with | nil=>cases hx | cons V r=>exact ⟨V,r,rfl,hx⟩)
theorem E_ (bx gp:Bx S.C): ∀ (vs:List (V S.C)) (V:V S.C) (b:Nat) (e:Ty) (l:List (e.den S.C)),V ∈ vs→V= .aS b→bx b=some (.arr e l)→
 (∀ i,gp i=bx i∨ ∃ e l,bx i=some (.arr e l)∧gp i=some (.bM e l))→aD gp (vs.flatMap (cY S bx)) b=some (.bM e l)
 | [],_,_,_,_,h,_,_,_=>by simp at h
 | W::vs,V,b,e,l,h,hV,hb,h0=>by
  simp only [List.flatMap_cons,jL]
  obtain ⟨h1,_⟩:=KS bx gp h0 W
  rcases List.mem_cons.1 h with rfl | h
  · subst hV
    have e1:aD gp (cY S bx (.aS b)) b=some (.bM e l):=by
     simp only [Sy.cY,hb]
     exact aY _ _ _
    have :=(yD bx vs _ h1).1 b
    rcases this with e2 | ⟨e',l',e2,e3⟩
    · exfalso
      have :=(yD bx vs _ h1).2 b
      rw [e2,e1,hb] at this
      rcases this with h | ⟨h,_⟩ | ⟨_,_,h,_⟩ <;> cases h
    · rw [hb] at e2; cases e2; exact e3
  · exact E_ bx _ vs V b e l h hV hb h1
theorem A6 (hS:dm S) (h:Inv P S w0 M0 s0 dq env a w μ) {bx:Bx S.C} (hk:Tk S env.bx bx) {t:Ty} {V:V S.C} {v:Value} {x:t.den S.C}
 (hv:RV P S w (aO S w0 M0 s0 env.bx μ w) μ env.bx V v) (hx:datum S bx t V=some x):
 Tk S bx (aD bx (dH S bx V))∧cy S w (cA S w0 M0 s0 env.bx (aD bx (dH S bx V)) μ w) t x v:=by
 have hl:=oG S w0 M0 s0 env.bx (aD bx (dH S bx V)) μ w
 have one: ∀ (W:Sy.V S.C),V=W→dH S bx V=cY S bx W→bI P S w (aO S w0 M0 s0 env.bx μ w) μ env.bx W v→bA t=false→dn S bx t W=some x→
  Tk S bx (aD bx (dH S bx V))∧cy S w (cA S w0 M0 s0 env.bx (aD bx (dH S bx V)) μ w) t x v:=by
  intro W hW hfr hv ht hx
  have htk:Tk S bx (aD bx (dH S bx V)):=by rw [hfr]; exact Tk.cY bx W
  refine ⟨htk, ?_⟩
  obtain ⟨n,hn⟩:=D9 h hk htk ht (fun b e l hm hb=>by
   rw [hfr]
   subst hm
   simp only [Sy.cY,hb]
   exact aY _ _ _) hv hx
  refine ⟨?_,n, ?_⟩
  · rw [ht]
    cases n with
    | zero=>exact hn.elim
    | succ n=>cases t with
     | int k=>simp [aM] at hn; subst hn; rfl
     | bool=>simp [aM] at hn; subst hn; rfl
     | str=>simp [aM] at hn; subst hn; rfl
     | pt=>simp [aM] at hn; subst hn; rfl
     | sl e=>obtain ⟨a,cap,h1,_⟩:=hn; simp at h1; subst h1; rfl
     | st u=>simp [bA] at ht
  · have :v.cells.toList= [v]:=by
     cases n with
     | zero=>exact hn.elim
     | succ n=>cases t with
      | int k=>simp [aM] at hn; subst hn; rfl
      | bool=>simp [aM] at hn; subst hn; rfl
      | str=>simp [aM] at hn; subst hn; rfl
      | pt=>simp [aM] at hn; subst hn; rfl
      | sl e=>obtain ⟨a,cap,h1,_⟩:=hn; simp at h1; subst h1; rfl
      | st u=>simp [bA] at ht
    rw [this]; exact hn
 cases V with
 | agg u vs=>
  obtain ⟨cs,rfl,hlen,_,hvs⟩:=hv
  cases t with
  | st u'=>
   simp only [datum] at hx
   split at hx
   · rename_i e
     subst e
     have hfz:=yD (S:=S) bx vs bx (fun i=> .inl rfl)
     obtain ⟨n,hn⟩:=F_ hS h hk hfz.2 (t:= .st u) (vs:=vs) (fun V hV b e l hm hb=>E_ bx bx vs V b e l (List.mem_of_mem_take hV) hm hb (fun i=> .inl rfl)) hvs hx
     have hcl:=aQ.length P S hvs
     refine ⟨hfz.2,rfl,n, ?_⟩
     rw [show Ty.sz S (.st u)=cs.toList.length from by show (S.F u).length=_; rw [hcl,hlen]] at hn
     rw [List.take_length] at hn
     exact hn
   · cases hx
  | _=>cases hx
 | d u y=>
  cases t with
  | st u'=>
   obtain ⟨rfl,rfl⟩:=eG (show eV S u (.st u') y=some x from hx)
   exact ⟨Tk.refl S bx,cy.mono S hl hv⟩
  | int k=>exact one _ rfl rfl hv rfl hx
  | bool=>exact one _ rfl rfl hv rfl hx
  | str=>exact one _ rfl rfl hv rfl hx
  | pt=>exact one _ rfl rfl hv rfl hx
  | sl e=>exact one _ rfl rfl hv rfl hx
 | jq vs=>cases t <;> simp [datum,dn] at hx
 | fX f vs=>cases t <;> simp [datum,dn] at hx
 | undef=>cases t <;> simp [datum,dn] at hx
 | skip=>cases t <;> simp [datum,dn] at hx
 | pre b n=>cases t <;> simp [datum,dn] at hx
 | split b c=>cases t <;> simp [datum,dn] at hx
 | mS c=>cases t <;> simp [datum,dn] at hx
 | win b i n=>cases t <;> simp [datum,dn] at hx
 | pr p i=>cases t with
  | st u'=>cases hx
  | _=>exact one _ rfl rfl hv rfl hx
 | bk b e l=>cases t with
  | st u'=>cases hx
  | _=>exact one _ rfl rfl hv rfl hx
 | aS b=>cases t with
  | st u'=>cases hx
  | _=>exact one _ rfl rfl hv rfl hx
 | ptr b o=>cases t <;> simp [datum,dn] at hx
 | cF b n=>cases t <;> simp [datum,dn] at hx
 | err b=>cases t <;> simp [datum,dn] at hx
 | fK b i o=>cases t <;> simp [datum,dn] at hx
 | dL t' y=>cases t <;> simp [datum,dn] at hx
 | nil=>cases t <;> simp [datum,dn] at hx
 | cO=>cases t with
  | st u'=>cases hx
  | _=>exact one _ rfl rfl hv rfl hx
 | fv a r g=>cases t <;> simp [datum,dn] at hx
end
end Go.Sy
namespace Go.Sy
section
variable {P:Program} {S:bg}
variable {w0:World} {M0 s0:St} {dq:List Deferred} {env:Env S.C} {a:Act} {w:World} {μ:Nat→Loc}
def cx (S:bg) (env:Env S.C) (μ:Nat→Loc) (bx aq:Bx S.C) (M:St):Prop:=
 ∀ b o,M b o→ ∃ i,live S env.bx i∧live S bx i∧aq i=some .dead∧(μ i).aN b o
theorem cx.none {bx aq:Bx S.C} {M:St} (h:iT M):cx S env μ bx aq M:=fun b o hm=>(h b o hm).elim
theorem qW {bx aq:Bx S.C} (h:Tk S bx aq) {i:Nat} (hd:bx i=some .dead):aq i=some .dead:=by
 rcases h i with e | ⟨e,_⟩ | ⟨e,l,e1,_⟩
 · exact e.trans hd
 · exact e
 · rw [hd] at e1; cases e1
theorem cx.later {bx aq jQ:Bx S.C} {M:St} (h:cx S env μ bx aq M) (hk:Tk S aq jQ):cx S env μ bx jQ M:=
 fun b o hm=>let ⟨i,h1,h2,h3,h4⟩:=h b o hm; ⟨i,h1,h2,qW hk h3,h4⟩
theorem cx.Kd {bx aq jQ:Bx S.C} {M:St} (h:cx S env μ aq jQ M) (hk:Tk S bx aq):cx S env μ bx jQ M:=
 fun b o hm=>let ⟨i,h1,h2,h3,h4⟩:=h b o hm; ⟨i,h1,(eI S (hk.eo h2)).1 h2,h3,h4⟩
theorem cx.apart (h:Inv P S w0 M0 s0 dq env a w μ) {bx aq jQ:Bx S.C} {M M':St} (h1:cx S env μ bx aq M) (h2:cx S env μ aq jQ M'): ∀ b o,M b o→M' b o→False:=by
 intro b o hm hm'
 obtain ⟨i,a1,a2,a3,a4⟩:=h1 b o hm
 obtain ⟨j,b1,b2,b3,b4⟩:=h2 b o hm'
 refine h.dK i j (fun e=> ?_) a1 b1 b o a4 b4
 subst e
 unfold live at b2
 rw [a3] at b2
 exact b2
theorem cx.union {bx aq jQ:Bx S.C} {M M':St} (h1:cx S env μ bx aq M) (h2:cx S env μ aq jQ M') (hk:Tk S bx aq) (hk':Tk S aq jQ):cx S env μ bx jQ (fun b o=>M b o∨M' b o):=
 fun b o hm=>hm.elim (h1.later hk' b o) (h2.Kd hk b o)
theorem O8 (hS:dm S) (h:Inv P S w0 M0 s0 dq env a w μ) {bx:Bx S.C} (hk:Tk S env.bx bx) {c:CK} {vs:List (V S.C)} {cs:List Value} {x:c.den S.C} {us:aR S.C}
 (hv:aQ P S w (aO S w0 M0 s0 env.bx μ w) μ env.bx vs cs) (hx:ez S bx c vs=some (x,us)):
 Tk S bx (aD bx us)∧ ∃ M,mc S w (cA S w0 M0 s0 env.bx (aD bx us) μ w) M c x (cs.take (CK.sz S c))∧cx S env μ bx (aD bx us) M∧(cs.take (CK.sz S c)).length=CK.sz S c:=by
 cases c with
 | data t=>
  simp only [ez] at hx
  obtain ⟨y,hy,hx⟩:=Option.bind_eq_some_iff.1 hx
  cases hx
  have hfz:=yD (S:=S) bx (vs.take (Ty.sz S t)) bx (fun i=> .inl rfl)
  obtain ⟨n,hn⟩:=F_ hS h hk hfz.2 (fun V hV b e l hm hb=>E_ bx bx _ V b e l hV hm hb (fun i=> .inl rfl)) hv hy
  exact ⟨hfz.2,fun _ _=>False,⟨fun _ _ h=>h,n,hn⟩,cx.none (fun _ _ h=>h),hn.length⟩
 | bk e=>
  simp only [ez] at hx
  split at hx
  · rename_i b e' l r
    split at hx
    · rename_i hb
      obtain ⟨y,hy,hx⟩:=Option.bind_eq_some_iff.1 hx
      cases hx
      obtain ⟨he,rfl⟩:=eG hy
      cases he
      obtain ⟨c,r',rfl,hv1,ig⟩:=hv
      have hlb:live S bx b:=by unfold live; rw [hb]; trivial
      have hb0:env.bx b=some .tail:=(hk.eo hlb).symm.trans hb
      have htk:Tk S bx (aD bx [(b, .dead)]):=Tk.xA hlb
      obtain ⟨a',cap,rfl,yX⟩:=hv1.2 hb0
      obtain ⟨_,n,hn⟩:=hv1.1
      refine ⟨htk,(μ b).aN,⟨a',cap,μ b,rfl,⟨n,hn.mono S (oG S w0 M0 s0 env.bx _ μ w) (Nat.le_refl _)⟩,yX,h.cc b _ hb0,fun _ _=>Iff.rfl⟩,fun b' o hm=>⟨b,(eI S (hk.eo hlb)).1 hlb,hlb,aY _ _ _,hm⟩,rfl⟩
    · cases hx
  · rename_i r
    cases hx
    obtain ⟨c,r',rfl,hv1,ig⟩:=hv
    cases hv1
    exact ⟨Tk.refl S bx,fun _ _=>False,⟨none,0,⟨0,0,0,0,true⟩,rfl,⟨1,none,0,rfl,Nat.le_refl _, .inl rfl⟩, .inl ⟨rfl,rfl,rfl⟩,fun j hj=>absurd hj (Nat.not_lt_zero j),fun b o=>⟨fun h=>h.elim,fun h=>by have h1:=h.2.1; have h2:=h.2.2; simp at h2⟩⟩,cx.none (fun _ _ h=>h),rfl⟩
  · cases hx
 | aS e=>
  simp only [ez] at hx
  split at hx
  · rename_i b r
    split at hx
    · rename_i e' l hb
      obtain ⟨y,hy,hx⟩:=Option.bind_eq_some_iff.1 hx
      cases hx
      obtain ⟨he,rfl⟩:=eG hy
      cases he
      obtain ⟨c,r',rfl,hv1,ig⟩:=hv
      have hlb:live S bx b:=by unfold live; rw [hb]; trivial
      have hb0:env.bx b=some (.arr e l):=(hk.eo hlb).symm.trans hb
      have htk:Tk S bx (aD bx [(b, .dead)]):=Tk.xA hlb
      obtain ⟨a',cap,rfl,hao⟩:=hv1.2 e l (.inl hb0)
      obtain ⟨g1,g2,g3,g4,g5⟩:=h.cc b _ hb0
      refine ⟨htk,(μ b).aN,⟨a',cap,μ b,rfl,hao,g4,fun _ _=>Iff.rfl,fun i z hi=> ?_⟩,fun b' o hm=>⟨b,(eI S (hk.eo hlb)).1 hlb,hlb,aY _ _ _,hm⟩,rfl⟩
      obtain ⟨ds,d1,d2,n,d3⟩:=g5 i z hi
      exact ⟨ds,d1,d2,n,d3.mono S (oG S w0 M0 s0 env.bx _ μ w) (Nat.le_refl _)⟩
    · cases hx
  · rename_i b n r
    split at hx
    · rename_i e' l hb
      obtain ⟨y,hy,hx⟩:=Option.bind_eq_some_iff.1 hx
      cases hx
      obtain ⟨he,rfl⟩:=eG hy
      cases he
      obtain ⟨c,r',rfl,hv1,ig⟩:=hv
      have hlb:live S bx b:=by unfold live; rw [hb]; trivial
      have hb0:env.bx b=some (.arr e l):=(hk.eo hlb).symm.trans hb
      have htk:Tk S bx (aD bx [(b, .dead)]):=Tk.xA hlb
      obtain ⟨hn0,hnl,a',cap,rfl,hao⟩:=hv1.2 e l hb0
      obtain ⟨g1,g2,g3,g4,g5⟩:=h.cc b _ hb0
      have hlen:(List.take n.toNat l).length=n.toNat:=by rw [List.length_take]; omega
      refine ⟨htk,(μ b).aN,⟨a',cap,μ b, ?_, ?_,g4,fun _ _=>Iff.rfl,fun i z hi=> ?_⟩,fun b' o hm=>⟨b,(eI S (hk.eo hlb)).1 hlb,hlb,aY _ _ _,hm⟩,rfl⟩
      · show [_]= [_]
        rw [hlen]
      · rw [hlen]; exact hao
      · have hi':l[i]? =some z:=by
         rw [List.getElem?_take] at hi
         split at hi
         · exact hi
         · cases hi
        obtain ⟨ds,d1,d2,n,d3⟩:=g5 i z hi'
        exact ⟨ds,d1,d2,n,d3.mono S (oG S w0 M0 s0 env.bx _ μ w) (Nat.le_refl _)⟩
    · cases hx
  · rename_i r
    cases hx
    obtain ⟨c,r',rfl,hv1,ig⟩:=hv
    cases hv1
    exact ⟨Tk.refl S bx,fun _ _=>False,⟨none,0,⟨0,0,0,0,true⟩,rfl,⟨rfl,rfl,by simp,fun _=>rfl,Nat.le_refl _⟩,fun j hj=>absurd hj (Nat.not_lt_zero j),fun b o=>⟨fun h=>h.elim,fun h=>by have h1:=h.2.1; have h2:=h.2.2; simp at h2⟩,fun i x hi=>by simp at hi⟩,cx.none (fun _ _ h=>h),rfl⟩
  · cases hx
theorem O9 (hS:dm S) (h:Inv P S w0 M0 s0 dq env a w μ): ∀ (ps:List CK) {bx:Bx S.C} (hk:Tk S env.bx bx) {vs:List (V S.C)} {cs:List Value} {x:bH S.C ps} {us:aR S.C},
 aQ P S w (aO S w0 M0 s0 env.bx μ w) μ env.bx vs cs→dY S bx ps vs=some (x,us)→
 Tk S bx (aD bx us)∧ ∃ M,iS S w (cA S w0 M0 s0 env.bx (aD bx us) μ w) M ps x (cs.take (CK.cz S ps))∧cx S env μ bx (aD bx us) M∧(cs.take (CK.cz S ps)).length=CK.cz S ps
 | [],bx,hk,vs,cs,x,us,hv,hx=>by
  cases hx
  exact ⟨Tk.refl S bx,fun _ _=>False,⟨fun _ _ h=>h,by simp [CK.cz]⟩,cx.none (fun _ _ h=>h),by simp [CK.cz]⟩
 | c::ps,bx,hk,vs,cs,x,us,hv,hx=>by
  simp only [dY] at hx
  obtain ⟨⟨y,u1⟩,hy,hx⟩:=Option.bind_eq_some_iff.1 hx
  obtain ⟨⟨z,u2⟩,hz,hx⟩:=Option.bind_eq_some_iff.1 hx
  cases hx
  obtain ⟨k1,M1,r1,f1,n1⟩:=O8 hS h hk hv hy
  obtain ⟨k2,M2,r2,f2,n2⟩:=O9 hS h ps (hk.trans S k1) (hv.drop P S (CK.sz S c)) hz
  dsimp only at *
  rw [jL]
  refine ⟨k1.trans S k2,fun b o=>M1 b o∨M2 b o,⟨M1,M2,cs.take (CK.sz S c),(cs.drop (CK.sz S c)).take (CK.cz S ps),⟨fun _ _=>Iff.rfl,cx.apart h f1 f2⟩, ?_,n1, ?_, ?_⟩,cx.union f1 f2 k1 k2, ?_⟩
  · rw [CK.cz,List.take_add]
  · rw [show bH.head (bH.cons y z)=y from by cases ps <;> rfl]
    exact r1.mono S (xu S k2)
  · rw [show bH.tail (bH.cons y z)=z from by cases ps <;> rfl]
    exact r2
  · rw [CK.cz,List.take_add,List.length_append,n1,n2]
theorem oH {w:World} {b o n o' n':Nat} (h:w.there b o n) (h1:o≤o') (h2:o'+n'≤o+n):w.there b o' n':=fun j hj=>by
 have :=h (o' - o+j) (by omega)
 rw [show o+(o' - o+j)=o'+j from by omega] at this
 exact this
theorem Nh {w:World} {b o:Nat} {cs:List Value} (h:w.rangeAt b o cs) (k:Nat):w.rangeAt b (o+k) (cs.drop k):=fun j v hj=>by
 rw [Nat.add_assoc]
 exact h (k+j) v (by simpa using hj)
theorem Nk {w:World} {b o:Nat} {cs:List Value} (h:w.rangeAt b o cs) (k:Nat):w.rangeAt b o (cs.take k):=fun j v hj=>by
 rw [List.getElem?_take] at hj
 split at hj
 · exact h j v hj
 · cases hj
theorem Gz (hS:dm S) (h:Inv P S w0 M0 s0 dq env a w μ) {bx:Bx S.C} (hk:Tk S env.bx bx) {b off:Nat} {ws:List (V S.C)} (hb:bx b=some (.cells ws)) {ps:List CK} {x:bH S.C ps} {us:aR S.C} {v:Value}
 (hv:bI P S w (aO S w0 M0 s0 env.bx μ w) μ env.bx (.ptr b off) v) (hx:dY S (aC bx b (some .dead)) ps (ws.drop off)=some (x,us)):
 Tk S bx (aD bx ((b, .dead)::us))∧ ∃ M,eD S w (cA S w0 M0 s0 env.bx (aD bx ((b, .dead)::us)) μ w) M ps x v∧cx S env μ bx (aD bx ((b, .dead)::us)) M:=by
 have hlb:live S bx b:=by unfold live; rw [hb]; trivial
 have hb0:env.bx b=some (.cells ws):=(hk.eo hlb).symm.trans hb
 have hl0:live S env.bx b:=(eI S (hk.eo hlb)).1 hlb
 have k1:Tk S bx (aC bx b (some .dead)):=Tk.xA hlb
 obtain ⟨g1,g2,g3,cs,g4,g5⟩:=h.cc b _ hb0
 obtain ⟨k2,M2,r2,f2,n2⟩:=O9 hS h ps (hk.trans S k1) (g5.drop P S off) hx
 have y6:v=_:=hv
 subst y6
 have hlen:=aQ.length P S g5
 have hsz:off+CK.cz S ps≤cs.length∨CK.cz S ps=0:=by
  rw [List.length_take,List.length_drop] at n2
  omega
 refine ⟨k1.trans S k2,fun b' o'=>(b'=(μ b).b∧(μ b).o+off≤o'∧o'<(μ b).o+off+((cs.drop off).take (CK.cz S ps)).length)∨M2 b' o',⟨_,_,(cs.drop off).take (CK.cz S ps),M2,rfl, ?_,Nk (Nh g4 off) _,⟨fun _ _=>Iff.rfl, ?_⟩,r2⟩, ?_⟩
 · rcases hsz with hsz | hsz
   · exact oH g3 (by omega) (by rw [n2]; omega)
   · intro j hj; rw [n2,hsz] at hj; exact absurd hj (Nat.not_lt_zero _)
 · rintro b' o' ⟨rfl,h1,h2⟩ hm
   obtain ⟨i,a1,a2,a3,a4⟩:=f2 _ _ hm
   refine h.dK b i (fun e=> ?_) hl0 a1 _ _ ⟨rfl,by omega, ?_⟩ a4
   · subst e
     unfold live at a2
     rw [aY] at a2
     exact a2
   · rw [n2] at h2
     rcases hsz with hsz | hsz <;> omega
 · rintro b' o' (⟨rfl,h1,h2⟩ | hm)
   · refine ⟨b,hl0,hlb,qW k2 (aY _ _ _),rfl,by omega, ?_⟩
     rw [n2] at h2
     rcases hsz with hsz | hsz <;> omega
   · exact f2.Kd k1 _ _ hm
theorem Jx (hS:dm S) (h:Inv P S w0 M0 s0 dq env a w μ) {bx:Bx S.C} (hk:Tk S env.bx bx) {t:Ty} {V:V S.C} {v:Value} {x:t.den S.C}
 (hv:bI P S w (aO S w0 M0 s0 env.bx μ w) μ env.bx V v) (hx:nK S bx t V=some x):nD S w (cA S w0 M0 s0 env.bx bx μ w) t x v:=by
 have hl:=oG S w0 M0 s0 env.bx bx μ w
 cases V with
 | ptr b off=>
  cases off with
  | succ n=>cases hx
  | zero=>
   simp only [nK] at hx
   split at hx
   · rename_i ws hb
     have hb0:env.bx b=some (.bU ws):=by
      rcases hk b with e | ⟨e,_⟩ | ⟨e,l,_,e1⟩
      · exact e.symm.trans hb
      · rw [hb] at e; cases e
      · rw [hb] at e1; cases e1
     obtain ⟨g1,cs,g2,g3⟩:=h.cc b _ hb0
     have y6:v=_:=hv
     subst y6
     cases hnm:ws.all (MG S) with
     | false=>rw [hnm] at hx; cases hx
     | true=>
     rw [hnm] at hx
     obtain ⟨n,hn⟩:=F_ hS h hk (Tk.refl S bx) (t:=t) (vs:=ws) (fun V hV b' e l hm hb'=>by
      have :=(List.all_eq_true.1 hnm) V (List.mem_of_mem_take hV)
      subst hm
      cases this) g3 hx
     refine ⟨_,_,cs.take (Ty.sz S t),rfl,fun j u hj=> ?_,hn.length,n,hn⟩
     rw [List.getElem?_take] at hj
     split at hj
     · have :=(g2.later hl) j u hj
       simpa using this
     · cases hj
   · cases hx
 | dL u y=>
  obtain ⟨rfl,rfl⟩:=eG (show eV S u t y=some x from hx)
  exact nD.mono S hl hv
 | _=>cases hx
theorem Ej (hS:dm S) (h:Inv P S w0 M0 s0 dq env a w μ) {bx:Bx S.C} (hk:Tk S env.bx bx): ∀ (ts:List Ty) {vs:List (V S.C)} {cs:List Value} {x:ay S.C ts},
 aQ P S w (aO S w0 M0 s0 env.bx μ w) μ env.bx vs cs→caps S bx ts vs=some x→iw S w (cA S w0 M0 s0 env.bx bx μ w) ts x cs
 | [],[],cs,x,hv,_=>hv
 | [],_::_,_,_,_,hx=>by cases hx
 | _::_,[],_,_,_,hx=>by cases hx
 | t::ts,V::vs,cs,x,⟨c,r,hcs,h1,h2⟩,hx=>by
  simp only [caps] at hx
  obtain ⟨y,hy,hx⟩:=Option.bind_eq_some_iff.1 hx
  obtain ⟨z,hz,hx⟩:=Option.bind_eq_some_iff.1 hx
  cases hx
  refine ⟨c,r,hcs, ?_, ?_⟩
  · rw [show ay.head (ay.cons y z)=y from by cases ts <;> rfl]
    exact Jx hS h hk h1 hy
  · rw [show ay.tail (ay.cons y z)=z from by cases ts <;> rfl]
    exact Ej hS h hk ts h2 hz
theorem TY (hS:dm S) (h:Inv P S w0 M0 s0 dq env a w μ) {bx:Bx S.C} (hk:Tk S env.bx bx) {fs:List (iy S)} (pH: ∀ e ∈ fs,eZ P S e) {A R:List Ty} {V:V S.C} {v:Value} {g:ay S.C A→Option (ay S.C R)}
 (hv:RV P S w (aO S w0 M0 s0 env.bx μ w) μ env.bx V v) (hx:tD S fs bx A R V=some g):nB P S w (cA S w0 M0 s0 env.bx bx μ w) A R g v:=by
 have hl:=oG S w0 M0 s0 env.bx bx μ w
 cases V with
 | fv A' R' g'=>
  simp only [tD] at hx
  split at hx
  · rename_i e1
    split at hx
    · rename_i e2
      subst e1 e2
      cases hx
      exact nB.mono P S hl hv
    · cases hx
  · cases hx
 | fX f vs=>
  obtain ⟨cs,rfl,hvs⟩:=hv
  simp only [tD] at hx
  obtain ⟨e,he,hx1⟩:=List.exists_of_findSome?_eq_some hx
  clear hx
  split at hx1
  · rename_i ef
    split at hx1
    · rename_i e1
      split at hx1
      · rename_i e2
        obtain ⟨y,hy,hx2⟩:=Option.bind_eq_some_iff.1 hx1
        clear hx1
        obtain ⟨f',A',c',R',sp⟩:=e
        dsimp only at *
        subst ef e1 e2
        have hx3:=Option.some.inj hx2
        subst hx3
        have Bp:=Ej hS h hk _ hvs hy
        refine ⟨f', #[],cs,rfl,(pH _ he).1,fun w1 s1 cv Fh x args z hargs hg=> ?_⟩
        have :=(pH _ he).2 w1 s1 x y z args cs.toList Fh hargs (iw.mono cv _ _ _ Bp) hg
        rw [show #[]++args.toArray++cs=(args++cs.toList).toArray from by simp]
        exact this
      · cases hx1
    · cases hx1
  · cases hx1
 | _=>cases hx
theorem Pe (hS:dm S) (h:Inv P S w0 M0 s0 dq env a w μ) {bx:Bx S.C} (hk:Tk S env.bx bx) {ps:List CK} {b:Nat} {x:bH S.C ps} {us:aR S.C} (hx:gY S bx ps b=some (x,us)):
 Tk S bx (aD bx us)∧ ∃ M,eD S w (cA S w0 M0 s0 env.bx (aD bx us) μ w) M ps x (.pointer (some ⟨(μ b).b,(μ b).o,none⟩))∧cx S env μ bx (aD bx us) M:=by
 unfold gY at hx
 split at hx
 · rename_i ws hb
   cases hw:Nat.beq ws.length (CK.cz S ps) with
   | false=>rw [hw] at hx; cases hx
   | true=>
    rw [hw,cond_true] at hx
    obtain ⟨⟨y,u'⟩,hy,hx⟩:=Option.bind_eq_some_iff.1 hx
    cases hx
    exact Gz hS h hk hb (show bI P S w (aO S w0 M0 s0 env.bx μ w) μ env.bx (.ptr b 0) _ from rfl) hy
 · cases hx
theorem abe (hS:dm S) (h:Inv P S w0 M0 s0 dq env a w μ) {bx:Bx S.C} (hk:Tk S env.bx bx) {fs:List (iy S)} (pH: ∀ e ∈ fs,eZ P S e) {k:K} {V:V S.C} {v:Value} {x:k.den S.C} {us:aR S.C}
 (hv:RV P S w (aO S w0 M0 s0 env.bx μ w) μ env.bx V v) (hx:cq S fs bx k V=some (x,us)):
 Tk S bx (aD bx us)∧ ∃ M,nC P S w (cA S w0 M0 s0 env.bx (aD bx us) μ w) M k x v∧cx S env μ bx (aD bx us) M:=by
 have ck: ∀ (c:CK),(∀ t,c≠ .data t)→CK.sz S c=1→ ∀ (y:c.den S.C),ez S bx c [V]=some (y,us)→Tk S bx (aD bx us)∧ ∃ M,(mc S w (cA S w0 M0 s0 env.bx (aD bx us) μ w) M c y v.cells.toList∧isAgg v=false)∧cx S env μ bx (aD bx us) M:=by
  intro c hc h1 y hy
  have hv1:bI P S w (aO S w0 M0 s0 env.bx μ w) μ env.bx V v:=by
   cases V with
   | agg u ws=>cases c <;> first | exact absurd rfl (hc _) | cases hy
   | jq ws=>cases c <;> first | exact absurd rfl (hc _) | cases hy
   | fX f ws=>cases c <;> first | exact absurd rfl (hc _) | cases hy
   | _=>exact hv
  obtain ⟨k1,M,r1,f1,n1⟩:=O8 hS h hk (vs:= [V]) (cs:= [v]) ⟨v,[],rfl,hv1,rfl⟩ hy
  rw [h1] at r1
  have hag:isAgg v=false:=by
   cases c with
   | data t=>exact absurd rfl (hc t)
   | bk e=>obtain ⟨a',cap,L,he,_⟩:=r1; simp at he; subst he; rfl
   | aS e=>obtain ⟨a',cap,L,he,_⟩:=r1; simp at he; subst he; rfl
  refine ⟨k1,M,⟨?_,hag⟩,f1⟩
  rw [aM.mB (t:= .bool) (by rw [hag]; rfl) rfl]
  exact r1
 have obj: ∀ (ps:List CK) (b off:Nat) (ws:List (Sy.V S.C)) (y:bH S.C ps) (us':aR S.C),V= .ptr b off→bx b=some (.cells ws)→dY S (aC bx b (some .dead)) ps (ws.drop off)=some (y,us')→us=(b, .dead)::us'→
  Tk S bx (aD bx us)∧ ∃ M,eD S w (cA S w0 M0 s0 env.bx (aD bx us) μ w) M ps y v∧cx S env μ bx (aD bx us) M:=by
  intro ps b off ws y us' hV hb hy hu
  subst hV hu
  exact Gz hS h hk hb hv hy
 cases k with
 | val c=>
  cases c with
  | data t=>
   simp only [cq] at hx
   obtain ⟨y,hy,hx⟩:=Option.bind_eq_some_iff.1 hx
   cases hx
   obtain ⟨k1,r1⟩:=A6 hS h hk hv hy
   exact ⟨k1,fun _ _=>False,⟨⟨fun _ _ h=>h,r1.2⟩,r1.1⟩,cx.none (fun _ _ h=>h)⟩
  | bk e=>exact ck (.bk e) (by simp) rfl x hx
  | aS e=>exact ck (.aS e) (by simp) rfl x hx
 | obj ps=>
  simp only [cq] at hx
  split at hx
  · split at hx
    · rename_i b off _ ws hb
      cases hw:Nat.beq off 0&&Nat.beq ws.length (CK.cz S ps) with
      | false=>rw [hw] at hx; cases hx
      | true=>
       rw [hw,cond_true] at hx
       obtain ⟨⟨y,u'⟩,hy,hx⟩:=Option.bind_eq_some_iff.1 hx
       cases hx
       exact obj ps _ _ _ _ _ rfl hb hy rfl
    · cases hx
  · cases hx
 | opt ps=>
  simp only [cq] at hx
  split at hx
  · cases hx
    exact ⟨Tk.refl S bx,fun _ _=>False,⟨fun _ _ h=>h,hv⟩,cx.none (fun _ _ h=>h)⟩
  · split at hx
    · rename_i b off _ ws hb
      cases hw:Nat.beq off 0&&Nat.beq ws.length (CK.cz S ps) with
      | false=>rw [hw] at hx; cases hx
      | true=>
       rw [hw,cond_true] at hx
       obtain ⟨⟨y,u'⟩,hy,hx⟩:=Option.bind_eq_some_iff.1 hx
       cases hx
       exact obj ps _ _ _ _ _ rfl hb hy rfl
    · cases hx
  · cases hx
 | cF ps=>
  simp only [cq] at hx
  split at hx
  · split at hx
    · rename_i b n _ ws hb
      cases hw:Nat.beq n ws.length&&Nat.beq ws.length (CK.cz S ps) with
      | false=>rw [hw] at hx; cases hx
      | true=>
       rw [hw,cond_true] at hx
       rw [Bool.and_eq_true] at hw
       have w1:=Nat.eq_of_beq_eq_true hw.1
       have w2:=Nat.eq_of_beq_eq_true hw.2
       obtain ⟨⟨y,u'⟩,hy,hx⟩:=Option.bind_eq_some_iff.1 hx
       cases hx
       have hv:v= .slice (some ⟨(μ b).b,(μ b).o,none⟩) n n:=hv
       obtain ⟨k1,M,r1,f1⟩:=Gz hS h hk (v:= .pointer (some ⟨(μ b).b,(μ b).o,none⟩)) hb (show bI P S w (aO S w0 M0 s0 env.bx μ w) μ env.bx (.ptr b 0) _ from rfl) hy
       exact ⟨k1,M,⟨_,by rw [hv,w1,w2],r1⟩,f1⟩
    · cases hx
  · cases hx
 | err=>
  simp only [cq] at hx
  split at hx
  · cases hx
    exact ⟨Tk.refl S bx,fun _ _=>False,⟨fun _ _ h=>h,hv⟩,cx.none (fun _ _ h=>h)⟩
  · cases hx
 | bh=>
  simp only [cq] at hx
  split at hx
  · split at hx
    · split at hx
      · rename_i b off _ j hb _ l hj
        cases hw:Nat.beq off 0 with
        | false=>rw [hw] at hx; cases hx
        | true=>
         rw [hw] at hx
         cases hx
         have ho:=Nat.eq_of_beq_eq_true hw
         subst ho
         have hne:j≠b:=fun e=>by subst e; rw [hb] at hj; cases hj
         have lb:live S bx b:=by unfold live; rw [hb]; trivial
         have lj:live S bx j:=by unfold live; rw [hj]; trivial
         have hb0:env.bx b=some (.bh j):=(hk.eo lb).symm.trans hb
         have hj0:env.bx j=some (.buf x):=(hk.eo lj).symm.trans hj
         have Mk:live S env.bx b:=(eI S (hk.eo lb)).1 lb
         have Mw:live S env.bx j:=(eI S (hk.eo lj)).1 lj
         obtain ⟨g1,g2,g3,u,g4,g5⟩:=h.cc b _ hb0
         have gj:nA S w (μ j) x:=h.cc j _ hj0
         have hv:v= .pointer (some ⟨(μ b).b,(μ b).o+0,none⟩):=hv
         have k1:Tk S bx (aC bx b (some .dead)):=Tk.xA lb
         have WN:live S (aC bx b (some .dead)) j:=by unfold live; rw [br _ _ hne,hj]; trivial
         have k2:Tk S (aC bx b (some .dead)) (aC (aC bx b (some .dead)) j (some .dead)):=Tk.xA WN
         have fb: ∀ b' o',(Loc.mk (μ b).b 0 2 0 false).aN b' o'→(μ b).aN b' o':=fun b' o' ⟨q1,q2,q3⟩=>⟨q1,by omega,by have :o'<0+2:=q3; omega⟩
         refine ⟨k1.trans S k2,fun b' o'=>(Loc.mk (μ b).b 0 2 0 false).aN b' o'∨(μ j).aN b' o',⟨(μ b).b,μ j,by rw [hv,g1],g5 _ hj0▸g4,gj,fun _ _=>Iff.rfl,fun b' o' q1 q2=>h.dK j b hne Mw Mk _ _ q2 (fb _ _ q1)⟩, ?_⟩
         rintro b' o' (q | q)
         · exact ⟨b,Mk,lb,(br _ _ hne.symm).trans (aY _ _ _),fb _ _ q⟩
         · exact ⟨j,Mw,lj,aY _ _ _,q⟩
      · cases hx
    · cases hx
  · cases hx
 | nil=>
  simp only [cq] at hx
  split at hx
  · cases hx
    exact ⟨Tk.refl S bx,fun _ _=>False,⟨fun _ _ h=>h,hv⟩,cx.none (fun _ _ h=>h)⟩
  · cases hx
 | bZ t ps=>
  simp only [cq] at hx
  split at hx
  · rename_i b c
    obtain ⟨⟨y,u1⟩,hy,hx⟩:=Option.bind_eq_some_iff.1 hx
    obtain ⟨⟨z,u2⟩,hz,hx⟩:=Option.bind_eq_some_iff.1 hx
    cases hx
    obtain ⟨kb,q,e1,e2,e3,e4⟩:=hv
    obtain ⟨k1,M1,r1,f1⟩:=Pe hS h hk hy
    obtain ⟨k2,M2,r2,f2⟩:=Pe hS h (hk.trans S k1) hz
    dsimp only at *
    rw [jL]
    rw [e3,e4] at r2
    exact ⟨k1.trans S k2,fun b o=>M1 b o∨M2 b o,⟨kb,q,⟨(μ c).b,(μ c).o,none⟩,M1,M2,e1,e2.later (oG S _ _ _ _ _ _ _),⟨fun _ _=>Iff.rfl,cx.apart h f1 f2⟩,eD.mono S (xu S k2) r1,r2⟩,cx.union f1 f2 k1 k2⟩
  · cases hx
 | ro t=>
  simp only [cq] at hx
  obtain ⟨y,hy,hx⟩:=Option.bind_eq_some_iff.1 hx
  cases hx
  have hv1:bI P S w (aO S w0 M0 s0 env.bx μ w) μ env.bx V v:=by
   cases V <;> first | exact hv | cases hy
  exact ⟨Tk.refl S bx,fun _ _=>False,⟨fun _ _ h=>h,Jx hS h hk hv1 hy⟩,cx.none (fun _ _ h=>h)⟩
 | fn A R=>
  simp only [cq] at hx
  obtain ⟨y,hy,hx⟩:=Option.bind_eq_some_iff.1 hx
  cases hx
  exact ⟨Tk.refl S bx,fun _ _=>False,⟨fun _ _ h=>h,TY hS h hk pH hv hy⟩,cx.none (fun _ _ h=>h)⟩
def fT (P:Program) (S:bg) (w:World) (s:St) (μ:Nat→Loc) (bx:Bx S.C):List (V S.C)→List Value→Prop
 | [],cs=>cs= []
 | v::vs,cs=> ∃ c r,cs=c::r∧RV P S w s μ bx v c∧fT P S w s μ bx vs r
theorem Af (hS:dm S) (h:Inv P S w0 M0 s0 dq env a w μ) {fs:List (iy S)} (pH: ∀ e ∈ fs,eZ P S e): ∀ (ks:List K) {bx:Bx S.C} (hk:Tk S env.bx bx) {vs:List (V S.C)} {cs:List Value} {x:Ks S.C ks} {us:aR S.C},
 fT P S w (aO S w0 M0 s0 env.bx μ w) μ env.bx vs cs→eC S fs bx ks vs=some (x,us)→
 Tk S bx (aD bx us)∧ ∃ M,b_ P S w (cA S w0 M0 s0 env.bx (aD bx us) μ w) M ks x cs∧cx S env μ bx (aD bx us) M
 | [],bx,hk,[],cs,x,us,hv,hx=>by
  cases hx
  exact ⟨Tk.refl S bx,fun _ _=>False,⟨fun _ _ h=>h,hv⟩,cx.none (fun _ _ h=>h)⟩
 | [],_,_,_::_,_,_,_,_,hx=>by cases hx
 | _::_,_,_,[],_,_,_,_,hx=>by cases hx
 | k::ks,bx,hk,V::vs,cs,x,us,⟨c,r,hcs,hv1,ig⟩,hx=>by
  simp only [eC] at hx
  obtain ⟨⟨y,u1⟩,hy,hx⟩:=Option.bind_eq_some_iff.1 hx
  obtain ⟨⟨z,u2⟩,hz,hx⟩:=Option.bind_eq_some_iff.1 hx
  cases hx
  obtain ⟨k1,M1,r1,f1⟩:=abe hS h hk pH hv1 hy
  obtain ⟨k2,M2,r2,f2⟩:=Af hS h pH ks (hk.trans S k1) ig hz
  dsimp only at *
  rw [jL]
  refine ⟨k1.trans S k2,fun b o=>M1 b o∨M2 b o,⟨M1,M2,c,r,⟨fun _ _=>Iff.rfl,cx.apart h f1 f2⟩,hcs, ?_, ?_⟩,cx.union f1 f2 k1 k2⟩
  · rw [show Ks.head (Ks.cons y z)=y from by cases ks <;> rfl]
    exact r1.mono P S (xu S k2)
  · rw [show Ks.tail (Ks.cons y z)=z from by cases ks <;> rfl]
    exact r2
end
end Go.Sy
namespace Go.Sy
theorem iU.left {M A B:St} (h:iU M A B) {b o:Nat} (ha:A b o):M b o:=(h.1 b o).2 (.inl ha)
theorem iU.right {M A B:St} (h:iU M A B) {b o:Nat} (ha:B b o):M b o:=(h.1 b o).2 (.inr ha)
section
variable {P:Program} {S:bg}
def Agree (us:aR S.C) (lam:Nat→Loc) (μ:Nat→Loc) (bx:Bx S.C):Prop:= ∀ u ∈ us,bx u.1=some u.2∧μ u.1=lam u.1
structure cl (P:Program) (S:bg) (w:World) (s:St) (I:Nat→Prop) (us:aR S.C) (lam:Nat→Loc) (M:St):Prop where
 gf: ∀ u ∈ us,I u.1
 one: ∀ u ∈ us, ∀ u' ∈ us,u.1=u'.1→u=u'
 rb: ∀ μ bx,Agree us lam μ bx→ ∀ u ∈ us,RB P S w s μ bx (lam u.1) u.2
 lv: ∀ bx:Bx S.C, ∀ u ∈ us,bx u.1=some u.2→live S bx u.1
 aN: ∀ b o,M b o↔ ∃ u ∈ us,(lam u.1).aN b o
 dK: ∀ u ∈ us, ∀ u' ∈ us,u.1≠u'.1→ ∀ b o,(lam u.1).aN b o→(lam u'.1).aN b o→False
 ref: ∀ u ∈ us, ∀ vs,(u.2= .cells vs∨u.2= .bU vs)→ ∀ v ∈ vs, ∀ j ∈ aG S v, ∃ u' ∈ us,u'.1=j
theorem cl.nil {w:World} {s:St} {I:Nat→Prop} {M:St} (h:iT M) (lam:Nat→Loc):cl P S w s I [] lam M:=
 ⟨by simp,by simp,by simp,by simp,fun b o=>⟨fun hm=>(h b o hm).elim,by simp⟩,by simp,by simp⟩
def both (us:aR S.C) (l1 l2:Nat→Loc):Nat→Loc:=fun i=>if i ∈ us.map (·.1) then l1 i else l2 i
theorem cl.both {w:World} {s:St} {I1 I2:Nat→Prop} {dR oI:aR S.C} {l1 l2:Nat→Loc} {M M1 M2:St} (h1:cl P S w s I1 dR l1 M1) (h2:cl P S w s I2 oI l2 M2)
 (hI: ∀ i,I1 i→I2 i→False) (hM:iU M M1 M2):cl P S w s (fun i=>I1 i∨I2 i) (dR++oI) (both dR l1 l2) M∧
  (∀ μ bx,Agree (dR++oI) (Sy.both dR l1 l2) μ bx→Agree dR l1 μ bx∧Agree oI l2 μ bx):=by
 have e1: ∀ u ∈ dR,Sy.both dR l1 l2 u.1=l1 u.1:=fun u hu=>if_pos (List.mem_map.2 ⟨u,hu,rfl⟩)
 have e2: ∀ u ∈ oI,Sy.both dR l1 l2 u.1=l2 u.1:=fun u hu=>if_neg fun hm=>by
  obtain ⟨u',aW,he⟩:=List.mem_map.1 hm
  exact hI u.1 (he▸h1.gf u' aW) (h2.gf u hu)
 have hag: ∀ μ bx,Agree (dR++oI) (Sy.both dR l1 l2) μ bx→Agree dR l1 μ bx∧Agree oI l2 μ bx:=fun μ bx h=>
  ⟨fun u hu=>⟨(h u (by simp [hu])).1,(h u (by simp [hu])).2.trans (e1 u hu)⟩,fun u hu=>⟨(h u (by simp [hu])).1,(h u (by simp [hu])).2.trans (e2 u hu)⟩⟩
 refine ⟨⟨?_, ?_, ?_, ?_, ?_, ?_, ?_⟩,hag⟩
 · intro u hu
   rcases List.mem_append.1 hu with hu | hu
   · exact .inl (h1.gf u hu)
   · exact .inr (h2.gf u hu)
 · intro u hu u' aW he
   rcases List.mem_append.1 hu with hu | hu <;> rcases List.mem_append.1 aW with aW | aW
   · exact h1.one u hu u' aW he
   · exact (hI u.1 (h1.gf u hu) (he▸h2.gf u' aW)).elim
   · exact (hI u'.1 (h1.gf u' aW) (he▸h2.gf u hu)).elim
   · exact h2.one u hu u' aW he
 · intro μ bx ha u hu
   rcases List.mem_append.1 hu with hu | hu
   · rw [e1 u hu]; exact h1.rb μ bx (hag μ bx ha).1 u hu
   · rw [e2 u hu]; exact h2.rb μ bx (hag μ bx ha).2 u hu
 · intro bx u hu hb
   rcases List.mem_append.1 hu with hu | hu
   · exact h1.lv bx u hu hb
   · exact h2.lv bx u hu hb
 · intro b o
   rw [hM.1 b o,h1.aN,h2.aN]
   constructor
   · rintro (⟨u,hu,hf⟩ | ⟨u,hu,hf⟩)
     · exact ⟨u,by simp [hu],by rw [e1 u hu]; exact hf⟩
     · exact ⟨u,by simp [hu],by rw [e2 u hu]; exact hf⟩
   · rintro ⟨u,hu,hf⟩
     rcases List.mem_append.1 hu with hu | hu
     · rw [e1 u hu] at hf; exact .inl ⟨u,hu,hf⟩
     · rw [e2 u hu] at hf; exact .inr ⟨u,hu,hf⟩
 · intro u hu u' aW hne b o hf hf'
   rcases List.mem_append.1 hu with hu | hu <;> rcases List.mem_append.1 aW with aW | aW
   · rw [e1 u hu] at hf; rw [e1 u' aW] at hf'
     exact h1.dK u hu u' aW hne b o hf hf'
   · rw [e1 u hu] at hf; rw [e2 u' aW] at hf'
     exact hM.2 b o ((h1.aN b o).2 ⟨u,hu,hf⟩) ((h2.aN b o).2 ⟨u',aW,hf'⟩)
   · rw [e2 u hu] at hf; rw [e1 u' aW] at hf'
     exact hM.2 b o ((h1.aN b o).2 ⟨u',aW,hf'⟩) ((h2.aN b o).2 ⟨u,hu,hf⟩)
   · rw [e2 u hu] at hf; rw [e2 u' aW] at hf'
     exact h2.dK u hu u' aW hne b o hf hf'
 · intro u hu vs hvs v hv j hj
   rcases List.mem_append.1 hu with hu | hu
   · obtain ⟨u',aW,he⟩:=h1.ref u hu vs hvs v hv j hj
     exact ⟨u',by simp [aW],he⟩
   · obtain ⟨u',aW,he⟩:=h2.ref u hu vs hvs v hv j hj
     exact ⟨u',by simp [aW],he⟩
theorem cl.weaken {w:World} {s:St} {I I':Nat→Prop} {us:aR S.C} {lam:Nat→Loc} {M:St} (h:cl P S w s I us lam M) (hI: ∀ i,I i→I' i):cl P S w s I' us lam M:=
 ⟨fun u hu=>hI _ (h.gf u hu),h.one,h.rb,h.lv,h.aN,h.dK,h.ref⟩
theorem Pj {w:World} {s:St} {n:Nat} (μ:Nat→Loc) (bx:Bx S.C): ∀ (ts:List Ty) (hts:ts.all (fun t=> !bA t)=true) (x:ay S.C ts) (cs:List Value),
 bG S (fun t x cs=>aM S w s n t x cs) ts x cs→aQ P S w s μ bx (sE S ts x) cs∧(sE S ts x).all (bS S)=true∧ ∀ v ∈ sE S ts x,aG S v= []
 | [],_,x,cs,h=>⟨h,rfl,by simp [sE]⟩
 | t::ts,hts,x,cs,⟨c,r,hcs,h1,h2⟩=>by
  simp only [List.all_cons,Bool.and_eq_true,Bool.not_eq_true'] at hts
  obtain ⟨r1,r2,r3⟩:=Pj μ bx ts hts.2 _ _ h2
  have hc:isAgg c=false:=by
   cases n with
   | zero=>exact h1.elim
   | succ n=>cases t with
    | int k=>simp [aM] at h1; subst h1; rfl
    | bool=>simp [aM] at h1; subst h1; rfl
    | str=>simp [aM] at h1; subst h1; rfl
    | pt=>simp [aM] at h1; subst h1; rfl
    | sl e=>obtain ⟨a,cap,h,_⟩:=h1; simp at h; subst h; rfl
    | st u=>simp [bA] at hts
  refine ⟨⟨c,r,hcs,⟨by rw [hc,hts.1],n, ?_⟩,r1⟩, ?_, ?_⟩
  · rw [aM.mB (t:=t) (by rw [hc,hts.1]) hts.1]
    exact h1
  · simp only [sE,List.all_cons,Bool.and_eq_true]
    exact ⟨by cases t <;> first | rfl | simp [bA] at hts,r2⟩
  · intro v hv
    simp only [sE,List.mem_cons] at hv
    rcases hv with rfl | hv
    · rfl
    · exact r3 v hv
theorem nQ (hS:dm S) {w:World} {s:St} {n:Nat} (μ:Nat→Loc) (bx:Bx S.C) {t:Ty} {x:t.den S.C} {cs:List Value} (h:aM S w s n t x cs):
 aQ P S w s μ bx (jT S t x) cs∧(jT S t x).all (bS S)=true∧ ∀ v ∈ jT S t x,aG S v= []:=by
 have one:bA t=false→jT S t x= [.d t x]→aQ P S w s μ bx (jT S t x) cs∧(jT S t x).all (bS S)=true∧ ∀ v ∈ jT S t x,aG S v= []:=by
  intro ht he
  rw [he]
  have hl:=h.length S
  rw [show Ty.sz S t=1 from by cases t <;> first | rfl | simp [bA] at ht] at hl
  obtain ⟨c,rfl⟩:=List.length_eq_one_iff.1 hl
  have hc:isAgg c=false:=by
   cases n with
   | zero=>exact h.elim
   | succ n=>cases t with
    | int k=>simp [aM] at h; subst h; rfl
    | bool=>simp [aM] at h; subst h; rfl
    | str=>simp [aM] at h; subst h; rfl
    | pt=>simp [aM] at h; subst h; rfl
    | sl e=>obtain ⟨a,cap,h,_⟩:=h; simp at h; subst h; rfl
    | st u=>simp [bA] at ht
  refine ⟨⟨c,[],rfl,⟨by rw [hc,ht],n, ?_⟩,rfl⟩, ?_, ?_⟩
  · rw [aM.mB (t:=t) (by rw [hc,ht]) ht]
    exact h
  · cases t <;> first | rfl | simp [bA] at ht
  · intro v hv
    simp at hv
    subst hv
    rfl
 cases t with
 | st u=>
  cases n with
  | zero=>exact h.elim
  | succ n=>exact Pj μ bx (S.F u) (hS.flat u) _ _ h
 | int k=>exact one rfl rfl
 | bool=>exact one rfl rfl
 | str=>exact one rfl rfl
 | pt=>exact one rfl rfl
 | sl e=>exact one rfl rfl
theorem BR (hS:dm S) {w:World} {s M:St} (id:Nat) {c:CK} {x:c.den S.C} {cs:List Value} (h:mc S w s M c x cs):
 id≤(cw S id c x).2.2∧ ∃ lam,cl P S w s (fun i=>id≤i∧i<(cw S id c x).2.2) (cw S id c x).2.1 lam M∧
  (cw S id c x).1.all (bS S)=true∧(∀ v ∈ (cw S id c x).1, ∀ j ∈ aG S v, ∃ u ∈ (cw S id c x).2.1,u.1=j)∧
  ∀ μ bx,Agree (cw S id c x).2.1 lam μ bx→aQ P S w s μ bx (cw S id c x).1 cs:=by
 cases c with
 | data t=>
  obtain ⟨hM,n,hn⟩:=h
  have ho:=fun μ bx=>nQ (P:=P) hS μ bx hn
  refine ⟨Nat.le_refl _,fun _=>⟨0,0,0,0,true⟩,cl.nil hM _,(ho (fun _=>⟨0,0,0,0,true⟩) (fun _=>none)).2.1, ?_,fun μ bx _=>(ho μ bx).1⟩
  intro v hv j hj
  rw [(ho (fun _=>⟨0,0,0,0,true⟩) (fun _=>none)).2.2 v hv] at hj
  simp at hj
 | bk e=>
  obtain ⟨a,cap,L,rfl,⟨n,hn⟩,yX,cM,hM⟩:=h
  refine ⟨Nat.le_succ _,fun _=>L,⟨?_, ?_, ?_, ?_, ?_, ?_, ?_⟩,rfl, ?_, ?_⟩
  · intro u hu; simp [cw] at hu; subst hu; simp [cw]
  · intro u hu u' aW _; simp [cw] at hu aW; rw [hu,aW]
  · intro μ bx ha u hu; simp [cw] at hu; subst hu; exact cM
  · intro bx u hu hb; simp [cw] at hu; subst hu; unfold live; rw [hb]; trivial
  · intro b o; rw [hM]; simp [cw]
  · intro u hu u' aW hne; simp [cw] at hu aW; subst hu aW; exact absurd rfl hne
  · intro u hu vs hvs; simp [cw] at hu; subst hu; rcases hvs with hvs | hvs <;> cases hvs
  · intro v hv j hj; simp [cw] at hv; subst hv; simp [aG] at hj; subst hj; exact ⟨(j, .tail),by simp [cw],rfl⟩
  · intro μ bx ha
    refine ⟨_,[],rfl,⟨⟨rfl,n,hn⟩,fun _=>⟨a,cap,rfl, ?_⟩⟩,rfl⟩
    rw [(ha (id, .tail) (by simp [cw])).2]
    exact yX
 | aS e=>
  obtain ⟨a,cap,L,rfl,hao,cM,hM,hel⟩:=h
  refine ⟨Nat.le_succ _,fun _=>L,⟨?_, ?_, ?_, ?_, ?_, ?_, ?_⟩,rfl, ?_, ?_⟩
  · intro u hu; simp [cw] at hu; subst hu; simp [cw]
  · intro u hu u' aW _; simp [cw] at hu aW; rw [hu,aW]
  · intro μ bx ha u hu; simp [cw] at hu; subst hu
    exact ⟨hao.cells,hao.isNil,by have :=hao.fits; have :=hao.mA; omega,cM,hel⟩
  · intro bx u hu hb; simp [cw] at hu; subst hu; unfold live; rw [hb]; trivial
  · intro b o; rw [hM]; simp [cw]
  · intro u hu u' aW hne; simp [cw] at hu aW; subst hu aW; exact absurd rfl hne
  · intro u hu vs hvs; simp [cw] at hu; subst hu; rcases hvs with hvs | hvs <;> cases hvs
  · intro v hv j hj; simp [cw] at hv; subst hv; simp [aG] at hj; subst hj; exact ⟨(j, .arr e x),by simp [cw],rfl⟩
  · intro μ bx ha
    refine ⟨_,[],rfl,⟨⟨_,_,_,rfl⟩,fun e' l' hb=> ?_⟩,rfl⟩
    obtain ⟨h1,h2⟩:=ha (id, .arr e x) (by simp [cw])
    dsimp only at h1 h2
    rcases hb with hb | hb
    · rw [h1] at hb
      cases hb
      exact ⟨a,cap,rfl,by rw [h2]; exact hao⟩
    · rw [h1] at hb; cases hb
theorem Gv (hS:dm S) {w:World} {s:St} : ∀ (cs:List CK) {M:St} (id:Nat) {x:bH S.C cs} {vs:List Value},iS S w s M cs x vs→
 id≤(bB S id cs x).2.2∧ ∃ lam,cl P S w s (fun i=>id≤i∧i<(bB S id cs x).2.2) (bB S id cs x).2.1 lam M∧
  (bB S id cs x).1.all (bS S)=true∧(∀ v ∈ (bB S id cs x).1, ∀ j ∈ aG S v, ∃ u ∈ (bB S id cs x).2.1,u.1=j)∧
  ∀ μ bx,Agree (bB S id cs x).2.1 lam μ bx→aQ P S w s μ bx (bB S id cs x).1 vs
 | [],M,id,x,vs,h=>⟨Nat.le_refl _,fun _=>⟨0,0,0,0,true⟩,cl.nil h.1 _,rfl,by simp [bB],fun _ _ _=>h.2⟩
 | c::cs,M,id,x,vs,⟨M1,M2,v1,v2,hM,hvs,_,h1,h2⟩=>by
  obtain ⟨zg,l1,g1,s1,r1,qe⟩:=BR (P:=P) hS id h1
  obtain ⟨Gk,l2,g2,s2,r2,qf⟩:=Gv hS cs (cw S id c (bH.head x)).2.2 h2
  obtain ⟨g,hag⟩:=cl.both g1 g2 (fun i hi hi'=>by omega) hM
  refine ⟨Nat.le_trans zg Gk,_,g.weaken (fun i hi=> ?_), ?_, ?_, ?_⟩
  · show id≤i∧i<(bB S (cw S id c (bH.head x)).2.2 cs (bH.tail x)).2.2
    rcases hi with hi | hi
    · exact ⟨hi.1,Nat.lt_of_lt_of_le hi.2 Gk⟩
    · exact ⟨Nat.le_trans zg hi.1,hi.2⟩
  · show ((cw S id c (bH.head x)).1++(bB S (cw S id c (bH.head x)).2.2 cs (bH.tail x)).1).all (bS S)=true
    rw [List.all_append,s1,s2]; rfl
  · intro v hv j hj
    rcases List.mem_append.1 hv with hv | hv
    · obtain ⟨u,hu,he⟩:=r1 v hv j hj
      exact ⟨u,List.mem_append.2 (.inl hu),he⟩
    · obtain ⟨u,hu,he⟩:=r2 v hv j hj
      exact ⟨u,List.mem_append.2 (.inr hu),he⟩
  · intro μ bx ha
    obtain ⟨a1,a2⟩:=hag μ bx ha
    rw [hvs]
    exact aQ.append P S (qe μ bx a1) (qf μ bx a2)
end
end Go.Sy
namespace Go.Sy
section
variable {P:Program} {S:bg}
theorem xB: ∀ (us:aR S.C) (bx:Bx S.C) {i:Nat},(∀ u ∈ us,u.1≠i)→aD bx us i=bx i
 | [],_,_,_=>rfl
 | u::us,bx,i,h=>(xB us _ fun u' aW=>h u' (by simp [aW])).trans (br _ _ (Ne.symm (h u (by simp))))
theorem Dv: ∀ (us:aR S.C) (bx:Bx S.C),(∀ u ∈ us, ∀ u' ∈ us,u.1=u'.1→u=u')→ ∀ u ∈ us,aD bx us u.1=some u.2
 | [],_,_,_,h=>by simp at h
 | v::us,bx,h1,u,hu=>by
  by_cases e: ∃ u' ∈ us,u'.1=u.1
  · obtain ⟨u',aW,e⟩:=e
    have :u'=u:=h1 u' (by simp [aW]) u hu e
    subst this
    exact Dv us _ (fun a ha b hb=>h1 a (by simp [ha]) b (by simp [hb])) u' aW
  · rcases List.mem_cons.1 hu with rfl | hu
    · show aD (aC bx u.1 (some u.2)) us u.1=some u.2
      rw [xB us _ fun u' aW he=>e ⟨u',aW,he⟩,aY]
    · exact absurd ⟨u,hu,rfl⟩ e
theorem qN {v c:Value} (h:v.cells.toList= [c]) (ha:isAgg v=false):v=c:=by
 rw [aM.mB (t:= .bool) ha rfl] at h
 simpa using h
theorem t_ (cs:List CK): ∀ (id:Nat) (x:bH S.C cs) (n:Nat),(bB S id cs x).2.2+n=id+cs.foldl oneMore n:=by
 induction cs with
 | nil=>intro id x n; rfl
 | cons c cs ih=>
  intro id x n
  have :=ih (cw S id c (bH.head x)).2.2 (bH.tail x)
  simp only [bB,List.foldl_cons]
  cases c with
  | data t=>exact this n
  | bk e=>have :=this (n+1); simp only [cw,oneMore] at this ⊢; omega
  | aS e=>have :=this (n+1); simp only [cw,oneMore] at this ⊢; omega
theorem nE {w:World} {s:St} {μ:Nat→Loc} {bx:Bx S.C} {V:V S.C} {v:Value} (h:bI P S w s μ bx V v):RV P S w s μ bx V v:=by
 cases V <;> first | exact h | exact (h:False).elim
theorem vS (hS:dm S) {w:World} {s M:St} (id:Nat) {cs:List CK} {x:bH S.C cs} {v:Value} (h:eD S w s M cs x v):
 ∃ lam,cl P S w s (fun i=>id≤i∧i<(bB S (id+1) cs x).2.2) ((id, .cells (bB S (id+1) cs x).1)::(bB S (id+1) cs x).2.1) lam M∧
  id<(bB S (id+1) cs x).2.2∧
  ∀ μ bx,Agree ((id, .cells (bB S (id+1) cs x).1)::(bB S (id+1) cs x).2.1) lam μ bx→bI P S w s μ bx (.ptr id 0) v:=by
 obtain ⟨b,o,ds,M',rfl,cM,d_,hM,hcs⟩:=h
 obtain ⟨le,l2,g2,s2,r2,qf⟩:=Gv (P:=P) hS cs (id+1) hcs
 have hne: ∀ u ∈ (bB S (id+1) cs x).2.1,u.1≠id:=fun u hu e=>by have :=(g2.gf u hu).1; omega
 let lam:Nat→Loc:=fun i=>if i=id then ⟨b,o,ds.length,0,false⟩ else l2 i
 have e1:lam id=⟨b,o,ds.length,0,false⟩:=if_pos rfl
 have e2: ∀ u ∈ (bB S (id+1) cs x).2.1,lam u.1=l2 u.1:=fun u hu=>if_neg (hne u hu)
 have hag: ∀ μ bx,Agree ((id, .cells (bB S (id+1) cs x).1)::(bB S (id+1) cs x).2.1) lam μ bx→Agree (bB S (id+1) cs x).2.1 l2 μ bx:=
  fun μ bx h u hu=>⟨(h u (by simp [hu])).1,(h u (by simp [hu])).2.trans (e2 u hu)⟩
 refine ⟨lam,⟨?_, ?_, ?_, ?_, ?_, ?_, ?_⟩,by omega, ?_⟩
 · intro u hu
   rcases List.mem_cons.1 hu with rfl | hu
   · exact ⟨Nat.le_refl _,by show id<_; omega⟩
   · have :=g2.gf u hu; omega
 · intro u hu u' aW he
   rcases List.mem_cons.1 hu with rfl | hu <;> rcases List.mem_cons.1 aW with rfl | aW
   · rfl
   · exact absurd he.symm (hne u' aW)
   · exact absurd he (hne u hu)
   · exact g2.one u hu u' aW he
 · intro μ bx ha u hu
   rcases List.mem_cons.1 hu with rfl | hu
   · show RB P S w s μ bx (lam id) (.cells _)
     rw [e1]
     have hr:=qf μ bx (hag μ bx ha)
     exact ⟨s2,(aQ.length P S hr),cM,ds,d_,hr⟩
   · rw [e2 u hu]
     exact g2.rb μ bx (hag μ bx ha) u hu
 · intro bx u hu hb
   rcases List.mem_cons.1 hu with rfl | hu
   · unfold live; rw [hb]; trivial
   · exact g2.lv bx u hu hb
 · intro b' o'
   rw [hM.1 b' o',g2.aN]
   constructor
   · rintro (h | ⟨u,hu,hf⟩)
     · refine ⟨_,List.mem_cons_self, ?_⟩
       show (lam id).aN b' o'
       rw [e1]; exact h
     · exact ⟨u,by simp [hu],by rw [e2 u hu]; exact hf⟩
   · rintro ⟨u,hu,hf⟩
     rcases List.mem_cons.1 hu with rfl | hu
     · have hf:(lam id).aN b' o':=hf
       rw [e1] at hf; exact .inl hf
     · rw [e2 u hu] at hf; exact .inr ⟨u,hu,hf⟩
 · intro u hu u' aW hn b' o' hf hf'
   rcases List.mem_cons.1 hu with rfl | hu <;> rcases List.mem_cons.1 aW with rfl | aW
   · exact hn rfl
   · have hf:(lam id).aN b' o':=hf
     rw [e1] at hf; rw [e2 u' aW] at hf'
     exact hM.2 b' o' hf ((g2.aN b' o').2 ⟨u',aW,hf'⟩)
   · have hf':(lam id).aN b' o':=hf'
     rw [e1] at hf'; rw [e2 u hu] at hf
     exact hM.2 b' o' hf' ((g2.aN b' o').2 ⟨u,hu,hf⟩)
   · rw [e2 u hu] at hf; rw [e2 u' aW] at hf'
     exact g2.dK u hu u' aW hn b' o' hf hf'
 · intro u hu vs hvs v hv j hj
   rcases List.mem_cons.1 hu with rfl | hu
   · rcases hvs with hvs | hvs
     · cases hvs
       obtain ⟨u',aW,he⟩:=r2 v hv j hj
       exact ⟨u',by simp [aW],he⟩
     · cases hvs
   · obtain ⟨u',aW,he⟩:=g2.ref u hu vs hvs v hv j hj
     exact ⟨u',by simp [aW],he⟩
 · intro μ bx ha
   have :=(ha (id, .cells (bB S (id+1) cs x).1) (by simp)).2
   dsimp only at this
   show _=_
   rw [this,e1]
   rfl
theorem Ee {w:World} {s M:St} (i j:Nat) (hne:j≠i) (L:Loc) (h0:L.o=0) (h2:L.n=2) {x:List UInt8} {v:Value} (hv:v= .pointer (some ⟨L.b,L.o,none⟩)) (h:oP S w M x v):
 ∃ lam,lam i=L∧cl P S w s (fun k=>k=i∨k=j) [(i, .bh j),(j, .buf x)] lam M:=by
 obtain ⟨b,R,hb,hh,hr,hM⟩:=h
 rw [hb] at hv
 have hb':b=L.b:=by
  simp only [Value.pointer.injEq,Option.some.injEq,Addr.mk.injEq] at hv
  exact hv.1
 subst hb'
 let lam:Nat→Loc:=fun k=>if k=i then L else R
 have e1:lam i=L:=if_pos rfl
 have e2:lam j=R:=if_neg hne
 have fL: ∀ b' o',(Loc.mk L.b 0 2 0 false).aN b' o'↔L.aN b' o':=fun b' o'=>by
  unfold Loc.aN
  show b'=L.b∧0≤o'∧o'<0+2↔b'=L.b∧L.o≤o'∧o'<L.o+L.n
  rw [h0,h2]
 refine ⟨lam,e1,⟨?_, ?_, ?_, ?_, ?_, ?_, ?_⟩⟩
 · intro u hu
   simp only [List.mem_cons,List.not_mem_nil,or_false] at hu
   rcases hu with rfl | rfl
   · exact .inl rfl
   · exact .inr rfl
 · intro u hu u' aW he
   simp only [List.mem_cons,List.not_mem_nil,or_false] at hu aW
   rcases hu with rfl | rfl <;> rcases aW with rfl | rfl
   · rfl
   · exact absurd he.symm hne
   · exact absurd he hne
   · rfl
 · intro μ bx ha u hu
   have a1:=ha (i, .bh j) (by simp)
   have a2:=ha (j, .buf x) (by simp)
   simp only [List.mem_cons,List.not_mem_nil,or_false] at hu
   rcases hu with rfl | rfl
   · show RB P S w s μ bx (lam i) (.bh j)
     rw [e1]
     refine ⟨h0,h2,by rw [a2.1]; simp,_,hh,fun l hl=> ?_⟩
     rw [a2.1] at hl
     cases hl
     rw [a2.2,e2]
   · show RB P S w s μ bx (lam j) (.buf x)
     rw [e2]
     exact hr
 · intro bx u hu hb
   simp only [List.mem_cons,List.not_mem_nil,or_false] at hu
   rcases hu with rfl | rfl <;> · unfold live; rw [hb]; trivial
 · intro b' o'
   rw [hM.1 b' o',fL]
   constructor
   · rintro (h | h)
     · exact ⟨(i, .bh j),by simp,by show (lam i).aN b' o'; rw [e1]; exact h⟩
     · exact ⟨(j, .buf x),by simp,by show (lam j).aN b' o'; rw [e2]; exact h⟩
   · rintro ⟨u,hu,hf⟩
     simp only [List.mem_cons,List.not_mem_nil,or_false] at hu
     rcases hu with rfl | rfl
     · have hf:(lam i).aN b' o':=hf
       rw [e1] at hf; exact .inl hf
     · have hf:(lam j).aN b' o':=hf
       rw [e2] at hf; exact .inr hf
 · intro u hu u' aW hn b' o' hf hf'
   simp only [List.mem_cons,List.not_mem_nil,or_false] at hu aW
   rcases hu with rfl | rfl <;> rcases aW with rfl | rfl
   · exact hn rfl
   · have hf:(lam i).aN b' o':=hf
     have hf':(lam j).aN b' o':=hf'
     rw [e1] at hf; rw [e2] at hf'
     exact hM.2 b' o' ((fL _ _).2 hf) hf'
   · have hf':(lam i).aN b' o':=hf'
     have hf:(lam j).aN b' o':=hf
     rw [e1] at hf'; rw [e2] at hf
     exact hM.2 b' o' ((fL _ _).2 hf') hf
   · exact hn rfl
 · intro u hu vs hvs
   simp only [List.mem_cons,List.not_mem_nil,or_false] at hu
   rcases hu with rfl | rfl <;> rcases hvs with hvs | hvs <;> cases hvs
theorem Ua (hS:dm S) {w:World} {s M:St} (id:Nat) {k:K} (hk:(match k with | .opt _=>false | _=>true)=true) {x:k.den S.C} {v:Value} (h:nC P S w s M k x v):
 ∃ lam,cl P S w s (fun i=>id≤i∧i<id+pK k) (fC S id k x).2 lam M∧(∀ j ∈ aI S (fC S id k x).1, ∃ u ∈ (fC S id k x).2,u.1=j)∧
  ∀ μ bx,Agree (fC S id k x).2 lam μ bx→RV P S w s μ bx (fC S id k x).1 v:=by
 cases k with
 | val c=>
  obtain ⟨h1,h2⟩:=h
  obtain ⟨le,lam,g,s1,r1,rv⟩:=BR (P:=P) hS id h1
  cases c with
  | data t=>
   obtain ⟨hM,n,hn⟩:=h1
   exact ⟨fun _=>⟨0,0,0,0,true⟩,cl.nil hM _,by simp [fC,aI,aG],fun μ bx _=>⟨h2,n,hn⟩⟩
  | bk e=>
   refine ⟨lam,g,fun j hj=>r1 (.bk id e x) (by simp [cw]) j hj,fun μ bx ha=> ?_⟩
   obtain ⟨c,r,hc,hv,hr⟩:=rv μ bx ha
   cases hr
   rw [qN hc h2]
   exact nE hv
  | aS e=>
   refine ⟨lam,g,fun j hj=>r1 (.aS id) (by simp [cw]) j hj,fun μ bx ha=> ?_⟩
   obtain ⟨c,r,hc,hv,hr⟩:=rv μ bx ha
   cases hr
   rw [qN hc h2]
   exact nE hv
 | obj cs=>
  obtain ⟨lam,g,le,rv⟩:=vS (P:=P) hS id h
  refine ⟨lam,g.weaken fun i hi=> ?_,fun j hj=>⟨(id, .cells (bB S (id+1) cs x).1),by simp [fC],by simp [fC,aI,aG] at hj; exact hj.symm⟩,fun μ bx ha=>nE (rv μ bx ha)⟩
  have :=t_ cs (id+1) x 0
  simp only [pK]
  omega
 | opt cs=>cases hk
 | bZ t cs=>
  obtain ⟨b0,o0,p,M1,M2,hv,cZ,hM,h1,h2⟩:=h
  obtain ⟨l1,g1,zg,qe⟩:=vS (P:=P) hS id h1
  obtain ⟨l2,g2,Gk,qf⟩:=vS (P:=P) hS (id+1) h2
  have hz:=t_ cs (id+1+1) x.2 0
  obtain ⟨g,hag⟩:=cl.both g1 g2 (fun i q1 q2=>by
   have XD:i<id+1:=q1.2
   omega) hM
  refine ⟨_,g.weaken fun i hi=> ?_,fun j hj=> ?_,fun μ bx ha=> ?_⟩
  · simp only [pK]
    rcases hi with hi | hi
    · have XD:i<id+1:=hi.2
      omega
    · omega
  · have hj:j ∈ [id+1,id]:=hj
    simp only [List.mem_cons,List.not_mem_nil,or_false] at hj
    rcases hj with rfl | rfl
    · exact ⟨(id+1,_),List.mem_cons_of_mem _ (List.mem_cons_self),rfl⟩
    · exact ⟨(j,_),List.mem_cons_self,rfl⟩
  · obtain ⟨a1,a2⟩:=hag μ bx ha
    have e1:Value.pointer (some p)= .pointer (some ⟨(μ id).b,(μ id).o+0,none⟩):=qe μ bx a1
    have e2:Value.pointer (some ⟨b0,o0+1,none⟩)= .pointer (some ⟨(μ (id+1)).b,(μ (id+1)).o+0,none⟩):=qf μ bx a2
    cases e1
    simp only [Value.pointer.injEq,Option.some.injEq,Addr.mk.injEq] at e2
    exact ⟨b0,o0,hv,cZ,e2.1.symm,by omega⟩
 | cF cs=>
  obtain ⟨p,hv,h⟩:=h
  obtain ⟨lam,g,le,rv⟩:=vS (P:=P) hS id h
  refine ⟨lam,g.weaken fun i hi=> ?_,fun j hj=>⟨(id, .cells (bB S (id+1) cs x).1),by simp [fC],by simp [fC,aI,aG] at hj; exact hj.symm⟩,fun μ bx ha=>nE ?_⟩
  · have :=t_ cs (id+1) x 0
    simp only [pK]
    omega
  · have :Value.pointer (some p)= .pointer (some ⟨(μ id).b,(μ id).o+0,none⟩):=rv μ bx ha
    show v= .slice (some ⟨(μ id).b,(μ id).o,none⟩) (CK.cz S cs) (CK.cz S cs)
    rw [hv]
    cases this
    rfl
 | err=>exact ⟨fun _=>⟨0,0,0,0,true⟩,cl.nil h.1 _,by simp [fC,aI,aG],fun μ bx _=>h.2⟩
 | bh=>
  have h:oP S w M x v:=h
  obtain ⟨b,R,hb,_⟩:=Iff.mp Iff.rfl h
  obtain ⟨lam,e,g⟩:=Ee (P:=P) (s:=s) id (id+1) (by omega) ⟨b,0,2,0,false⟩ rfl rfl hb h
  refine ⟨lam,g.weaken fun i hi=> ?_,fun j hj=>⟨(id, .bh (id+1)),by simp [fC],by simp [fC,aI,aG] at hj; exact hj.symm⟩,fun μ bx ha=>nE ?_⟩
  · simp only [pK]; omega
  · have a1:=(ha (id, .bh (id+1)) (by simp [fC])).2
    show v= .pointer (some ⟨(μ id).b,(μ id).o+0,none⟩)
    rw [hb,show μ id=lam id from a1,e]
 | nil=>exact ⟨fun _=>⟨0,0,0,0,true⟩,cl.nil h.1 _,by simp [fC,aI,aG],fun μ bx _=>h.2⟩
 | ro t=>exact ⟨fun _=>⟨0,0,0,0,true⟩,cl.nil h.1 _,by simp [fC,aI,aG],fun μ bx _=>h.2⟩
 | fn a r=>exact ⟨fun _=>⟨0,0,0,0,true⟩,cl.nil h.1 _,by simp [fC,aI,aG],fun μ bx _=>h.2⟩
def xK (a:Act):List Nat→List Value→Prop
 | [],vs=>vs= []
 | t::sl,vs=> ∃ v r,vs=v::r∧a.tmps.getD t Go.undef=v∧xK a sl r
theorem Kg (hS:dm S) {w:World} {s:St} (a:Act): ∀ (ks:List K) (sl:List Nat) {M:St} {x:Ks S.C ks} {vs:List Value} (env:Env S.C),l5 sl ks=true→b_ P S w s M ks x vs→xK a sl vs→
 ∃ us lam,cl P S w s (fun i=> ∃ t ∈ sl,16*t≤i∧i<16*t+16) us lam M∧(fW S ks sl x env).bx=aD env.bx us∧
  (∀ t,t ∉ sl→(fW S ks sl x env).tm t=env.tm t)∧
  ∀ t ∈ sl,(∀ j ∈ aI S ((fW S ks sl x env).tm t), ∃ u ∈ us,u.1=j)∧ ∀ μ bx,Agree us lam μ bx→RV P S w s μ bx ((fW S ks sl x env).tm t) (a.tmps.getD t Go.undef)
 | [],[],M,x,vs,env,_,h,_=>⟨[],fun _=>⟨0,0,0,0,true⟩,cl.nil h.1 _,rfl,fun _ _=>rfl,by simp⟩
 | [],_::_,_,_,_,_,h,_,_=>by cases h
 | _::_,[],_,_,_,_,h,_,_=>by cases h
 | k::ks,t::sl,M,x,vs,env,hok,⟨M1,M2,v,r,hM,hvs,h1,h2⟩,⟨v',r',y5,ht,ia⟩=>by
  simp only [l5,Bool.and_eq_true,Bool.not_eq_true'] at hok
  obtain ⟨⟨⟨o1,o2⟩,o3⟩,o4⟩:=hok
  have ot:t ∉ sl:=by
   intro hm
   have :=List.contains_iff_mem.2 hm
   rw [o2] at this; cases this
  rw [hvs] at y5
  cases y5
  obtain ⟨l1,g1,r1,qe⟩:=Ua (P:=P) hS (16*t) o3 h1
  obtain ⟨oI,l2,g2,hb,hto,Bz⟩:=Kg hS a ks sl (env.apply (some t) (fC S (16*t) k (Ks.head x)).1 (fC S (16*t) k (Ks.head x)).2) o4 h2 ia
  obtain ⟨g,hag⟩:=cl.both (g1.weaken (I':=fun i=>16*t≤i∧i<16*t+16) fun i hi=>⟨hi.1,by have :=Nat.le_of_ble_eq_true o1; omega⟩) g2 (fun i hi ⟨t',ht',h1,h2⟩=>ot (by
   have :t'=t:=by omega
   exact this▸ht')) hM
  refine ⟨_,_,g.weaken fun i hi=> ?_, ?_, ?_, ?_⟩
  · rcases hi with hi | ⟨t',ht',hi⟩
    · exact ⟨t,by simp,hi⟩
    · exact ⟨t',by simp [ht'],hi⟩
  · rw [jL]; exact hb
  · intro t' ht'
    have e1:=hto t' (fun h=>ht' (by simp [h]))
    rw [show (fW S (k::ks) (t::sl) x env).tm t'=_ from e1]
    exact br _ _ (fun h=>ht' (by simp [h]))
  · intro t' ht'
    by_cases e:t'=t
    · subst e
      have e1:=hto t' ot
      rw [show (fW S (k::ks) (t'::sl) x env).tm t'=_ from e1]
      rw [show (env.apply (some t') (fC S (16*t') k (Ks.head x)).1 (fC S (16*t') k (Ks.head x)).2).tm t'=(fC S (16*t') k (Ks.head x)).1 from aY _ _ _]
      refine ⟨fun j hj=> ?_,fun μ bx ha=> ?_⟩
      · obtain ⟨u,hu,he⟩:=r1 j hj
        exact ⟨u,List.mem_append.2 (.inl hu),he⟩
      · rw [ht]; exact qe μ bx (hag μ bx ha).1
    · have Vz:t' ∈ sl:=by rcases List.mem_cons.1 ht' with h | h; exact absurd h e; exact h
      obtain ⟨h1,h2⟩:=Bz t' Vz
      refine ⟨fun j hj=> ?_,fun μ bx ha=>h2 μ bx (hag μ bx ha).2⟩
      obtain ⟨u,hu,he⟩:=h1 j hj
      exact ⟨u,List.mem_append.2 (.inr hu),he⟩
theorem Kf: ∀ (ks:List K) (sl:List Nat) (x:Ks S.C ks) (env:Env S.C),(fW S ks sl x env).df=env.df
 | [],_,_,_=>rfl
 | _::_,[],_,_=>rfl
 | k::r,t::sl,x,env=>Kf r sl (Ks.tail x) _
theorem Kh (hS:dm S) {w0:World} {M0 s0:St} {dq:List Deferred} {w:World} {s M:St} {a:Act} {ks:List K} {sl:List Nat} {x:Ks S.C ks} {vs:List Value}
 (hok:l5 sl ks=true) (h:b_ P S w s M ks x vs) (ia:xK a sl vs) (hs: ∀ b o,s b o→b<w.heap.size∧(s0 b o∨M0 b o∨w0.heap.size≤b)∧ ¬ M b o)
 (hM: ∀ b o,M b o→w0.heap.size≤b∨M0 b o) (hc:bq w0 w M0) {df:Bool} (hd:a.defers=cond df dq []) (hG:js S w0 M0): ∃ μ,Inv P S w0 M0 s0 dq (fW S ks sl x (Env.none S df)) a w μ:=by
 obtain ⟨us,lam,g,hb,hto,Bz⟩:=Kg (P:=P) hS a ks sl (Env.none S df) hok h ia
 have hin: ∀ i B,(fW S ks sl x (Env.none S df)).bx i=some B→(i,B) ∈ us:=by
  intro i B hi
  rw [hb] at hi
  by_cases e: ∃ u ∈ us,u.1=i
  · obtain ⟨u,hu,rfl⟩:=e
    rw [Dv us _ g.one u hu] at hi
    cases hi
    exact hu
  · rw [xB us _ fun u hu he=>e ⟨u,hu,he⟩] at hi
    cases hi
 have hag:Agree us lam lam (fW S ks sl x (Env.none S df)).bx:=fun u hu=>⟨by rw [hb]; exact Dv us _ g.one u hu,rfl⟩
 have cg: ∀ i,live S (fW S ks sl x (Env.none S df)).bx i→ ∃ u ∈ us,u.1=i:=by
  intro i hi
  unfold live at hi
  cases e:(fW S ks sl x (Env.none S df)).bx i with
  | none=>rw [e] at hi; exact hi.elim
  | some B=>exact ⟨(i,B),hin i B e,rfl⟩
 have hl:bX w s w (aO S w0 M0 s0 (fW S ks sl x (Env.none S df)).bx lam w):=fun b o Vw=>by
  obtain ⟨h1,h2,h3⟩:=hs b o Vw
  refine ⟨⟨h1,h2,fun i hi hf=> ?_⟩,rfl⟩
  obtain ⟨u,hu,rfl⟩:=cg i hi
  exact h3 ((g.aN b o).2 ⟨u,hu,hf⟩)
 have cL: ∀ i B0,(fW S ks sl x (Env.none S df)).bx i=some B0→ ∃ B,(fW S ks sl x (Env.none S df)).bx i=some B∧cW S (lam i) (lam i) B0 B:=fun i B hi=>⟨B,hi,cW.refl S _ _⟩
 have vK: ∀ j,(∃ u ∈ us,u.1=j)→(fW S ks sl x (Env.none S df)).bx j≠none:=by
  rintro j ⟨u,hu,rfl⟩
  rw [(hag u hu).1]; simp
 refine ⟨lam,⟨fun t=> ?_,fun i B hi=> ?_,fun i j hij li lj b o fi fj=> ?_,fun i li b o fi=> ?_,fun t i hi=> ?_,fun i vs' hvs v hv j hj=> ?_,hc,by rw [Kf]; exact hd,hG⟩⟩
 · by_cases ht:t ∈ sl
   · obtain ⟨h1,h2⟩:=Bz t ht
     exact RV.step P S hl cL (fun i hi=>vK i (h1 i hi)) (h2 lam _ hag)
   · rw [hto t ht]; trivial
 · have hu:=hin i B hi
   have hr:=g.rb lam _ hag (i,B) hu
   cases B with
   | cells vs'=>
    obtain ⟨h1,h2,h3,cs,h4,h5⟩:=hr
    exact ⟨h1,h2,h3,cs,h4,aQ.step P S hl cL (fun v hv j hj=>vK j (g.ref _ hu vs' (.inl rfl) v hv j hj)) h5⟩
   | bU vs'=>
    obtain ⟨h1,cs,h4,h5⟩:=hr
    exact ⟨h1,cs,h4.later hl,aQ.step P S hl cL (fun v hv j hj=>vK j (g.ref _ hu vs' (.inr rfl) v hv j hj)) h5⟩
   | arr e l=>
    obtain ⟨h1,h2,h3,h4,h5⟩:=hr
    refine ⟨h1,h2,h3,h4,fun k y hk=> ?_⟩
    obtain ⟨ds,d1,d2,n,d3⟩:=h5 k y hk
    exact ⟨ds,d1,d2,n,d3.mono S hl (Nat.le_refl _)⟩
   | bM e l=>
    obtain ⟨h2,h3,h5⟩:=hr
    refine ⟨h2,h3,fun k y hk=> ?_⟩
    obtain ⟨ds,d1,d2,n,d3⟩:=h5 k y hk
    exact ⟨ds,d1,d2.later hl,n,d3.mono S hl (Nat.le_refl _)⟩
   | tail=>exact hr
   | dead=>trivial
   | bh j=>exact hr
   | buf l=>exact hr
 · obtain ⟨u,hu,rfl⟩:=cg i li
   obtain ⟨u',aW,rfl⟩:=cg j lj
   exact g.dK u hu u' aW hij b o fi fj
 · obtain ⟨u,hu,rfl⟩:=cg i li
   exact hM b o ((g.aN b o).2 ⟨u,hu,fi⟩)
 · by_cases ht:t ∈ sl
   · exact vK i ((Bz t ht).1 i hi)
   · rw [hto t ht] at hi
     simp [Env.none,aI,aG] at hi
 · rcases hvs with hvs | hvs
   · exact vK j (g.ref _ (hin i _ hvs) vs' (.inl rfl) v hv j hj)
   · exact vK j (g.ref _ (hin i _ hvs) vs' (.inr rfl) v hv j hj)
end
end Go.Sy
namespace Go.Sy
def Tr.leaf {X:Type} :Tr X→X→Prop
 | .fail,_=>False
 | .ret y,x=>y=x
 | .ite p _ a b,x=>(p∧a.leaf x)∨(¬ p∧b.leaf x)
 | .bind _ m f,x=> ∃ y,m=some y∧(f y).leaf x
 | .opt _ m n s,x=>(m=none∧n.leaf x)∨ ∃ y,m=some y∧(s y).leaf x
theorem Tr.uO {X R:Type} : ∀ (t:Tr X) {k:X→Option R} {r:R},t.run k=some r→ ∃ x,t.leaf x∧k x=some r
 | .fail,_,_,h=>by cases h
 | .ret x,_,_,h=>⟨x,rfl,h⟩
 | .ite p i a b,k,r,h=>by
  by_cases hp:p
  · rw [Tr.run,if_pos hp] at h
    obtain ⟨x,h1,h2⟩:=Tr.uO a h
    exact ⟨x, .inl ⟨hp,h1⟩,h2⟩
  · rw [Tr.run,if_neg hp] at h
    obtain ⟨x,h1,h2⟩:=Tr.uO b h
    exact ⟨x, .inr ⟨hp,h1⟩,h2⟩
 | .bind _ m f,k,r,h=>by
  obtain ⟨y,hy,h⟩:=Option.bind_eq_some_iff.1 h
  obtain ⟨x,h1,h2⟩:=Tr.uO (f y) h
  exact ⟨x,⟨y,hy,h1⟩,h2⟩
 | .opt _ m n s,k,r,h=>by
  cases m with
  | none=>
   obtain ⟨x,h1,h2⟩:=Tr.uO n h
   exact ⟨x, .inl ⟨rfl,h1⟩,h2⟩
  | some y=>
   obtain ⟨x,h1,h2⟩:=Tr.uO (s y) h
   exact ⟨x, .inr ⟨y,rfl,h1⟩,h2⟩
theorem Tr.Gl {X:Type} : ∀ (gs:List Gd) {t:Tr X} {x:X},(Tr.gd gs t).leaf x→(∀ g ∈ gs,g.p)∧t.leaf x
 | [],_,_,h=>⟨by simp,h⟩
 | g::gs,t,x,h=>by
  rcases h with ⟨h1,h2⟩ | ⟨_,h2⟩
  · obtain ⟨h3,h4⟩:=Tr.Gl gs h2
    exact ⟨fun g' hg=>(List.mem_cons.1 hg).elim (fun e=>e▸h1) (h3 g'),h4⟩
  · exact h2.elim
section
variable {P:Program} {S:bg}
variable {w0:World} {M0 s0:St} {dq:List Deferred} {env:Env S.C} {a:Act} {w:World} {μ:Nat→Loc}
theorem Inv.tk (h:Inv P S w0 M0 s0 dq env a w μ) {aq:Bx S.C} (hk:Tk S env.bx aq):Inv P S w0 M0 s0 dq { env with bx:=aq } a w μ:=by
 have hf: ∀ i, ¬ aq i=env.bx i→live S aq i→False:=fun i hi hl=>hi (hk.eo hl)
 refine h.step (T:=fun _ _=>False) (U:=fun i=> ¬ aq i=env.bx i) (bq.refl w _) (fun _ _ h=>h.elim) (fun i hi=>⟨Classical.not_not.1 hi,rfl⟩)
  (fun i hi hl=>(hf i hi hl).elim) (fun i B0 bQ=> ?_) (fun i _ hi _ _ hl=>(hf i hi hl).elim) (fun i B hi hB=> ?_) (fun i vs hi hvs=> ?_)
 · rcases hk i with e | ⟨e,hl⟩ | ⟨e,l,e1,e2⟩
   · exact ⟨B0,e.trans bQ,cW.refl S _ _⟩
   · refine ⟨_,e, ?_⟩
     cases B0 <;> rfl
   · rw [bQ] at e1
     cases e1
     exact ⟨_,e2,rfl,rfl,rfl⟩
 · rcases hk i with e | ⟨e,_⟩ | ⟨e,l,e1,e2⟩
   · exact absurd e hi
   · rw [e] at hB; cases hB; trivial
   · rw [e2] at hB
     cases hB
     have cg:live S env.bx i:=by unfold live; rw [e1]; trivial
     obtain ⟨g1,g2,g3,g4,h3⟩:=h.cc i _ e1
     have hl:bX w (aO S w0 M0 s0 env.bx μ w) w (aO S w0 M0 s0 aq μ w):=h.later (T:=fun _ _=>False) (U:=fun i=> ¬ aq i=env.bx i) (bq.refl w _) (fun _ _ h=>h.elim) (fun i hi=>⟨Classical.not_not.1 hi,rfl⟩)
      (fun i hi hl=>(hf i hi hl).elim)
     refine ⟨g2,g3,fun k x yL=> ?_⟩
     obtain ⟨ds,d1,d2,n,d3⟩:=h3 k x yL
     refine ⟨ds,d1,fun j u hj=>⟨d2 j u hj, ?_⟩,n,d3.mono S hl (Nat.le_refl _)⟩
     have hj':=(List.getElem?_eq_some_iff.1 hj).1
     have vJ:=(List.getElem?_eq_some_iff.1 yL).1
     have jc:(μ i).aN (μ i).b ((μ i).o+k*Ty.sz S e+j):=by
      refine ⟨rfl,by omega, ?_⟩
      have :(k+1)*Ty.sz S e≤(μ i).cap*Ty.sz S e:=Nat.mul_le_mul_right _ (by omega)
      rw [Nat.add_mul,Nat.one_mul] at this
      omega
     refine ⟨(mO P S (h.cc i) cg jc).1,(h.own i cg _ _ jc).elim (fun h=> .inr (.inr h)) (fun h=> .inr (.inl h)),fun j yK hf'=> ?_⟩
     have hj0:=(eI S (hk.eo yK)).1 yK
     refine h.dK j i (fun e'=> ?_) hj0 cg _ _ hf' jc
     subst e'
     unfold live at yK
     rw [e2] at yK
     exact yK
 · rcases hk i with e | ⟨e,_⟩ | ⟨e,l,e1,e2⟩
   · exact absurd e hi
   · rcases hvs with hvs | hvs <;> · rw [e] at hvs; cases hvs
   · rcases hvs with hvs | hvs <;> · rw [e2] at hvs; cases hvs
theorem Inv.Gx (h:Inv P S w0 M0 s0 dq env a w μ) {w':World} (hw:bq w w' (fun _ _=>False)) {i:Nat} (hi:env.bx i=none) {B:dZ S.C} {L:Loc}
 (hf: ∀ b o,L.aN b o→w.heap.size≤b)
 (hb:bX w (aO S w0 M0 s0 env.bx μ w) w' (aO S w0 M0 s0 (aC env.bx i (some B)) (aC μ i L) w')→
  (∀ V v,RV P S w (aO S w0 M0 s0 env.bx μ w) μ env.bx V v→(∀ j ∈ aI S V,env.bx j≠none)→RV P S w' (aO S w0 M0 s0 (aC env.bx i (some B)) (aC μ i L) w') (aC μ i L) (aC env.bx i (some B)) V v)→
  (∀ V v,bI P S w (aO S w0 M0 s0 env.bx μ w) μ env.bx V v→(∀ j ∈ aG S V,env.bx j≠none)→bI P S w' (aO S w0 M0 s0 (aC env.bx i (some B)) (aC μ i L) w') (aC μ i L) (aC env.bx i (some B)) V v)→
  RB P S w' (aO S w0 M0 s0 (aC env.bx i (some B)) (aC μ i L) w') (aC μ i L) (aC env.bx i (some B)) L B)
 (hr: ∀ vs,(B= .cells vs∨B= .bU vs)→ ∀ v ∈ vs, ∀ j ∈ aG S v,env.bx j≠none):
 Inv P S w0 M0 s0 dq { env with bx:=aC env.bx i (some B) } a w' (aC μ i L)∧
  bX w (aO S w0 M0 s0 env.bx μ w) w' (aO S w0 M0 s0 (aC env.bx i (some B)) (aC μ i L) w')∧
  (∀ V v,RV P S w (aO S w0 M0 s0 env.bx μ w) μ env.bx V v→(∀ j ∈ aI S V,env.bx j≠none)→RV P S w' (aO S w0 M0 s0 (aC env.bx i (some B)) (aC μ i L) w') (aC μ i L) (aC env.bx i (some B)) V v):=by
 have hU: ∀ j, ¬ j=i→aC env.bx i (some B) j=env.bx j∧aC μ i L j=μ j:=fun j hj=>⟨br _ _ hj,br _ _ hj⟩
 have Lv: ∀ j,j=i→live S (aC env.bx i (some B)) j→ ∀ b o,(aC μ i L j).aN b o→w.heap.size≤b∨ ∃ k,k=i∧live S env.bx k∧(μ k).aN b o:=by
  rintro j rfl _ b o hfo
  rw [aY] at hfo
  exact .inl (hf b o hfo)
 have hc: ∀ j B0,env.bx j=some B0→ ∃ B',aC env.bx i (some B) j=some B'∧cW S (μ j) (aC μ i L j) B0 B':=by
  intro j B0 hj
  have :j≠i:=fun e=>by subst e; rw [hi] at hj; cases hj
  rw [br _ _ this,br _ _ this]
  exact ⟨B0,hj,cW.refl S _ _⟩
 have hl:=h.later (T:=fun _ _=>False) (U:=fun j=>j=i) hw (fun _ _ h=>h.elim) hU Lv
 have pz:=fun V v (hv:RV P S w (aO S w0 M0 s0 env.bx μ w) μ env.bx V v) hr=>RV.step P S hl hc hr hv
 have Uo:=fun V v (hv:bI P S w (aO S w0 M0 s0 env.bx μ w) μ env.bx V v) hr=>bI.step P S hl hc hr hv
 refine ⟨h.step (T:=fun _ _=>False) (U:=fun j=>j=i) hw (fun _ _ h=>h.elim) hU Lv hc ?_ ?_ ?_,hl,pz⟩
 · rintro j k rfl rfl hne; exact absurd rfl hne
 · rintro j B' rfl iE
   rw [aY] at iE
   cases iE
   rw [aY]
   exact hb hl pz Uo
 · rintro j vs rfl hvs v hv k hk
   rw [aY] at hvs
   have h0:=hr vs (by rcases hvs with hvs | hvs <;> · cases hvs; simp) v hv k hk
   obtain ⟨B0,bQ⟩:=Option.ne_none_iff_exists'.1 h0
   obtain ⟨B',iE,_⟩:=hc k B0 bQ
   rw [iE]; simp
theorem bD (h:Inv P S w0 M0 s0 dq env a w μ) {x:Operand} {V:V S.C} (hx:aX S env.tm x=some V):
 RV P S w (aO S w0 M0 s0 env.bx μ w) μ env.bx V (a.eval x)∧ ∀ i ∈ aI S V,env.bx i≠none:=by
 cases x with
 | tmp t=>cases hx; exact ⟨h.j9 t,h.ref t⟩
 | const v=>
  simp only [aX,JU] at hx
  split at hx <;> cases hx
  · exact ⟨⟨rfl,1,rfl⟩,by simp [aI,aG]⟩
  · exact ⟨⟨rfl,1,rfl⟩,by simp [aI,aG]⟩
  · rename_i s
    refine ⟨⟨rfl,1, ?_⟩,by simp [aI,aG]⟩
    show [Value.string s]= [Value.string ⟨s.data.toList.toArray⟩]
    cases s; simp
  · exact ⟨rfl,by simp [aI,aG]⟩
  · exact ⟨rfl,by simp [aI,aG]⟩
 | func f=>cases hx; exact ⟨⟨#[],rfl,rfl⟩,by simp [aI]⟩
 | global g=>cases hx
theorem wp_pure (h:Inv P S w0 M0 s0 dq env a w μ) {o:Oper} {K:Act→World→Prop} {Q:Exit→Act→World→Prop} {V:V S.C} {v:Value}
 (hrun:(execOp a.eval o).run P w= .ok (.value v) w) (hd: ∀ d,o.dst=some d→d<a.tmps.size)
 (hv:RV P S w (aO S w0 M0 s0 env.bx μ w) μ env.bx V v) (hr: ∀ i ∈ aI S V,env.bx i≠none)
 (hK: ∀ a' w' μ',Inv P S w0 M0 s0 dq (env.apply o.dst V []) a' w' μ'→a'.tmps.size=a.tmps.size→K a' w'):o.wp P a w K Q:=by
 unfold Oper.wp
 rw [hrun]
 refine hK _ w μ (h.put hd hv hr) ?_
 cases o.dst <;> simp [Act.put]
theorem ab_ (h:Inv P S w0 M0 s0 dq env a w μ) {o:Oper} {K:Act→World→Prop} {Q:Exit→Act→World→Prop} {V:V S.C} {v:Value} {us:aR S.C}
 (hrun:(execOp a.eval o).run P w= .ok (.value v) w) (hd: ∀ d,o.dst=some d→d<a.tmps.size) (hk:Tk S env.bx (aD env.bx us))
 (hv:Inv P S w0 M0 s0 dq { env with bx:=aD env.bx us } a w μ→RV P S w (aO S w0 M0 s0 (aD env.bx us) μ w) μ (aD env.bx us) V v) (hr: ∀ i ∈ aI S V,aD env.bx us i≠none)
 (hK: ∀ a' w' μ',Inv P S w0 M0 s0 dq (env.apply o.dst V us) a' w' μ'→a'.tmps.size=a.tmps.size→K a' w'):o.wp P a w K Q:=by
 unfold Oper.wp
 rw [hrun]
 have hI:=h.tk hk
 refine hK _ w μ (hI.put hd (hv hI) hr) ?_
 cases o.dst <;> simp [Act.put]
theorem O6 {aq:Bx S.C} (hk:Tk S env.bx aq):bX w (aO S w0 M0 s0 env.bx μ w) w (aO S w0 M0 s0 aq μ w):=fun b o ⟨h1,h2,h3⟩=>
 ⟨⟨h1,h2,fun i hi=>h3 i ((eI S (hk.eo hi)).1 hi)⟩,rfl⟩
theorem sH (h:Inv P S w0 M0 s0 dq env a w μ) {o:Oper} {K:Act→World→Prop} {Q:Exit→Act→World→Prop} {w':World} {V:V S.C} {v:Value} {i:Nat} {B:dZ S.C} {L:Loc}
 (hrun:(execOp a.eval o).run P w= .ok (.value v) w') (hd: ∀ d,o.dst=some d→d<a.tmps.size) (hw:bq w w' (fun _ _=>False)) (hi:env.bx i=none)
 (hf: ∀ b o,L.aN b o→w.heap.size≤b)
 (hb:bX w (aO S w0 M0 s0 env.bx μ w) w' (aO S w0 M0 s0 (aC env.bx i (some B)) (aC μ i L) w')→
  (∀ V v,RV P S w (aO S w0 M0 s0 env.bx μ w) μ env.bx V v→(∀ j ∈ aI S V,env.bx j≠none)→RV P S w' (aO S w0 M0 s0 (aC env.bx i (some B)) (aC μ i L) w') (aC μ i L) (aC env.bx i (some B)) V v)→
  (∀ V v,bI P S w (aO S w0 M0 s0 env.bx μ w) μ env.bx V v→(∀ j ∈ aG S V,env.bx j≠none)→bI P S w' (aO S w0 M0 s0 (aC env.bx i (some B)) (aC μ i L) w') (aC μ i L) (aC env.bx i (some B)) V v)→
  RB P S w' (aO S w0 M0 s0 (aC env.bx i (some B)) (aC μ i L) w') (aC μ i L) (aC env.bx i (some B)) L B∧
  RV P S w' (aO S w0 M0 s0 (aC env.bx i (some B)) (aC μ i L) w') (aC μ i L) (aC env.bx i (some B)) V v)
 (hr: ∀ vs,(B= .cells vs∨B= .bU vs)→ ∀ v ∈ vs, ∀ j ∈ aG S v,env.bx j≠none) (hV: ∀ j ∈ aI S V,j=i∨env.bx j≠none)
 (hK: ∀ a' w' μ',Inv P S w0 M0 s0 dq (env.apply o.dst V [(i,B)]) a' w' μ'→a'.tmps.size=a.tmps.size→K a' w'):o.wp P a w K Q:=by
 unfold Oper.wp
 rw [hrun]
 have y6:RV P S w' (aO S w0 M0 s0 (aC env.bx i (some B)) (aC μ i L) w') (aC μ i L) (aC env.bx i (some B)) V v:=by
  obtain ⟨_,hl,pz⟩:=h.Gx hw hi hf (fun h1 h2 h3=>(hb h1 h2 h3).1) hr
  refine (hb hl pz (fun V v hv hr=> ?_)).2
  refine bI.step P S hl (fun j B0 hj=> ?_) hr hv
  have :j≠i:=fun e=>by subst e; rw [hi] at hj; cases hj
  rw [br _ _ this,br _ _ this]
  exact ⟨B0,hj,cW.refl S _ _⟩
 obtain ⟨hI,_,_⟩:=h.Gx hw hi hf (fun h1 h2 h3=>(hb h1 h2 h3).1) hr
 refine hK _ w' _ (hI.put hd y6 fun j hj=> ?_) ?_
 · rcases hV j hj with rfl | hj
   · show aC env.bx j (some B) j≠none
     rw [aY]; simp
   · by_cases e:j=i
     · subst e; exact absurd hi hj
     · show aC env.bx i (some B) j≠none
       rw [br _ _ e]; exact hj
 · cases o.dst <;> simp [Act.put]
end
end Go.Sy
namespace Go.Sy
section
variable (P:Program) (S:bg) (au:Nat→Nat)
def xC:Ty→Value
 | .int k=> .int k 0
 | .bool=> .bool false
 | .str=> .string ⟨#[]⟩
 | .sl _=> .slice none 0 0
 | .pt=> .pointer none
 | .st _=> .bool false
def uZ:Ty→List Value
 | .st u=>(S.F u).map xC
 | t=> [xC t]
def sK:(ts:List Ty)→ay S.C ts
 | []=>()
 | t::ts=>ay.cons (Ty.zero S t) (sK ts)
def cB (t:Nat) (T:Ty):Prop:=
 (∃ i z,P.info? t=some i∧i.size=Ty.sz S T∧i.zero=some z∧isAgg z=bA T∧z.cells.toList=uZ S T)∧
 match T with
 | .int k=>P.underlying t=some (.int k)
 | .bool=>P.underlying t=some .bool
 | .str=>P.underlying t=some .string
 | .pt=> ∃ e,P.underlying t=some (.pointer e)
 | .sl e=> ∃ te ie,P.underlying t=some (.slice te)∧S.ty te=some e∧P.info? te=some ie∧ie.bytes=au t∧1≤au t
 | .st u=>(S.ex u (S.z u)=sK S (S.F u)∧(P.built t []).isSome=true)∧match S.ar t with
  | none=> ∃ fs,P.underlying t=some (.struct fs)∧
   ∀ f o T',S.fe u f=some (o,T')→ ∃ fd,fs[f]? =some fd∧fd.offset=o∧S.ty fd.type=some T'∧1≤Ty.sz S T'∧o+Ty.sz S T'≤(S.F u).length
  | some (n,e)=> ∃ te,P.underlying t=some (.array n te)∧S.ty te=some e∧((Ty.sz S e=1∧bA e=false∧S.F u=List.replicate n e)∨ ∃ w,e= .st w∧S.F u=(List.replicate n (S.F w)).flatten)∧ ∀ f o T',S.fe u f=some (o,T')→o=f*Ty.sz S e∧T'=e∧f<n
def xG (S:bg):List Field→List Ty→Nat→Prop
 | [],[],_=>True
 | fd::fs,T::ts,i=>fd.offset=i∧fd.name≠ "_" ∧S.ty fd.type=some T∧(match T with | .int _=>True | .bool=>True | .str=>True | _=>False)∧xG S fs ts (i+1)
 | _,_,_=>False
def xH (P:Program) (S:bg):List Field→List Ty→Nat→Prop
 | [],ts,_=>ts= []
 | fd::fs,ts,i=>fd.offset=i∧fd.name≠ "_" ∧
  ((∃ T r,ts=T::r∧S.ty fd.type=some T∧(match T with | .int _=>True | .bool=>True | .str=>True | _=>False)∧xH P S fs r (i+1))∨
   ∃ v r gs,ts=S.F v++r∧S.ty fd.type=some (.st v)∧P.underlying fd.type=some (.struct gs)∧P.stoodInHeld fd.type=false∧1≤(S.F v).length∧xG S gs.toList (S.F v) 0∧xH P S fs r (i+(S.F v).length))
def EqAt (P:Program) (S:bg) (t:Nat):Prop:=
 ∃ u,S.ty t=some (.st u)∧(∃ fs,P.underlying t=some (.struct fs)∧xH P S fs.toList (S.F u) 0)∧P.stoodInHeld t=false∧P.eqGuardType P.depth t=false
structure bf:Prop extends dm S where
 ty: ∀ t T,S.ty t=some T→cB P S au t T
 pt: ∀ t,S.pt t=true→ ∃ e,P.underlying t=some (.pointer e)
 eq: ∀ t,S.eq t=true→EqAt P S t
 ru: ∀ t,S.ru t=true→ ∃ ms,P.underlying t=some (.interface ms)
 bt: ∀ p,S.bt=some p→p.1≠p.2∧ ∃ i z,P.info? p.1=some i∧i.zero=some z∧z.cells= #[.pointer none, .slice none 0 0]
variable {P S au}
theorem bf.agg (h:bf P S au) {t:Nat} {T:Ty} (ht:S.ty t=some T) (w:World):(Go.isAgg t).run P w= .ok (bA T) w:=by
 obtain ⟨_,h2⟩:=h.ty t T ht
 unfold Go.isAgg
 cases T with
 | int k=>simp [run_underlying h2,bA]
 | bool=>simp [run_underlying h2,bA]
 | str=>simp [run_underlying h2,bA]
 | pt=>obtain ⟨e,h2⟩:=h2; simp [run_underlying h2,bA]
 | sl e=>obtain ⟨te,ie,hu,_⟩:=h2; simp [run_underlying hu,bA]
 | st u=>
  obtain ⟨_,h2⟩:=h2
  cases ha:S.ar t with
  | none=>rw [ha] at h2; obtain ⟨fs,hu,_⟩:=h2; simp [run_underlying hu,bA]
  | some p=>rw [ha] at h2; obtain ⟨te,hu,_⟩:=h2; simp [run_underlying hu,bA]
theorem bf.size (h:bf P S au) {t:Nat} {T:Ty} (ht:S.ty t=some T) (w:World):(Go.sizeOf t).run P w= .ok (Ty.sz S T) w:=by
 obtain ⟨⟨i,z,h1,h2,_⟩,_⟩:=h.ty t T ht
 simp [Go.sizeOf,typeInfo,h1,h2]
theorem bf.Px (h:bf P S au) {t:Nat} {T:Ty} (ht:S.ty t=some T): ∃ d,P.underlying t=some d:=by
 obtain ⟨_,h2⟩:=h.ty t T ht
 cases T with
 | int k=>exact ⟨_,h2⟩
 | bool=>exact ⟨_,h2⟩
 | str=>exact ⟨_,h2⟩
 | pt=>obtain ⟨e,h2⟩:=h2; exact ⟨_,h2⟩
 | sl e=>obtain ⟨te,ie,hu,_⟩:=h2; exact ⟨_,hu⟩
 | st u=>
  obtain ⟨_,h2⟩:=h2
  cases ha:S.ar t with
  | none=>rw [ha] at h2; obtain ⟨fs,hu,_⟩:=h2; exact ⟨_,hu⟩
  | some p=>rw [ha] at h2; obtain ⟨te,hu,_⟩:=h2; exact ⟨_,hu⟩
theorem fH {bx:Bx S.C} {ids:List Nat} {i:Nat} {B:dZ S.C} (h:restrict S bx ids i=some B):bx i=some B:=by
 unfold restrict at h
 cases e:ids.contains i with
 | true=>rw [e] at h; exact h
 | false=>rw [e] at h; cases h
variable {w0:World} {M0 s0:St} {dq:List Deferred} {env:Env S.C} {a:Act} {w:World} {μ:Nat→Loc} {K:Act→World→Prop} {Q:Exit→Act→World→Prop} {o:Oper} {V:V S.C} {us:aR S.C}
def Goal (P:Program) (S:bg) (w0:World) (M0 s0:St) (dq:List Deferred) (env:Env S.C) (a:Act) (dst:Option Nat) (V:Sy.V S.C) (us:aR S.C) (K:Act→World→Prop):Prop:=
 ∀ a' w' μ',Inv P S w0 M0 s0 dq (env.apply dst V us) a' w' μ'→a'.tmps.size=a.tmps.size→K a' w'
theorem bF {V V':Sy.V S.C} {us us':aR S.C} (h:(aL S V us).leaf (V',us')):V'=V∧us'=us:=by
 have :(V,us)=(V',us'):=h
 cases this; exact ⟨rfl,rfl⟩
theorem Gw {nl:Bool} (h:Inv P S w0 M0 s0 dq env a w μ) (hd: ∀ d,o.dst=some d→d<a.tmps.size) {x:Operand} {B:Nat} (ho:execOp a.eval o=pure (.value (a.eval x)))
 (hnew: ∀ u ∈ us,B≤u.1→u.1<B+16→env.bx u.1=none)
 (hl:(match aX S env.tm x with
  | some .cO=>cond nl (aL S .cO []) (match fB S o.type with
   | some e=>aL S (.bk B e []) [(B, .tail)]
   | none=> .fail)
  | some v=>aL S v []
  | none=> .fail).leaf (V,us)) (hK:Goal P S w0 M0 s0 dq env a o.dst V us K):o.wp P a w K Q:=by
 have hrun:(execOp a.eval o).run P w= .ok (.value (a.eval x)) w:=by rw [ho]; rfl
 split at hl
 · rename_i hx
   obtain ⟨hv,_⟩:=bD h hx
   cases nl with
   | true=>
    obtain ⟨rfl,rfl⟩:=bF hl
    exact wp_pure h hrun hd hv (by simp [aI,aG]) hK
   | false=>
   rw [cond_false] at hl
   split at hl
   · rename_i e he
     obtain ⟨rfl,rfl⟩:=bF hl
     have hB:=hnew (B, .tail) (by simp) (Nat.le_refl _) (by show B<B+16; omega)
     have hv:a.eval x= .slice none 0 0:=hv
     refine sH (i:=B) (B:= .tail) (L:=⟨0,0,0,0,true⟩) h hrun hd (bq.refl w _) hB (fun b o hf=> ?_) (fun _ _ _=>⟨fun j hj=>absurd hj (Nat.not_lt_zero j), ?_⟩) (by simp) (fun j hj=> .inl (by simpa [aI,aG] using hj)) hK
     · have h1:=hf.2.1; have h2:=hf.2.2; simp at h2
     · rw [hv]
       refine ⟨⟨rfl,1,none,0,rfl,Nat.le_refl _, .inl rfl⟩,fun _=>⟨none,0,rfl, ?_⟩⟩
       rw [aY]
       exact .inl ⟨rfl,rfl,rfl⟩
   · exact hl.elim
 · rename_i v hne hx
   obtain ⟨rfl,rfl⟩:=bF hl
   obtain ⟨hv,hr⟩:=bD h hx
   exact wp_pure h hrun hd hv hr hK
 · exact hl.elim
theorem me {w:World} {s:St} {k:IntKind} {n:Int} {v:Value} (h:cy S w s (.int k) n v):v= .int k n:=by
 obtain ⟨ha,m,hm⟩:=h
 cases m with
 | zero=>exact hm.elim
 | succ m=>exact qN hm ha
theorem sQ {w:World} {s:St} {b:Bool} {v:Value} (h:cy S w s .bool b v):v= .bool b:=by
 obtain ⟨ha,m,hm⟩:=h
 cases m with
 | zero=>exact hm.elim
 | succ m=>exact qN hm ha
theorem nF {w:World} {s:St} {b:List UInt8} {v:Value} (h:cy S w s .str b v):v= .string ⟨b.toArray⟩:=by
 obtain ⟨ha,m,hm⟩:=h
 cases m with
 | zero=>exact hm.elim
 | succ m=>exact qN hm ha
theorem mg {w:World} {s:St} {e:Ty} {l:List (e.den S.C)} {v:Value} (h:cy S w s (.sl e) l v):
 ∃ a cap,v= .slice a l.length cap∧l.length≤cap∧(l.length=0∨ ∃ b o n,a=some ⟨b,o,none⟩∧xF S (fun t x cs=>aM S w s n t x cs) w s e b o l):=by
 obtain ⟨ha,m,hm⟩:=h
 cases m with
 | zero=>exact hm.elim
 | succ m=>
  obtain ⟨a,cap,h1,h2,h3⟩:=hm
  exact ⟨a,cap,qN h1 ha,h2,h3.imp id fun ⟨b,o,h4,h5⟩=>⟨b,o,m,h4,h5⟩⟩
theorem jz (w:World) (s:St) (k:IntKind) (n:Int):cy S w s (.int k) n (.int k n):=⟨rfl,1,rfl⟩
theorem oU (w:World) (s:St) (b:Bool):cy S w s .bool b (.bool b):=⟨rfl,1,rfl⟩
theorem Dl (w:World) (s:St) (b:List UInt8):cy S w s .str b (.string ⟨b.toArray⟩):=⟨rfl,1,rfl⟩
theorem jW {w:World} {s:St} {bx:Bx S.C} {V:Sy.V S.C} {v:Value} {k:IntKind} {n:Int} (h:RV P S w s μ bx V v) (hi:V.int?=some (k,n)):v= .int k n:=by
 unfold Sy.V.int? at hi
 split at hi
 · cases hi; exact me h
 · cases hi
theorem Dk {w:World} {s:St} {bx:Bx S.C} {V:Sy.V S.C} {v:Value} {b:List UInt8} (h:RV P S w s μ bx V v) (hi:V.sD=some b):v= .string ⟨b.toArray⟩:=by
 unfold Sy.V.sD at hi
 split at hi
 · cases hi; exact nF h
 · cases hi
theorem Jt {w:World} {s:St} {bx:Bx S.C} {V:Sy.V S.C} {v:Value} {b:Bool} (h:RV P S w s μ bx V v) (hi:V.bool?=some b):v= .bool b:=by
 unfold Sy.V.bool? at hi
 split at hi
 · cases hi; exact sQ h
 · cases hi; exact h
 · cases hi
theorem Kv (h:Inv P S w0 M0 s0 dq env a w μ) {x:Operand} {b:Bool} (hx:aX S env.tm x=some (.d .bool b)):a.eval x= .bool b:=
 sQ (bD h hx).1
theorem Xv (h:Inv P S w0 M0 s0 dq env a w μ) (hd: ∀ d,o.dst=some d→d<a.tmps.size) {c x y:Operand} (ho:o.op= .pick c x y)
 (hl:(match aX S env.tm c with
  | some (.d .bool b)=>match (b:Bool) with
   | true=>match aX S env.tm x with
    | some v=>aL S v []
    | none=> .fail
   | false=>match aX S env.tm y with
    | some v=>aL S v []
    | none=> .fail
  | _=> .fail).leaf (V,us)) (hK:Goal P S w0 M0 s0 dq env a o.dst V us K):o.wp P a w K Q:=by
 split at hl
 · rename_i b hc
   have hb:=Kv h hc
   cases b with
   | true=>
    dsimp only at hl
    split at hl
    · rename_i v hx
      obtain ⟨rfl,rfl⟩:=bF hl
      obtain ⟨hv,hr⟩:=bD h hx
      exact wp_pure h (by simp [execOp,ho,hb,asBool]) hd hv hr hK
    · exact hl.elim
   | false=>
    dsimp only at hl
    split at hl
    · rename_i v hx
      obtain ⟨rfl,rfl⟩:=bF hl
      obtain ⟨hv,hr⟩:=bD h hx
      exact wp_pure h (by simp [execOp,ho,hb,asBool]) hd hv hr hK
    · exact hl.elim
 · exact hl.elim
end
end Go.Sy
namespace Go.Sy
section
variable {P:Program} {S:bg} {au:Nat→Nat}
variable {w0:World} {M0 s0:St} {dq:List Deferred} {env:Env S.C} {a:Act} {w:World} {μ:Nat→Loc} {K:Act→World→Prop} {Q:Exit→Act→World→Prop} {o:Oper} {V:V S.C} {us:aR S.C}
theorem vg {α:Type} [BEq α] [LawfulBEq α] [DecidableEq α] (x y:α):(x == y)=decide (x=y):=by rw [Bool.eq_iff_iff]; simp
theorem gq {gs:List Gd} {V':Sy.V S.C} {us':aR S.C} (h:(Tr.gd gs (aL S V' us')).leaf (V,us)):(∀ g ∈ gs,g.p)∧V=V'∧us=us':=by
 obtain ⟨h1,h2⟩:=Tr.Gl gs h
 exact ⟨h1,bF h2⟩
theorem Rp {op:BinOp} {k k':IntKind} (hk:L6 op=true∨k=k') {x y:Int} {gs:List Gd} (h:arith S op k x y=some (gs,V)) (hg: ∀ g ∈ gs,g.p) (t:TypeId) (w:World):
 (∃ v,(binOp op t (.int k x) (.int k' y)).run P w= .ok v w∧ ∀ (w1:World) (s:St) (μ:Nat→Loc) (bx:Bx S.C),RV P S w1 s μ bx V v)∧aI S V= []:=by
 cases op <;> simp only [arith] at h <;> cases h
 case add=>rcases hk with hk | rfl; cases hk; exact ⟨⟨_,by simp [binOp,Op.intArith],fun _ _ _ _=>jz ..⟩,rfl⟩
 case sub=>rcases hk with hk | rfl; cases hk; exact ⟨⟨_,by simp [binOp,Op.intArith],fun _ _ _ _=>jz ..⟩,rfl⟩
 case mul=>rcases hk with hk | rfl; cases hk; exact ⟨⟨_,by simp [binOp,Op.intArith],fun _ _ _ _=>jz ..⟩,rfl⟩
 case quo=>
  rcases hk with hk | rfl; cases hk
  have h0: ¬ y=0:=hg _ (List.mem_singleton.2 rfl)
  exact ⟨⟨_,by simp [binOp,Op.intDiv,h0],fun _ _ _ _=>jz ..⟩,rfl⟩
 case rem=>
  rcases hk with hk | rfl; cases hk
  have h0: ¬ y=0:=hg _ (List.mem_singleton.2 rfl)
  exact ⟨⟨_,by simp [binOp,Op.intDiv,h0],fun _ _ _ _=>jz ..⟩,rfl⟩
 case and=>rcases hk with hk | rfl; cases hk; exact ⟨⟨_,by simp [binOp,Op.intBits],fun _ _ _ _=>jz ..⟩,rfl⟩
 case shl=>
  have h0:0≤y:=hg _ (List.mem_singleton.2 rfl)
  have h0': ¬ y<0:=by omega
  exact ⟨⟨_,by simp [binOp,Op.shift,h0'],fun _ _ _ _=>jz ..⟩,rfl⟩
 case shr=>
  have h0:0≤y:=hg _ (List.mem_singleton.2 rfl)
  have h0': ¬ y<0:=by omega
  exact ⟨⟨_,by simp [binOp,Op.shift,h0'],fun _ _ _ _=>jz ..⟩,rfl⟩
 case eql=>rcases hk with hk | rfl; cases hk; exact ⟨⟨.bool (decide (x=y)),by simp [binOp,Op.intCmp,vg],fun _ _ _ _=>rfl⟩,rfl⟩
 case neq=>rcases hk with hk | rfl; cases hk; exact ⟨⟨.bool (decide (x≠y)),by simp [binOp,Op.intCmp,bne,vg],fun _ _ _ _=>rfl⟩,rfl⟩
 case lss=>rcases hk with hk | rfl; cases hk; exact ⟨⟨.bool (decide (x<y)),by simp [binOp,Op.intCmp],fun _ _ _ _=>rfl⟩,rfl⟩
 case leq=>rcases hk with hk | rfl; cases hk; exact ⟨⟨.bool (decide (x≤y)),by simp [binOp,Op.intCmp],fun _ _ _ _=>rfl⟩,rfl⟩
 case gtr=>rcases hk with hk | rfl; cases hk; exact ⟨⟨.bool (decide (y<x)),by simp [binOp,Op.intCmp],fun _ _ _ _=>rfl⟩,rfl⟩
 case geq=>rcases hk with hk | rfl; cases hk; exact ⟨⟨.bool (decide (y≤x)),by simp [binOp,Op.intCmp],fun _ _ _ _=>rfl⟩,rfl⟩
theorem aa8 {op:BinOp} {x y:List UInt8} {gs:List Gd} (h:Ig S op x y=some (gs,V)) (hg: ∀ g ∈ gs,g.p) (t:TypeId) (w:World):
 (∃ v,(binOp op t (.string ⟨x.toArray⟩) (.string ⟨y.toArray⟩)).run P w= .ok v w∧ ∀ (w1:World) (s:St) (μ:Nat→Loc) (bx:Bx S.C),RV P S w1 s μ bx V v)∧aI S V= []:=by
 cases op <;> simp only [Ig] at h <;> cases h
 case add=>
  have h0:x.length+y.length≤9223372036854775807:=hg _ (List.mem_singleton.2 rfl)
  refine ⟨⟨.string ⟨(x++y).toArray⟩, ?_,fun _ _ _ _=>Dl ..⟩,rfl⟩
  have h1: ¬ (IntKind.i64.max<((ByteArray.size ⟨x.toArray⟩+ByteArray.size ⟨y.toArray⟩:Nat):Int)):=by
   show ¬ ((9223372036854775807:Int)<((x.toArray.size+y.toArray.size:Nat):Int))
   simp; omega
  have h2:(⟨x.toArray⟩:ByteArray)++⟨y.toArray⟩=⟨(x++y).toArray⟩:=by
   apply ByteArray.ext; simp
  simp only [binOp,Op.stringOp]
  rw [if_neg h1,h2]
  rfl
 case eql=>exact ⟨⟨.bool (decide (x=y)),by simp [binOp,Op.stringOp,vg],fun _ _ _ _=>rfl⟩,rfl⟩
 case neq=>exact ⟨⟨.bool (decide (x≠y)),by simp [binOp,Op.stringOp,vg],fun _ _ _ _=>rfl⟩,rfl⟩
def GQ:Value→Bool
 | .agg _ | .nilIface=>false
 | _=>true
theorem ES {op:BinOp} {t:TypeId} {x y:Operand} {v u:Value} (h:GQ v=true) (w:World):(eqGuard op t x y v u).run P w= .ok () w:=by
 unfold eqGuard
 cases v <;> first | (simp [GQ] at h; done) | (simp; done) | (simp; split <;> rfl)
theorem aag (d:Nat) {t:TypeId} (hu:P.underlying t=some .bool) (b c:Bool) (w:World):(Op.equalIn (d+1) t (.bool b) (.bool c)).run P w= .ok (b == c) w:=by
 unfold Op.equalIn
 simp [run_underlying hu]
theorem Ox {t:TypeId} (hu:P.underlying t=some .bool) (b c:Bool) (w:World):(Op.equal t (.bool b) (.bool c)).run P w= .ok (b == c) w:=aag 9999 hu b c w
theorem aah (d:Nat) {t e:TypeId} (hu:P.underlying t=some (.pointer e))  (w:World):(Op.equalIn (d+1) t (.pointer none) (.pointer none)).run P w= .ok true w:=by
 unfold Op.equalIn
 simp [run_underlying hu]
theorem Oy {t e:TypeId} (hu:P.underlying t=some (.pointer e))  (w:World):(Op.equal t (.pointer none) (.pointer none)).run P w= .ok true w:=aah 9999 hu w
theorem aai (d:Nat) {t e:TypeId} (hu:P.underlying t=some (.pointer e)) (p:Addr) (w:World):(Op.equalIn (d+1) t (.pointer (some p)) (.pointer none)).run P w= .ok false w:=by
 unfold Op.equalIn
 simp [run_underlying hu]
theorem Oz {t e:TypeId} (hu:P.underlying t=some (.pointer e)) (p:Addr) (w:World):(Op.equal t (.pointer (some p)) (.pointer none)).run P w= .ok false w:=aai 9999 hu p w
theorem RI (hP:bf P S au) (h:Inv P S w0 M0 s0 dq env a w μ) (hd: ∀ d,o.dst=some d→d<a.tmps.size) {op:BinOp} {t t':TypeId} {x y:Operand} (ho:o.op= .binOp op t x y t')
 (hl:(match aX S env.tm x,aX S env.tm y with
  | some p,some q=>match AL S op t p q with
   | some (gs,v)=>Tr.gd gs (aL S v [])
   | none=> .fail
  | _,_=> .fail).leaf (V,us)) (hK:Goal P S w0 M0 s0 dq env a o.dst V us K):o.wp P a w K Q:=by
 split at hl
 · rename_i p q hx hy
   split at hl
   · rename_i gs v hb
     obtain ⟨hg,rfl,rfl⟩:=gq hl
     obtain ⟨hv1,_⟩:=bD h hx
     obtain ⟨ig,_⟩:=bD h hy
     have fin: ∀ (v1 v2:Value),a.eval x=v1→a.eval y=v2→GQ v1=true→
      ((∃ v,(binOp op t v1 v2).run P w= .ok v w∧ ∀ (w1:World) (s:St) (μ:Nat→Loc) (bx:Bx S.C),RV P S w1 s μ bx V v)∧aI S V= [])→o.wp P a w K Q:=by
      rintro v1 v2 e1 e2 ha ⟨⟨v,hr,hv⟩,hid⟩
      refine wp_pure h (v:=v) ?_ hd (hv ..) (by simp [hid]) hK
      unfold execOp
      simp only [ho,e1,e2]
      simp [ES ha,hr]
     unfold AL at hb
     split at hb
     · rename_i k i k' j h1 h2
       split at hb
       · rename_i hk
         exact fin _ _ (jW hv1 h1) (jW ig h2) rfl (Rp hk hb hg t w)
       · cases hb
     · split at hb
       · rename_i h1 h2
         exact fin _ _ (Dk hv1 h1) (Dk ig h2) rfl (aa8 hb hg t w)
       · split at hb
         · rename_i b c h1 h2
           have e1:=Jt hv1 h1
           have e2:=Jt ig h2
           cases hty:S.ty t with
           | none=>rw [hty] at hb; cases hb
           | some T=>
            rw [hty] at hb
            cases T with
            | bool=>
             have hu:P.underlying t=some .bool:=(hP.ty t _ hty).2
             refine fin _ _ e1 e2 rfl ?_
             dsimp only [cond] at hb
             split at hb <;> cases hb
             · exact ⟨⟨.bool (decide (b=c)),by simp [binOp,Ox hu,vg],fun _ _ _ _=>rfl⟩,rfl⟩
             · exact ⟨⟨.bool (decide (b≠c)),by simp [binOp,Ox hu,vg],fun _ _ _ _=>rfl⟩,rfl⟩
            | _=>cases hb
         · cases FP:S.pt t with
           | false=>rw [FP] at hb; cases hb
           | true=>
            rw [FP] at hb
            obtain ⟨e,hu⟩:=hP.pt t FP
            dsimp only [cond] at hb
            split at hb
            · have e1:a.eval x= .pointer none:=hv1
              have e2:a.eval y= .pointer none:=ig
              refine fin _ _ e1 e2 rfl ?_
              split at hb <;> cases hb
              · exact ⟨⟨.bool true,by simp [binOp,Oy hu],fun _ _ _ _=>oU ..⟩,rfl⟩
              · exact ⟨⟨.bool false,by simp [binOp,Oy hu],fun _ _ _ _=>oU ..⟩,rfl⟩
            · rename_i b off
              have e2:a.eval y= .pointer none:=ig
              have e1:a.eval x=_:=hv1
              refine fin _ _ e1 e2 rfl ?_
              split at hb <;> cases hb
              · exact ⟨⟨.bool false,by simp [binOp,Oz hu],fun _ _ _ _=>oU ..⟩,rfl⟩
              · exact ⟨⟨.bool true,by simp [binOp,Oz hu],fun _ _ _ _=>oU ..⟩,rfl⟩
            · cases hb
   · exact hl.elim
 · exact hl.elim
end
end Go.Sy
namespace Go.Sy
section
variable {P:Program} {S:bg} {au:Nat→Nat}
variable {w0:World} {M0 s0:St} {dq:List Deferred} {env:Env S.C} {a:Act} {w:World} {μ:Nat→Loc} {K:Act→World→Prop} {Q:Exit→Act→World→Prop} {o:Oper} {V:V S.C} {us:aR S.C}
theorem o9 {t:Nat} {e:Ty} (h:fB S t=some e):S.ty t=some (.sl e):=by
 unfold fB at h
 split at h
 · rename_i e' he; cases h; exact he
 · cases h
theorem bf.sl (hP:bf P S au) {t:Nat} {e:Ty} (h:S.ty t=some (.sl e)): ∃ te ie z,P.underlying t=some (.slice te)∧S.ty te=some e∧P.info? te=some ie∧ie.bytes=au t∧1≤au t∧ie.size=Ty.sz S e∧ie.zero=some z∧isAgg z=bA e∧z.cells.toList=uZ S e:=by
 obtain ⟨_,te,ie,h1,h2,h3,h4,h5⟩:=hP.ty t _ h
 obtain ⟨⟨i,z,g1,g2,g3,g4,g5⟩,_⟩:=hP.ty te e h2
 rw [h3] at g1
 cases g1
 exact ⟨te,ie,z,h1,h2,h3,h4,h5,g2,g3,g4,g5⟩
theorem HL (hP:bf P S au) {t:Nat} {e:Ty} (ht:S.ty t=some (.sl e)) {b o' n cap:Nat} {k:IntKind} {i:Int} (h0:0≤i) (h1:i<(n:Int)) (w:World):
 (Instr.indexAt t (.slice (some ⟨b,o',none⟩) n cap) (.int k i)).run P w= .ok (.pointer (some ⟨b,o'+i.toNat*Ty.sz S e,none⟩)) w:=by
 obtain ⟨te,ie,z,hu,he,_⟩:=hP.sl ht
 simp [Instr.indexAt,asIntOf,run_underlying hu,h0,h1,hP.size he w,Addr.add_mid]
theorem vA {e:Ty} {l:List (e.den S.C)} {i:Int} (h0:0≤i) (h1:i<(l.length:Int)):l[i.toNat]? =some (iD S e l i):=by
 have :i.toNat<l.length:=by omega
 unfold iD
 rw [List.getD_eq_getElem?_getD,List.getElem?_eq_getElem this]
 rfl
theorem MW {b:Nat} {i:Int} {p:Sy.V S.C×aR S.C} : ∀ (n j:Nat),(GP S b i j n).leaf p→ ∃ k:Nat,i=(k:Int)∧p=(.ptr b k,[])
 | 0,_,h=>h.elim
 | n+1,j,h=>by
  rcases h with ⟨h1,h2⟩ | ⟨_,h2⟩
  · exact ⟨j,h1,h2.symm⟩
  · exact MW n (j+1) h2
theorem VS (hP:bf P S au) (h:Inv P S w0 M0 s0 dq env a w μ) (hd: ∀ d,o.dst=some d→d<a.tmps.size) {t:TypeId} {x i:Operand} {ids:List Nat} (ho:o.op= .indexAddr t x i)
 (hl:(match fB S t,aX S env.tm x,aX S env.tm i with
  | some e,some v,some w=>match w.int? with
   | some (_,n)=>Ga S e (restrict S env.bx ids) n v
   | none=> .fail
  | _,_,_=> .fail).leaf (V,us)) (hK:Goal P S w0 M0 s0 dq env a o.dst V us K):o.wp P a w K Q:=by
 split at hl
 · rename_i e v wv het hx hi
   have ht:=o9 het
   obtain ⟨hv,dM⟩:=bD h hx
   obtain ⟨pJ,_⟩:=bD h hi
   split at hl
   · rename_i k n hn
     have hin:=jW pJ hn
     have data: ∀ (e':Ty) (l:List (e'.den S.C)),cy S w (aO S w0 M0 s0 env.bx μ w) (.sl e') l (a.eval x)→(if e'=e then Tr.gd (eH n l.length) (aL S (.dL e' (iD S e' l n)) []) else .fail).leaf (V,us)→o.wp P a w K Q:=by
      intro e' l hr cv
      clear hl
      split at cv
      · rename_i he
        subst he
        obtain ⟨hg,rfl,rfl⟩:=gq cv
        have g0:0≤n:=hg ⟨0≤n,inferInstance⟩ (by simp [eH,gd])
        have g1:n<(l.length:Int):=hg ⟨n<(l.length:Int),inferInstance⟩ (by simp [eH,gd])
        obtain ⟨ad,cap,e1,e2,e3⟩:=mg hr
        rcases e3 with e3 | ⟨b,o',m,rfl,hel⟩
        · omega
        · obtain ⟨ds,d1,d2,d3⟩:=hel n.toNat _ (vA g0 g1)
          refine wp_pure (V:= .dL e' (iD S e' l n)) h (v:= .pointer (some ⟨b,o'+n.toNat*Ty.sz S e',none⟩)) ?_ hd ⟨b,_,ds,rfl,d2,d1,m,d3⟩ (by simp [aI,aG]) hK
          unfold execOp
          simp only [ho,e1,hin]
          simp [HL hP ht g0 g1]
      · exact cv.elim
     have own: ∀ (b:Nat) (e':Ty) (l:List (e'.den S.C)),v= .aS b→(env.bx b=some (.arr e' l)∨env.bx b=some (.bM e' l))→(if e'=e then Tr.gd (eH n l.length) (aL S (.fK b n 0) []) else .fail).leaf (V,us)→o.wp P a w K Q:=by
      intro b e' l FW hb cv
      clear hl
      split at cv
      · rename_i he
        subst he
        obtain ⟨hg,rfl,rfl⟩:=gq cv
        have g0:0≤n:=hg ⟨0≤n,inferInstance⟩ (by simp [eH,gd])
        have g1:n<(l.length:Int):=hg ⟨n<(l.length:Int),inferInstance⟩ (by simp [eH,gd])
        subst FW
        obtain ⟨ad,cap,e1,hao⟩:=hv.2 e' l hb
        have Vn:(μ b).nil=false:=by
         cases pI:(μ b).nil with
         | false=>rfl
         | true=>have :=hao.isNil pI; have :=hao.mA; have :=hao.fits; omega
        have had:ad=some ⟨(μ b).b,(μ b).o,none⟩:=by rw [hao.addr,Vn]; rfl
        subst had
        refine wp_pure (V:= .fK b n 0) h (v:= .pointer (some ⟨(μ b).b,(μ b).o+n.toNat*Ty.sz S e',none⟩)) ?_ hd ⟨⟨_,rfl⟩,fun e'' l'' yG=> ?_⟩ (fun j hj=>dM j (by simpa [aI,aG] using hj)) hK
        · unfold execOp
          simp only [ho,e1,hin]
          simp [HL hP ht g0 g1]
        · have :(∃ h:e''=e',h▸l''=l):=by
           rcases hb with hb | hb <;> rcases yG with yG | yG <;> rw [hb] at yG <;> cases yG <;> exact ⟨rfl,rfl⟩
          obtain ⟨rfl,rfl⟩:=this
          exact ⟨g0,by show n.toNat<l''.length; have g1:n<(l''.length:Int):=g1; omega,rfl⟩
      · exact cv.elim
     unfold Ga at hl
     split at hl
     · exact data _ _ hv hl
     · exact data _ _ hv.1 hl
     · rename_i b
       split at hl
       · rename_i hb; exact own _ _ _ rfl (.inl (fH hb)) hl
       · rename_i hb; exact own _ _ _ rfl (.inr (fH hb)) hl
       · exact hl.elim
     · rename_i b m
       split at hl
       · rename_i e1
         obtain ⟨hg,hl⟩:=Tr.Gl _ hl
         have g0:0≤n:=hg ⟨0≤n,inferInstance⟩ (by simp [eH,gd])
         have g1:n<(m:Int):=hg ⟨n<(m:Int),inferInstance⟩ (by simp [eH,gd])
         obtain ⟨j,hj,hp⟩:=MW m 0 hl
         cases hp
         have hv:a.eval x= .slice (some ⟨(μ b).b,(μ b).o,none⟩) m m:=hv
         have e2:n.toNat=j:=by omega
         refine wp_pure (V:= .ptr b j) h (v:= .pointer (some ⟨(μ b).b,(μ b).o+j,none⟩)) ?_ hd rfl (fun j hj=>dM j (by simpa [aI,aG] using hj)) hK
         unfold execOp
         simp only [ho,hv,hin]
         have :=HL hP ht (b:=(μ b).b) (o':=(μ b).o) (n:=m) (cap:=m) (k:=k) g0 g1
         rw [e2,show j*Ty.sz S (.sl e1)=j from Nat.mul_one j] at this
         simp [this]
       · exact hl.elim
     · exact hl.elim
   · exact hl.elim
 · exact hl.elim
theorem VU (hP:bf P S au) (h:Inv P S w0 M0 s0 dq env a w μ) (hd: ∀ d,o.dst=some d→d<a.tmps.size) {t:TypeId} {x i:Operand} (ho:o.op= .index t x i)
 (hl:(match aX S env.tm x,aX S env.tm i with
  | some v,some w=>match S.ty t,v.sD,w.int? with
   | some .str,some s,some (_,n)=>Tr.gd (eH n s.length) (aL S (.d (.int .u8) (((s.getD n.toNat 0).toNat:Nat):Int)) [])
   | _,_,_=> .fail
  | _,_=> .fail).leaf (V,us)) (hK:Goal P S w0 M0 s0 dq env a o.dst V us K):o.wp P a w K Q:=by
 split at hl
 · rename_i v wv hx hi
   obtain ⟨hv,dM⟩:=bD h hx
   obtain ⟨pJ,_⟩:=bD h hi
   split at hl
   · rename_i s k n ht hs hn
     obtain ⟨hg,rfl,rfl⟩:=gq hl
     have g0:0≤n:=hg ⟨0≤n,inferInstance⟩ (by simp [eH,gd])
     have g1:n<(s.length:Int):=hg ⟨n<(s.length:Int),inferInstance⟩ (by simp [eH,gd])
     have hu:P.underlying t=some .string:=(hP.ty t _ ht).2
     have hlt:n.toNat<s.length:=by omega
     refine wp_pure (V:= .d (.int .u8) (((s.getD n.toNat 0).toNat:Nat):Int)) h (v:= .int .u8 (((s.getD n.toNat 0).toNat:Nat):Int)) ?_ hd (jz ..) (by simp [aI,aG]) hK
     unfold execOp
     simp only [ho,Dk hv hs,jW pJ hn]
     have e1:(⟨s.toArray⟩:ByteArray)[n.toNat]? =some (s.getD n.toNat 0):=by
      rw [List.getD_eq_getElem?_getD,List.getElem?_eq_getElem hlt]
      show (if h:n.toNat<s.toArray.size then some _ else none)=_
      rw [dif_pos (by simpa using hlt)]
      rfl
     simp [Instr.index,asIntOf,run_underlying hu,g0,e1]
   · exact hl.elim
 · exact hl.elim
theorem TT (h:Inv P S w0 M0 s0 dq env a w μ) (hd: ∀ d,o.dst=some d→d<a.tmps.size) {x:Operand} {i:Nat} (ho:o.op= .extract x i)
 (hl:(match aX S env.tm x with
  | some (.jq vs)=>match vs[i]? with
   | some v=>aL S v []
   | none=> .fail
  | _=> .fail).leaf (V,us)) (hK:Goal P S w0 M0 s0 dq env a o.dst V us K):o.wp P a w K Q:=by
 split at hl
 · rename_i vs hx
   obtain ⟨⟨cs,hv,hvs⟩,dM⟩:=bD h hx
   split at hl
   · rename_i v hi
     obtain ⟨rfl,rfl⟩:=bF hl
     obtain ⟨c,hc,hr⟩:=aQ.get P S i hvs hi
     refine wp_pure h (v:=c) ?_ hd (nE hr) (fun j hj=> ?_) hK
     · unfold execOp
       have :cs[i]? =some c:=by simpa using hc
       simp only [ho,hv]
       simp [Instr.extract,this]
     · refine dM j ?_
       simp only [aI,List.mem_flatMap]
       refine ⟨V,List.mem_of_getElem? hi, ?_⟩
       cases V <;> first | exact hj | exact (hr:False).elim
   · exact hl.elim
 · exact hl.elim
theorem W6 (h:Inv P S w0 M0 s0 dq env a w μ) (hd: ∀ d,o.dst=some d→d<a.tmps.size) {x:Operand} (ho:o.op= .nilCheck x)
 (hl:(match aX S env.tm x with
  | some (.ptr b o)=>aL S (.ptr b o) []
  | some (.dL t x)=>aL S (.dL t x) []
  | some (.fK b i p)=>aL S (.fK b i p) []
  | some (.split b c)=>aL S (.split b c) []
  | _=> .fail).leaf (V,us)) (hK:Goal P S w0 M0 s0 dq env a o.dst V us K):o.wp P a w K Q:=by
 have fin: ∀ ad,a.eval x= .pointer (some ad)→aX S env.tm x=some V→us= []→o.wp P a w K Q:=by
  rintro ad he hx rfl
  obtain ⟨hv,hr⟩:=bD h hx
  refine wp_pure h (v:=a.eval x) ?_ hd hv hr hK
  unfold execOp
  simp only [ho,he]
  rfl
 split at hl
 · rename_i b off hx
   obtain ⟨rfl,rfl⟩:=bF hl
   have hv:a.eval x=_:=(bD h hx).1
   exact fin _ hv hx rfl
 · rename_i t y hx
   obtain ⟨rfl,rfl⟩:=bF hl
   obtain ⟨b,o',ds,hv,_⟩:=(bD h hx).1
   exact fin _ hv hx rfl
 · rename_i b i p hx
   obtain ⟨rfl,rfl⟩:=bF hl
   obtain ⟨⟨ad,hv⟩,_⟩:=(bD h hx).1
   exact fin _ hv hx rfl
 · rename_i b c hx
   obtain ⟨rfl,rfl⟩:=bF hl
   obtain ⟨k,q,hv,_⟩:=(bD h hx).1
   exact fin _ hv hx rfl
 · exact hl.elim
theorem abZ (h:Inv P S w0 M0 s0 dq env a w μ) (hd: ∀ d,o.dst=some d→d<a.tmps.size) {op:UnOp} {t:TypeId} {x:Operand} (ho:o.op= .unOp op t x)
 (hl:(match op,aX S env.tm x with
  | .not,some (.pr p i)=>aL S (.pr (¬ p) (@instDecidableNot p i)) []
  | .not,some (.d .bool b)=>aL S (.d .bool (Bool.not b)) []
  | .neg,some v=>match v.int? with
   | some (k,n)=>aL S (.d (.int k) (k.wrap (0 - n))) []
   | none=> .fail
  | _,_=> .fail).leaf (V,us)) (hK:Goal P S w0 M0 s0 dq env a o.dst V us K):o.wp P a w K Q:=by
 split at hl
 · rename_i p i hx
   obtain ⟨rfl,rfl⟩:=bF hl
   have hv:a.eval x= .bool (decide p):=(bD h hx).1
   refine wp_pure h (v:= .bool (!decide p)) ?_ hd ?_ (by simp [aI,aG]) hK
   · unfold execOp; simp only [ho,hv]; rfl
   · show Value.bool (!decide p)= .bool (decide (¬ p))
     simp
 · rename_i b hx
   obtain ⟨rfl,rfl⟩:=bF hl
   have hv:=sQ (bD h hx).1
   refine wp_pure (V:= .d .bool (Bool.not b)) h (v:= .bool (Bool.not b)) ?_ hd (oU ..) (by simp [aI,aG]) hK
   unfold execOp; simp only [ho,hv]; rfl
 · rename_i v hx
   split at hl
   · rename_i k n hn
     obtain ⟨rfl,rfl⟩:=bF hl
     have hv:=jW (bD h hx).1 hn
     refine wp_pure (V:= .d (.int k) (k.wrap (0 - n))) h (v:= .int k (k.wrap (0 - n))) ?_ hd (jz ..) (by simp [aI,aG]) hK
     unfold execOp; simp only [ho,hv]; rfl
   · exact hl.elim
 · exact hl.elim
theorem S9 (hP:bf P S au) (h:Inv P S w0 M0 s0 dq env a w μ) (hd: ∀ d,o.dst=some d→d<a.tmps.size) {s t:TypeId} {x:Operand} (ho:o.op= .convert s t x)
 (hl:(match S.ty s,S.ty t,aX S env.tm x with
  | some _,some (.int k),some v=>match v.int? with
   | some (_,n)=>aL S (.d (.int k) (k.wrap n)) []
   | none=> .fail
  | some _,some .str,some v=>match v.sD with
   | some s=>aL S (.d .str s) []
   | none=> .fail
  | _,_,_=> .fail).leaf (V,us)) (hK:Goal P S w0 M0 s0 dq env a o.dst V us K):o.wp P a w K Q:=by
 split at hl
 · rename_i T k v hs ht hx
   obtain ⟨d,hu⟩:=hP.Px hs
   split at hl
   · rename_i k' n hn
     obtain ⟨rfl,rfl⟩:=bF hl
     have hv:=jW (bD h hx).1 hn
     have FV:P.underlying t=some (.int k):=(hP.ty t _ ht).2
     refine wp_pure (V:= .d (.int k) (k.wrap n)) h (v:= .int k (k.wrap n)) ?_ hd (jz ..) (by simp [aI,aG]) hK
     unfold execOp
     simp only [ho,hv]
     simp [convert,run_underlying hu,run_underlying FV,Conv.intToInt]
   · exact hl.elim
 · rename_i T v hs ht hx
   obtain ⟨d,hu⟩:=hP.Px hs
   split at hl
   · rename_i b hn
     obtain ⟨rfl,rfl⟩:=bF hl
     have hv:=Dk (bD h hx).1 hn
     have FV:P.underlying t=some .string:=(hP.ty t _ ht).2
     refine wp_pure (V:= .d .str b) h (v:= .string ⟨b.toArray⟩) ?_ hd (Dl ..) (by simp [aI,aG]) hK
     unfold execOp
     simp only [ho,hv]
     simp [convert,run_underlying hu,run_underlying FV]
   · exact hl.elim
 · exact hl.elim
end
end Go.Sy
namespace Go.Sy
section
variable {P:Program} {S:bg} {au:Nat→Nat}
variable {w0:World} {M0 s0:St} {dq:List Deferred} {env:Env S.C} {a:Act} {w:World} {μ:Nat→Loc} {K:Act→World→Prop} {Q:Exit→Act→World→Prop} {o:Oper} {V:V S.C} {us:aR S.C}
theorem Jg {s:St} {bx:Bx S.C} {t:Ty} (ht:bA t=false) {V:Sy.V S.C} {v:Value} {x:t.den S.C} (hv:bI P S w s μ bx V v) (hx:dn S (fun _=>none) t V=some x): ∃ n,aM S w s n t x [v]:=by
 have hd: ∀ (u:Ty) (y:u.den S.C),cy S w s u y v→eV S u t y=some x→ ∃ n,aM S w s n t x [v]:=by
  intro u y hr hc
  obtain ⟨rfl,rfl⟩:=eG hc
  obtain ⟨h1,n,hn⟩:=hr
  rw [aM.mB h1 ht] at hn
  exact ⟨n,hn⟩
 cases V with
 | d u y=>exact hd u y hv hx
 | pr p i=>
  obtain ⟨rfl,rfl⟩:=eG hx
  cases hv
  exact ⟨1,rfl⟩
 | bk b e l=>exact hd (.sl e) l hv.1 hx
 | cO=>
  cases t with
  | sl e=>cases hx; cases hv; exact ⟨1,none,0,rfl,Nat.le_refl _, .inl rfl⟩
  | _=>cases hx
 | _=>cases hx
theorem Pm {s:St} {bx:Bx S.C} : ∀ (ts:List Ty) (hts:ts.all (fun t=> !bA t)=true) {vs:List (Sy.V S.C)} {cs:List Value} {x:ay S.C ts},
 aQ P S w s μ bx vs cs→iQ S (fun _=>none) ts vs=some x→ ∃ n,bG S (fun t x cs=>aM S w s n t x cs) ts x (cs.take ts.length)
 | [],_,_,cs,_,_,_=>⟨0,by simp [bG]⟩
 | t::ts,hts,[],_,_,_,hx=>by simp [iQ] at hx
 | t::ts,hts,V::vs,cs,x,⟨c,r,hcs,hv,hr⟩,hx=>by
  simp only [List.all_cons,Bool.and_eq_true,Bool.not_eq_true'] at hts
  simp only [iQ] at hx
  obtain ⟨y,hy,hx⟩:=Option.bind_eq_some_iff.1 hx
  obtain ⟨z,hz,hx⟩:=Option.bind_eq_some_iff.1 hx
  cases hx
  obtain ⟨n,hn⟩:=Jg hts.1 hv hy
  obtain ⟨m,hm⟩:=Pm ts hts.2 hr hz
  refine ⟨max n m,c,r.take ts.length,by simp [hcs], ?_, ?_⟩
  · rw [show ay.head (ay.cons y z)=y from by cases ts <;> rfl]
    exact hn.up S (by omega)
  · rw [show ay.tail (ay.cons y z)=z from by cases ts <;> rfl]
    exact bG.mono S (fun t x cs hr=>hr.up S (by omega)) _ _ _ hm
theorem L5 (hS:dm S) {s:St} {bx:Bx S.C} {t:Ty} {vs:List (Sy.V S.C)} {cs:List Value} {x:t.den S.C}
 (hv:aQ P S w s μ bx vs cs) (hx:jd S (fun _=>none) t vs=some x): ∃ n,aM S w s n t x (cs.take (Ty.sz S t)):=by
 have one:bA t=false→Ty.sz S t=1→(∃ V r,vs=V::r∧dn S (fun _=>none) t V=some x)→ ∃ n,aM S w s n t x (cs.take (Ty.sz S t)):=by
  rintro ht h1 ⟨V,vs',rfl,hx1⟩
  rw [h1]
  obtain ⟨c,r,hcs,hv,hr⟩:=hv
  subst hcs
  exact Jg ht hv hx1
 cases t with
 | st u=>
  simp only [jd] at hx
  obtain ⟨y,hy,hx⟩:=Option.bind_eq_some_iff.1 hx
  cases hx
  obtain ⟨n,hn⟩:=Pm (S.F u) (hS.flat u) hv hy
  refine ⟨n+1, ?_⟩
  show bG S _ (S.F u) (S.ex u (S.im u y)) _
  rw [hS.vq]
  exact hn
 | int k=>exact one rfl rfl (by cases vs with | nil=>cases hx | cons V r=>exact ⟨V,r,rfl,hx⟩)
 | bool=>exact one rfl rfl (by cases vs with | nil=>cases hx | cons V r=>exact ⟨V,r,rfl,hx⟩)
 | str=>exact one rfl rfl (by cases vs with | nil=>cases hx | cons V r=>exact ⟨V,r,rfl,hx⟩)
 | pt=>exact one rfl rfl (by cases vs with | nil=>cases hx | cons V r=>exact ⟨V,r,rfl,hx⟩)
 | sl e=>exact one rfl rfl (by cases vs with | nil=>cases hx | cons V r=>exact ⟨V,r,rfl,hx⟩)
theorem GM (P:Program) (hS:dm S) {s:St} {n:Nat} {e:Ty} {x:e.den S.C} {cs:List Value} (h:aM S w s n e x cs) {off:Nat} {t:Ty} {y:t.den S.C} (hy:partOf S e x off t=some y):
 ∃ m,aM S w s m t y ((cs.drop off).take (Ty.sz S t)):=by
 have he:=(nQ (P:=P) hS (fun _=>⟨0,0,0,0,true⟩) (fun _=>none) h).1
 exact L5 (P:=P) hS (he.drop P S off) hy
theorem At.part {s:St} {b o':Nat} {cs:List Value} (h:At w s b o' cs) (off n:Nat):At w s b (o'+off) ((cs.drop off).take n):=fun j v hj=>by
 rw [List.getElem?_take] at hj
 split at hj
 · rw [Nat.add_assoc]; exact h (off+j) v (by simpa using hj)
 · cases hj
theorem G5 {b o':Nat} {cs:List Value} (h:w.rangeAt b o' cs) (off n:Nat):w.rangeAt b (o'+off) ((cs.drop off).take n):=Nk (Nh h off) n
theorem At.range {s:St} {b o':Nat} {cs:List Value} (h:At w s b o' cs):w.rangeAt b o' cs:=fun j v hj=>(h j v hj).1
def fD (T:Ty) (ds:List Value):Value:=match T with
 | .st _=> .agg ds.toArray
 | _=>ds.headD Go.undef
theorem run_load (hP:bf P S au) {t:Nat} {T:Ty} (ht:S.ty t=some T) {b o':Nat} {ds:List Value} (hr:w.rangeAt b o' ds) (hl:ds.length=Ty.sz S T):
 (Instr.loadAt t (.pointer (some ⟨b,o',none⟩))).run P w= .ok (fD T ds) w:=by
 have one:bA T=false→Ty.sz S T=1→fD T ds=ds.headD Go.undef→(Instr.loadAt t (.pointer (some ⟨b,o',none⟩))).run P w= .ok (fD T ds) w:=by
  intro h1 h2 h3
  rw [h2] at hl
  obtain ⟨c,rfl⟩:=List.length_eq_one_iff.1 hl
  have hc:=hr 0 c rfl
  rw [h3]
  have hag:=hP.agg ht w
  rw [h1] at hag
  simp [Instr.loadAt,Instr.sureAddr,loadVar,hag]
  have :w.cell? ⟨b,o',none⟩=some c:=hc
  simp [this]
 cases T with
 | st u=>
  obtain ⟨⟨i,z,h1,h2,_⟩,_,h3⟩:=hP.ty t _ ht
  cases ha:S.ar t with
  | none=>rw [ha] at h3; obtain ⟨fs,hu,_⟩:=h3; exact run_loadAt_mid w b o' t ds (.struct fs) hr hu rfl (by rw [h1]; simp [h2,hl])
  | some p=>rw [ha] at h3; obtain ⟨te,hu,_⟩:=h3; exact run_loadAt_mid w b o' t ds (.array p.1 te) hr hu rfl (by rw [h1]; simp [h2,hl])
 | int k=>exact one rfl rfl rfl
 | bool=>exact one rfl rfl rfl
 | str=>exact one rfl rfl rfl
 | pt=>exact one rfl rfl rfl
 | sl e=>exact one rfl rfl rfl
theorem BU {s:St} {n:Nat} {T:Ty} {x:T.den S.C} {ds:List Value} (h:aM S w s n T x ds):cy S w s T x (fD T ds):=by
 have hl:=h.length S
 have one:bA T=false→Ty.sz S T=1→fD T ds=ds.headD Go.undef→cy S w s T x (fD T ds):=by
  intro h1 h2 h3
  rw [h2] at hl
  obtain ⟨c,rfl⟩:=List.length_eq_one_iff.1 hl
  rw [h3]
  have hc:isAgg c=false:=by
   cases n with
   | zero=>exact h.elim
   | succ n=>cases T with
    | int k=>simp [aM] at h; subst h; rfl
    | bool=>simp [aM] at h; subst h; rfl
    | str=>simp [aM] at h; subst h; rfl
    | pt=>simp [aM] at h; subst h; rfl
    | sl e=>obtain ⟨a,cap,h,_⟩:=h; simp at h; subst h; rfl
    | st u=>simp [bA] at h1
  refine ⟨by rw [h1]; exact hc,n, ?_⟩
  show aM S w s n T x c.cells.toList
  rw [aM.mB (t:=T) (by rw [hc,h1]) h1]
  exact h
 cases T with
 | st u=>exact ⟨rfl,n,by simpa [fD,Value.cells] using h⟩
 | int k=>exact one rfl rfl rfl
 | bool=>exact one rfl rfl rfl
 | str=>exact one rfl rfl rfl
 | pt=>exact one rfl rfl rfl
 | sl e=>exact one rfl rfl rfl
theorem WO (hP:bf P S au) (h:Inv P S w0 M0 s0 dq env a w μ) (hd: ∀ d,o.dst=some d→d<a.tmps.size) {t:TypeId} {x:Operand} {ids:List Nat} (ho:o.op= .load t x)
 (hl:(match S.ty t,aX S env.tm x with
  | some T,some v=>Gs S T (restrict S env.bx ids) v
  | _,_=> .fail).leaf (V,us)) (hK:Goal P S w0 M0 s0 dq env a o.dst V us K):o.wp P a w K Q:=by
 split at hl
 · rename_i T v ht hx
   obtain ⟨hv,dM⟩:=bD h hx
   have fin: ∀ (b o':Nat) (ds:List Value) (V':Sy.V S.C),a.eval x= .pointer (some ⟨b,o',none⟩)→w.rangeAt b o' ds→ds.length=Ty.sz S T→V=V'→us= []→
    RV P S w (aO S w0 M0 s0 env.bx μ w) μ env.bx V' (fD T ds)→(∀ i ∈ aI S V',env.bx i≠none)→o.wp P a w K Q:=by
    rintro b o' ds V' he hr hlen rfl rfl dr gr
    refine wp_pure (V:=V) h (v:=fD T ds) ?_ hd dr gr hK
    unfold execOp
    simp only [ho,he]
    simp [run_load hP ht hr hlen]
   have Jz: ∀ (b off:Nat) (vs:List (Sy.V S.C)) (cs:List Value),v= .ptr b off→vs.all (bS S)=true→w.rangeAt (μ b).b (μ b).o cs→aQ P S w (aO S w0 M0 s0 env.bx μ w) μ env.bx vs cs→
    (∀ v ∈ vs, ∀ j ∈ aG S v,env.bx j≠none)→
    (match T with
     | .st u=>cond (Nat.ble (off+(S.F u).length) vs.length) (aL S (.agg u ((vs.drop off).take (S.F u).length)) []) .fail
     | _=>match vs[off]? with
      | some v=>aL S v []
      | none=> .fail).leaf (V,us)→o.wp P a w K Q:=by
    intro b off vs cs FW rm d_ dr LW cv
    clear hl
    subst FW
    have ec:a.eval x=_:=hv
    have hlen:=aQ.length P S dr
    have scalar:bA T=false→Ty.sz S T=1→(∀ ds,fD T ds=ds.headD Go.undef)→(match vs[off]? with | some v=>aL S v [] | none=> .fail:Rt S).leaf (V,us)→o.wp P a w K Q:=by
     intro h1 h2 h3 yM
     split at yM
     · rename_i v hi
       obtain ⟨e1,e2⟩:=bF yM
       obtain ⟨c,hc,hr⟩:=aQ.get P S off dr hi
       refine fin _ _ [c] v ec (fun j u hj=> ?_) (by rw [h2]; rfl) e1 e2 (by rw [h3]; exact nE hr) (fun j hj=>LW v (List.mem_of_getElem? hi) j ?_)
       · cases j with
         | zero=>simp at hj; subst hj; exact d_ off c hc
         | succ j=>simp at hj
       · cases v <;> first | exact hj | exact (hr:False).elim
     · exact yM.elim
    cases T with
    | st u=>
     dsimp only at cv
     cases hb:Nat.ble (off+(S.F u).length) vs.length with
     | false=>rw [hb] at cv; exact cv.elim
     | true=>
      rw [hb] at cv
      obtain ⟨e1,e2⟩:=bF cv
      have hle:=Nat.le_of_ble_eq_true hb
      refine fin _ _ ((cs.drop off).take (S.F u).length) _ ec (G5 d_ off _) ?_ e1 e2 ?_ ?_
      · rw [List.length_take,List.length_drop]; show min _ _=(S.F u).length; omega
      · refine ⟨((cs.drop off).take (S.F u).length).toArray,rfl, ?_, ?_, ?_⟩
        · rw [List.length_take,List.length_drop]; omega
        · rw [List.all_eq_true] at rm ⊢
          exact fun v hv=>rm v (List.mem_of_mem_drop (List.mem_of_mem_take hv))
        · simpa using (dr.drop P S off).take P S (S.F u).length
      · intro j hj
        simp only [aI,List.mem_flatMap] at hj
        obtain ⟨v,hv,hj⟩:=hj
        exact LW v (List.mem_of_mem_drop (List.mem_of_mem_take hv)) j hj
    | int k=>exact scalar rfl rfl (fun _=>rfl) cv
    | bool=>exact scalar rfl rfl (fun _=>rfl) cv
    | str=>exact scalar rfl rfl (fun _=>rfl) cv
    | pt=>exact scalar rfl rfl (fun _=>rfl) cv
    | sl e=>exact scalar rfl rfl (fun _=>rfl) cv
   unfold Gs at hl
   split at hl
   · rename_i b off
     split at hl
     · rename_i vs hb
       have hb:=fH hb
       obtain ⟨h1,h2,h3,cs,h4,h5⟩:=h.cc b _ hb
       exact Jz b off vs cs rfl h1 h4 h5 (h.lQ b vs (.inl hb)) hl
     · rename_i vs hb
       have hb:=fH hb
       obtain ⟨h1,cs,h4,h5⟩:=h.cc b _ hb
       exact Jz b off vs cs rfl h1 h4.range h5 (h.lQ b vs (.inr hb)) hl
     · exact hl.elim
   · rename_i u y
     obtain ⟨b,o',ds,he,cZ,hlen,n,hr⟩:=hv
     split at hl
     · rename_i y' hc
       obtain ⟨rfl,rfl⟩:=eG hc
       obtain ⟨e1,e2⟩:=bF hl
       exact fin b o' ds _ he cZ.range hlen e1 e2 (BU hr) (by simp [aI,aG])
     · exact hl.elim
   · rename_i c
     obtain ⟨kb,q,he,cZ⟩:=hv
     split at hl
     · obtain ⟨e1,e2⟩:=bF hl
       refine fin kb q [.pointer (some ⟨(μ c).b,(μ c).o,none⟩)] _ he cZ.range rfl e1 e2 rfl (fun j hj=>dM j (by simpa [aI,aG] using hj))
     · exact hl.elim
   · rename_i b i off
     have Kc: ∀ (e:Ty) (l:List (e.den S.C)),(env.bx b=some (.arr e l)∨env.bx b=some (.bM e l))→
      (∀ i x,l[i]? =some x→ ∃ ds,ds.length=Ty.sz S e∧w.rangeAt (μ b).b ((μ b).o+i*Ty.sz S e) ds∧ ∃ n,aM S w (aO S w0 M0 s0 env.bx μ w) n e x ds)→
      (match partOf S e (iD S e l i) off T with
       | some y=>aL S (.d T y) []
       | none=> .fail:Rt S).leaf (V,us)→o.wp P a w K Q:=by
      intro e l hb hel cv
      obtain ⟨g0,g1,he⟩:=hv.2 e l hb
      split at cv
      · rename_i y hy
        obtain ⟨e1,e2⟩:=bF cv
        obtain ⟨ds,d1,d2,n,d3⟩:=hel i.toNat _ (vA g0 (by omega))
        obtain ⟨m,hm⟩:=GM P hP.todm d3 hy
        exact fin _ _ _ _ he (G5 d2 off (Ty.sz S T)) (hm.length S) e1 e2 (BU hm) (by simp [aI,aG])
      · exact cv.elim
     split at hl
     · rename_i e l hb
       have hb:=fH hb
       exact Kc e l (.inl hb) (h.cc b _ hb).2.2.2.2 hl
     · rename_i e l hb
       have hb:=fH hb
       refine Kc e l (.inr hb) (fun i x hi=> ?_) hl
       obtain ⟨ds,d1,d2,d3⟩:=(h.cc b _ hb).2.2 i x hi
       exact ⟨ds,d1,d2.range,d3⟩
     · exact hl.elim
   · exact hl.elim
 · exact hl.elim
end
end Go.Sy
namespace Go.Sy
section
variable {P:Program} {S:bg} {au:Nat→Nat}
variable {w0:World} {M0 s0:St} {dq:List Deferred} {env:Env S.C} {a:Act} {w:World} {μ:Nat→Loc} {K:Act→World→Prop} {Q:Exit→Act→World→Prop} {o:Oper} {V:V S.C} {us:aR S.C}
theorem aa2 {t u:Nat} (h:l6 S t=some u):S.ar t=none∧S.ty t=some (.st u):=by
 unfold l6 at h
 cases ha:S.ar t with
 | some p=>rw [ha] at h; cases h
 | none=>
  rw [ha] at h
  refine ⟨rfl, ?_⟩
  dsimp only at h
  split at h
  · rename_i u' hu; cases h; exact hu
  · cases h
theorem bf.fe (hP:bf P S au) {t u:Nat} (ht:l6 S t=some u) {f o':Nat} {T:Ty} (hf:S.fe u f=some (o',T)):
 ∃ fs fd,P.underlying t=some (.struct fs)∧fs[f]? =some fd∧fd.offset=o'∧S.ty fd.type=some T∧1≤Ty.sz S T∧o'+Ty.sz S T≤(S.F u).length:=by
 obtain ⟨ha,ht⟩:=aa2 ht
 obtain ⟨_,_,h⟩:=hP.ty t _ ht
 rw [ha] at h
 obtain ⟨fs,hu,hfl⟩:=h
 obtain ⟨fd,h1,h2,h3,h4,h5⟩:=hfl f o' T hf
 exact ⟨fs,fd,hu,h1,h2,h3,h4,h5⟩
theorem aal (hP:bf P S au) {t u:Nat} (ht:l6 S t=some u) {f o':Nat} {T:Ty} (hf:S.fe u f=some (o',T)) (ad:Addr) (w:World):
 (Instr.fieldAt t (.pointer (some ad)) f).run P w= .ok (.pointer (some (ad.add o'))) w:=by
 obtain ⟨fs,fd,hu,h1,h2,h3,h4,_⟩:=hP.fe ht hf
 have hn: ¬ Ty.sz S T=0:=by omega
 simp [Instr.fieldAt,run_underlying hu,h1,Instr.sureAddr,fieldPlace,hP.size h3,hn,h2]
theorem TV (hP:bf P S au) (h:Inv P S w0 M0 s0 dq env a w μ) (hd: ∀ d,o.dst=some d→d<a.tmps.size) {t:TypeId} {x:Operand} {f:Nat} (ho:o.op= .fieldAddr t x f)
 (hl:(match aX S env.tm x with
  | some v=>E6 S t f v
  | none=> .fail).leaf (V,us)) (hK:Goal P S w0 M0 s0 dq env a o.dst V us K):o.wp P a w K Q:=by
 split at hl
 · rename_i v hx
   obtain ⟨hv,dM⟩:=bD h hx
   have fin: ∀ (ad:Addr) (u lB:Nat) (T:Ty),a.eval x= .pointer (some ad)→l6 S t=some u→S.fe u f=some (lB,T)→us= []→
    RV P S w (aO S w0 M0 s0 env.bx μ w) μ env.bx V (.pointer (some (ad.add lB)))→(∀ i ∈ aI S V,env.bx i≠none)→o.wp P a w K Q:=by
    rintro ad u lB T he ht hf rfl dr gr
    refine wp_pure (V:=V) h ?_ hd dr gr hK
    unfold execOp
    simp only [ho,he]
    simp [aal hP ht hf]
   unfold E6 at hl
   split at hl
   · rename_i b off
     split at hl
     · rename_i u ht
       split at hl
       · rename_i o' T hf
         obtain ⟨e1,e2⟩:=bF hl
         subst e1
         refine fin _ u o' T hv ht hf e2 ?_ (fun i hi=>dM i hi)
         show Value.pointer _=_
         rw [Addr.add_mid,Nat.add_assoc]
       · exact hl.elim
     · exact hl.elim
   · rename_i u y
     split at hl
     · rename_i u' ht
       cases hb:Nat.beq u u' with
       | false=>rw [hb] at hl; exact hl.elim
       | true=>
       rw [hb] at hl
       obtain rfl:=Nat.eq_of_beq_eq_true hb
       dsimp only [cond] at hl
       split at hl
       · rename_i o' T hf
         split at hl
         · rename_i z hz
           obtain ⟨e1,e2⟩:=bF hl
           subst e1
           obtain ⟨b,lB,ds,he,cZ,hlen,n,hr⟩:=hv
           obtain ⟨m,hm⟩:=GM P hP.todm hr hz
           exact fin _ u o' T he ht hf e2 ⟨b,_,_,by rw [Addr.add_mid],cZ.part o' _,hm.length S,m,hm⟩ (by simp [aI,aG])
         · exact hl.elim
       · exact hl.elim
     · exact hl.elim
   · rename_i b i off
     split at hl
     · rename_i u ht
       split at hl
       · rename_i o' T hf
         obtain ⟨e1,e2⟩:=bF hl
         subst e1
         obtain ⟨⟨ad,he⟩,ig⟩:=hv
         refine fin _ u o' T he ht hf e2 ⟨⟨_,rfl⟩,fun e' l' hb'=> ?_⟩ (fun i hi=>dM i hi)
         obtain ⟨T6,T7,he'⟩:=ig e' l' hb'
         refine ⟨T6,T7, ?_⟩
         rw [he'] at he
         cases he
         rw [Addr.add_mid,Nat.add_assoc]
       · exact hl.elim
     · exact hl.elim
   · rename_i b c
     obtain ⟨kb,q,he,cZ,gS,jb⟩:=hv
     split at hl
     · rename_i u ht
       split at hl
       · rename_i o' T hf
         split at hl
         · obtain ⟨e1,e2⟩:=bF hl
           subst e1
           exact fin _ u 0 T he ht hf e2 ⟨kb,q,rfl,cZ⟩ (fun i hi=>dM i (by simp [aI,aG] at hi ⊢; exact .inr hi))
         · rename_i lB
           obtain ⟨e1,e2⟩:=bF hl
           subst e1
           refine fin _ u (lB+1) T he ht hf e2 ?_ (fun i hi=>dM i (by simp [aI,aG] at hi ⊢; exact .inl hi))
           show Value.pointer _=_
           rw [Addr.add_mid,gS,jb,Nat.add_assoc,Nat.add_comm 1 lB]
       · exact hl.elim
     · exact hl.elim
   · exact hl.elim
 · exact hl.elim
theorem qd (hP:bf P S au) {t:Nat} {T:Ty} (ht:S.ty t=some T) {cs:Array Value} {off:Nat} (hle:off+Ty.sz S T≤cs.size) (w:World):
 (part t cs off).run P w= .ok (fD T ((cs.toList.drop off).take (Ty.sz S T))) w:=by
 have one:bA T=false→Ty.sz S T=1→(∀ ds,fD T ds=ds.headD Go.undef)→(part t cs off).run P w= .ok (fD T ((cs.toList.drop off).take (Ty.sz S T))) w:=by
  intro h1 h2 h3
  have hag:=hP.agg ht w
  rw [h1] at hag
  rw [h2] at hle
  have hlt:off<cs.size:=by omega
  unfold part
  simp [hag,hlt]
  rw [h3,h2,List.drop_eq_getElem_cons (by simpa using hlt)]
  simp
 cases T with
 | st u=>
  have hag:=hP.agg ht w
  have hsz:=hP.size ht w
  unfold part
  simp only [Sem.run_bind,hag,hsz,bA,Result.andThen_ok,if_true,Sem.run_pure]
  congr 2
  show _=((cs.toList.drop off).take (Ty.sz S (.st u))).toArray
  apply Array.ext'
  simp [Array.toList_extract,List.extract_eq_take_drop]
 | int k=>exact one rfl rfl (fun _=>rfl)
 | bool=>exact one rfl rfl (fun _=>rfl)
 | str=>exact one rfl rfl (fun _=>rfl)
 | pt=>exact one rfl rfl (fun _=>rfl)
 | sl e=>exact one rfl rfl (fun _=>rfl)
theorem TW (hP:bf P S au) (h:Inv P S w0 M0 s0 dq env a w μ) (hd: ∀ d,o.dst=some d→d<a.tmps.size) {t:TypeId} {x:Operand} {f:Nat} (ho:o.op= .field t x f)
 (hl:(match l6 S t,aX S env.tm x with
  | some u,some (.d (.st u') y)=>cond (Nat.beq u u') (match S.fe u' f with
   | some (o,w)=>match partOf S (.st u') y o w with
    | some z=>aL S (.d w z) []
    | none=> .fail
   | none=> .fail) .fail
  | some u,some (.agg u' vs)=>cond (Nat.beq u u'&&vs.length == (S.F u).length) (match S.fe u f with
   | some (o, .st w)=>aL S (.agg w ((vs.drop o).take (S.F w).length)) []
   | some (o,_)=>match vs[o]? with
    | some v=>aL S v []
    | none=> .fail
   | none=> .fail) .fail
  | _,_=> .fail).leaf (V,us)) (hK:Goal P S w0 M0 s0 dq env a o.dst V us K):o.wp P a w K Q:=by
 have fin: ∀ (u lB:Nat) (T:Ty) (cs:Array Value),a.eval x= .agg cs→cs.size=(S.F u).length→l6 S t=some u→S.fe u f=some (lB,T)→us= []→
  RV P S w (aO S w0 M0 s0 env.bx μ w) μ env.bx V (fD T ((cs.toList.drop lB).take (Ty.sz S T)))→(∀ i ∈ aI S V,env.bx i≠none)→o.wp P a w K Q:=by
  rintro u lB T cs he hsz ht hf rfl dr gr
  obtain ⟨fs,fd,hu,h1,h2,h3,h4,h5⟩:=hP.fe ht hf
  refine wp_pure (V:=V) h ?_ hd dr gr hK
  unfold execOp
  simp only [ho,he]
  simp [Instr.field,run_underlying hu,h1,asAgg,h2,qd hP h3 (cs:=cs) (off:=lB) (by omega)]
 split at hl
 · rename_i u u' y ht hx
   obtain ⟨hv,dM⟩:=bD h hx
   cases hb:Nat.beq u u' with
   | false=>rw [hb] at hl; exact hl.elim
   | true=>
    rw [hb] at hl
    obtain rfl:=Nat.eq_of_beq_eq_true hb
    dsimp only [cond] at hl
    split at hl
    · rename_i o' T hf
      split at hl
      · rename_i z hz
        obtain ⟨e1,e2⟩:=bF hl
        subst e1
        obtain ⟨ha,n,hr⟩:=hv
        have : ∃ cs,a.eval x= .agg cs:=by
         cases e:a.eval x <;> rw [e] at ha <;> first | exact ⟨_,rfl⟩ | (simp [Go.Sy.isAgg,bA] at ha)
        obtain ⟨cs,he⟩:=this
        rw [he] at hr
        obtain ⟨m,hm⟩:=GM P hP.todm hr hz
        exact fin u o' T cs he (by have :=hr.length S; simpa [Value.cells,Ty.sz] using this) ht hf e2 (BU hm) (by simp [aI,aG])
      · exact hl.elim
    · exact hl.elim
 · rename_i u u' vs ht hx
   obtain ⟨⟨cs,he,hlen,rm,hvs⟩,dM⟩:=bD h hx
   cases hb:(Nat.beq u u'&&vs.length == (S.F u).length) with
   | false=>rw [hb] at hl; exact hl.elim
   | true=>
    rw [hb] at hl
    rw [Bool.and_eq_true] at hb
    obtain rfl:=Nat.eq_of_beq_eq_true hb.1
    have hcl:=aQ.length P S hvs
    have hsz:cs.size=(S.F u).length:=by rw [← hlen, ← hcl]; simp
    dsimp only [cond] at hl
    split at hl
    · rename_i o' Ak hf
      obtain ⟨e1,e2⟩:=bF hl
      subst e1
      obtain ⟨fs,fd,hu,h1,h2,h3,h4,h5⟩:=hP.fe ht hf
      refine fin u o' _ cs he hsz ht hf e2 ⟨_,rfl, ?_, ?_, ?_⟩ (fun i hi=> ?_)
      · rw [List.length_take,List.length_drop]
        have :Ty.sz S (.st Ak)=(S.F Ak).length:=rfl
        omega
      · rw [List.all_eq_true] at rm ⊢
        exact fun v hv=>rm v (List.mem_of_mem_drop (List.mem_of_mem_take hv))
      · have :=(hvs.drop P S o').take P S (S.F Ak).length
        simpa [Ty.sz] using this
      · simp only [aI,List.mem_flatMap] at hi
        obtain ⟨v,hv,hi⟩:=hi
        exact dM i (by simp only [aI,List.mem_flatMap]; exact ⟨v,List.mem_of_mem_drop (List.mem_of_mem_take hv),hi⟩)
    · rename_i o' T hne hf
      split at hl
      · rename_i v hi
        obtain ⟨e1,e2⟩:=bF hl
        subst e1
        obtain ⟨c,hc,hr⟩:=aQ.get P S o' hvs hi
        have hT:bA T=false:=by
         cases T with
         | st Ak=>exact absurd rfl (hne Ak)
         | _=>rfl
        have hmk:fD T ((cs.toList.drop o').take (Ty.sz S T))=c:=by
         have h1:Ty.sz S T=1:=by cases T <;> first | rfl | simp [bA] at hT
         have hlt:=(List.getElem?_eq_some_iff.1 hc).1
         have tW:=(List.getElem?_eq_some_iff.1 hc).2
         rw [h1,List.drop_eq_getElem_cons hlt]
         cases T <;> first | (simp [fD,tW]; done) | simp [bA] at hT
        refine fin u o' T cs he hsz ht hf e2 (by rw [hmk]; exact nE hr) (fun i hi'=> ?_)
        refine dM i ?_
        simp only [aI,List.mem_flatMap]
        refine ⟨V,List.mem_of_getElem? hi, ?_⟩
        cases V <;> first | exact hi' | exact (hr:False).elim
      · exact hl.elim
    · exact hl.elim
 · exact hl.elim
end
end Go.Sy
namespace Go.Sy
section
variable {P:Program} {S:bg} {au:Nat→Nat}
variable {w0:World} {M0 s0:St} {dq:List Deferred} {env:Env S.C} {a:Act} {w:World} {μ:Nat→Loc} {K:Act→World→Prop} {Q:Exit→Act→World→Prop} {o:Oper} {V:V S.C} {us:aR S.C}
theorem TS (s:List UInt8) (i j:Nat):(⟨s.toArray⟩:ByteArray).extract i j=⟨((s.take j).drop i).toArray⟩:=by
 apply ByteArray.ext
 apply Array.ext'
 rw [Lib.extract_data]
 simp [List.drop_take]
theorem OT (s:List UInt8):ByteArray.size ⟨s.toArray⟩=s.length:=by show s.toArray.size=_; simp
theorem uN {k:IntKind} {i:Int} {y:Nat} (code:BoundsCode) (h0:0≤i) (h1:i≤(y:Int)) (w:World):(Instr.sliceBound (.int k i) y code).run P w= .ok i.toNat w:=by
 simp [Instr.sliceBound,asIntOf,h0,h1]
theorem MN (h:Inv P S w0 M0 s0 dq env a w μ) {x:Option Operand} {l:Option (Sy.V S.C)} (hx:jX S env.tm x=some l):
 (x=none∧l=none)∨ ∃ y v,x=some y∧l=some v∧RV P S w (aO S w0 M0 s0 env.bx μ w) μ env.bx v (a.eval y):=by
 cases x with
 | none=>cases hx; exact .inl ⟨rfl,rfl⟩
 | some y=>
  simp only [jX] at hx
  obtain ⟨v,hv,hx⟩:=Option.bind_eq_some_iff.1 hx
  cases hx
  exact .inr ⟨y,v,rfl,rfl,(bD h hv).1⟩
theorem uc {s:St} {bx:Bx S.C} {V:Sy.V S.C} {v:Value} {n:Int} (h:RV P S w s μ bx V v) (hi:pL S V=some n): ∃ k,v= .int k n:=by
 unfold pL at hi
 cases e:V.int? with
 | none=>rw [e] at hi; cases hi
 | some p=>
  rw [e] at hi
  cases hi
  exact ⟨p.1,jW h e⟩
theorem tj (h:Inv P S w0 M0 s0 dq env a w μ) {lo hi:Option Operand} {l hh:Option (Sy.V S.C)} (hlo:jX S env.tm lo=some l) (hhi:jX S env.tm hi=some hh) {n cap:Nat} (hcap:n≤cap)
 {gs:List Gd} {i j:Int} (hb:bounds S n l hh=some (gs,i,j)) (hg: ∀ g ∈ gs,g.p) (VX:Bool):
 (Instr.sliceBounds VX n cap (lo.map a.eval) (hi.map a.eval) none).run P w= .ok (i.toNat,j.toNat,cap) w∧0≤i∧i≤j∧j≤(n:Int)∧(hh=none→j=n):=by
 rcases MN h hlo with ⟨rfl,rfl⟩ | ⟨x,v,rfl,rfl,hv⟩ <;> rcases MN h hhi with ⟨rfl,rfl⟩ | ⟨y,u,rfl,rfl,hu⟩
 · cases hb
   exact ⟨by simp [Instr.sliceBounds],by omega,by omega,by omega,fun _=>rfl⟩
 · simp only [bounds] at hb
   obtain ⟨m,hm,hb⟩:=Option.bind_eq_some_iff.1 hb
   cases hb
   obtain ⟨k,hk⟩:=uc hu hm
   have g0:0≤j:=hg ⟨0≤j,inferInstance⟩ (by simp [gd])
   have g1:j≤(n:Int):=hg ⟨j≤(n:Int),inferInstance⟩ (by simp [gd])
   refine ⟨?_,by omega,by omega,g1,fun h=>by cases h⟩
   simp only [Option.map,hk,Instr.sliceBounds]
   simp [uN (P:=P) _ g0 (show j≤(cap:Int) by omega)]
 · simp only [bounds] at hb
   obtain ⟨m,hm,hb⟩:=Option.bind_eq_some_iff.1 hb
   cases hb
   obtain ⟨k,hk⟩:=uc hv hm
   have g0:0≤i:=hg ⟨0≤i,inferInstance⟩ (by simp [gd])
   have g1:i≤(n:Int):=hg ⟨i≤(n:Int),inferInstance⟩ (by simp [gd])
   refine ⟨?_,g0,g1,by omega,fun _=>rfl⟩
   simp only [Option.map,hk,Instr.sliceBounds]
   simp [uN (P:=P) _ g0 g1]
 · simp only [bounds] at hb
   obtain ⟨m,hm,hb⟩:=Option.bind_eq_some_iff.1 hb
   obtain ⟨p,hp,hb⟩:=Option.bind_eq_some_iff.1 hb
   cases hb
   obtain ⟨k,hk⟩:=uc hv hm
   obtain ⟨k',hk'⟩:=uc hu hp
   have g0:0≤j:=hg ⟨0≤j,inferInstance⟩ (by simp [gd])
   have g1:j≤(n:Int):=hg ⟨j≤(n:Int),inferInstance⟩ (by simp [gd])
   have g2:0≤i:=hg ⟨0≤i,inferInstance⟩ (by simp [gd])
   have g3:i≤j:=hg ⟨i≤j,inferInstance⟩ (by simp [gd])
   refine ⟨?_,g2,g3,g1,fun h=>by cases h⟩
   simp only [Option.map,hk,hk',Instr.sliceBounds]
   simp [uN (P:=P) _ g0 (show j≤(cap:Int) by omega),uN (P:=P) .sliceB g2 (show i≤(j.toNat:Int) by omega)]
def l7 (ad:Option Addr) (cap lo sz:Nat):Option Addr:=if cap=lo then ad else ad.map (·.add (lo*sz))
theorem aaq (hP:bf P S au) {t:Nat} {e:Ty} (ht:S.ty t=some (.sl e)) {ad:Option Addr} {n cap i j:Nat} {lo hi:Option Value}
 (hb:(Instr.sliceBounds true n cap lo hi none).run P w= .ok (i,j,cap) w):(Instr.sliceAt t (.slice ad n cap) lo hi none).run P w= .ok (.slice (l7 ad cap i (Ty.sz S e)) (j - i) (cap - i)) w:=by
 obtain ⟨te,ie,z,hu,he,_⟩:=hP.sl ht
 simp [Instr.sliceAt,Instr.slice,run_underlying hu,hb,hP.size he,l7]
theorem ED {α:Type} (l:List α) {i j:Int} {hh:Option (Sy.V S.C)} (h0:0≤i) (h1:i≤j) (h2:j≤(l.length:Int)) (hn:hh=none→j=(l.length:Int)):
 kj S l i j hh=(l.take j.toNat).drop i.toNat:=by
 cases hh with
 | none=>
  have :=hn rfl
  show l.drop i.toNat=_
  rw [this,show ((l.length:Int)).toNat=l.length from by omega,List.take_length]
 | some v=>rfl
theorem Xw {R:(t:Ty)→t.den S.C→List Value→Prop} {s:St} {e:Ty} {b o':Nat} {l:List (e.den S.C)} (h:xF S R w s e b o' l) (i j:Nat):xF S R w s e b (o'+i*Ty.sz S e) ((l.take j).drop i):=fun k x hk=>by
 have hk':l[i+k]? =some x:=by
  rw [List.getElem?_drop,List.getElem?_take] at hk
  split at hk
  · exact hk
  · cases hk
 obtain ⟨ds,d1,d2,d3⟩:=h (i+k) x hk'
 refine ⟨ds,d1, ?_,d3⟩
 rw [show o'+i*Ty.sz S e+k*Ty.sz S e=o'+(i+k)*Ty.sz S e from by rw [Nat.add_mul]; omega]
 exact d2
theorem Ii {s:St} {e:Ty} {l:List (e.den S.C)} {ad:Option Addr} {cap:Nat} (h:cy S w s (.sl e) l (.slice ad l.length cap)) {i j:Nat} (h1:i≤j) (h2:j≤l.length):
 cy S w s (.sl e) ((l.take j).drop i) (.slice (l7 ad cap i (Ty.sz S e)) (j - i) (cap - i)):=by
 obtain ⟨tc,cap',he,hle,hel⟩:=mg h
 cases he
 have hlen:((l.take j).drop i).length=j - i:=by rw [List.length_drop,List.length_take]; omega
 rcases hel with hel | ⟨b,o',n,rfl,hel⟩
 · exact ⟨rfl,1,_,_,by rw [hlen]; rfl,by rw [hlen]; omega, .inl (by rw [hlen]; omega)⟩
 · by_cases hc:cap=i
   · exact ⟨rfl,1,_,_,by rw [hlen]; rfl,by rw [hlen]; omega, .inl (by rw [hlen]; omega)⟩
   · refine ⟨rfl,n+1,_,_,by rw [hlen]; rfl,by rw [hlen]; omega, .inr ⟨b,o'+i*Ty.sz S e, ?_,Xw hel i j⟩⟩
     rw [l7,if_neg hc]
     simp [Addr.add_mid]
theorem aas {t:Nat} (hu:P.underlying t=some .string) (s:List UInt8) {i j:Nat} {lo hi:Option Value}
 (hb:(Instr.sliceBounds false s.length s.length lo hi none).run P w= .ok (i,j,s.length) w):(Instr.sliceAt t (.string ⟨s.toArray⟩) lo hi none).run P w= .ok (.string ⟨((s.take j).drop i).toArray⟩) w:=by
 have e1:=TS s i j
 have hsz:=OT s
 simp [Instr.sliceAt,Instr.slice,run_underlying hu,hsz,hb,e1]
theorem RU {n:Nat} {hh:Option (Sy.V S.C)} {gs:List Gd} {i j:Int} (hb:bounds S n none hh=some (gs,i,j)):i=0:=by
 cases hh with
 | none=>cases hb; rfl
 | some u=>
  simp only [bounds] at hb
  obtain ⟨m,hm,hb⟩:=Option.bind_eq_some_iff.1 hb
  cases hb; rfl
theorem Im {s':St} {bx:Bx S.C} {k:Nat} {e:Ty} {l:List (e.den S.C)} (hb:bx k=some (.arr e l)) {ad:Option Addr} {n cap:Nat} (ha:qC (μ k) ad n cap (Ty.sz S e)) {N:Nat} {lo hh:Option (Sy.V S.C)} {gs:List Gd} {i j:Int}
 (hbd:bounds S N lo hh=some (gs,i,j)) (h0:0≤i) (h1:i≤j) (h2:j≤(l.length:Int)) (h3:j≤(cap:Int)):
 RV P S w s' μ bx (qx S k i j lo) (.slice (l7 ad cap i.toNat (Ty.sz S e)) (j.toNat - i.toNat) (cap - i.toNat)):=by
 have hn: ∀ e' (l':List (e'.den S.C)),bx k=some (.arr e' l')→e'=e∧l'.length=l.length∧Ty.sz S e'=Ty.sz S e:=by
  intro e' l' h
  rw [hb] at h
  cases h
  exact ⟨rfl,rfl,rfl⟩
 cases lo with
 | none=>
  have :=RU hbd
  subst this
  refine ⟨⟨_,_,_,rfl⟩,fun e' l' hb'=> ?_⟩
  obtain ⟨_,q2,q3⟩:=hn e' l' hb'
  rw [q2,q3]
  have hs:l7 ad cap 0 (Ty.sz S e)=ad:=by
   unfold l7
   split
   · rfl
   · rw [ha.addr]
     split
     · rfl
     · simp [Addr.add_mid]
  refine ⟨h1,by omega,ad,cap, ?_,ha.addr,ha.mA,ha.cells,ha.isNil,by omega⟩
  rw [show (0:Int).toNat=0 from rfl,hs]; rfl
 | some u=>
  refine ⟨⟨_,_,_,rfl⟩,fun e' l' hb'=> ?_⟩
  obtain ⟨_,q2,q3⟩:=hn e' l' hb'
  rw [q2,q3]
  refine ⟨h0,by omega,by omega,_,_,by rw [show (j - i).toNat=j.toNat - i.toNat from by omega],by omega, ?_⟩
  by_cases hz:(j - i).toNat=0
  · exact .inl hz
  · refine .inr ?_
    have pI:(μ k).nil=false:=by
     cases hn:(μ k).nil with
     | false=>rfl
     | true=>have :=ha.isNil hn; have :=ha.mA; omega
    unfold l7
    rw [if_neg (by omega),ha.addr,pI]
    simp [Addr.add_mid]
theorem aaQ (hP:bf P S au) (h:Inv P S w0 M0 s0 dq env a w μ) (hd: ∀ d,o.dst=some d→d<a.tmps.size) {t:TypeId} {x:Operand} {lo hi:Option Operand} {ids:List Nat} {vw:Bool} (ho:o.op= .slice t x lo hi none)
 (hl:(match S.ty t,aX S env.tm x,jX S env.tm lo,jX S env.tm hi with
  | some T,some v,some l,some h=>H8 S vw T (restrict S env.bx ids) l h v
  | _,_,_,_=> .fail).leaf (V,us)) (hK:Goal P S w0 M0 s0 dq env a o.dst V us K):o.wp P a w K Q:=by
 split at hl
 · rename_i T v l hh ht hx hlo hhi
   obtain ⟨hv,dM⟩:=bD h hx
   have run: ∀ (e:Ty) (ad:Option Addr) (n cap i j:Nat),S.ty t=some (.sl e)→a.eval x= .slice ad n cap→(Instr.sliceBounds true n cap (lo.map a.eval) (hi.map a.eval) none).run P w= .ok (i,j,cap) w→
    (execOp a.eval o).run P w= .ok (.value (.slice (l7 ad cap i (Ty.sz S e)) (j - i) (cap - i))) w:=by
    intro e ad n cap i j ht he hb
    unfold execOp
    simp only [ho,he]
    simp [aaq hP ht hb]
   have data: ∀ (e:Ty) (s:List (e.den S.C)),cy S w (aO S w0 M0 s0 env.bx μ w) (.sl e) s (a.eval x)→(if T= .sl e then match bounds S s.length l hh with
    | some (gs,a,b)=>Tr.gd gs (aL S (.d (.sl e) (kj S s a b hh)) [])
    | none=> .fail else .fail:Rt S).leaf (V,us)→o.wp P a w K Q:=by
    intro e s hr cv
    clear hl
    split at cv
    · rename_i hT
      subst hT
      split at cv
      · rename_i gs i j hb
        obtain ⟨hg,rfl,rfl⟩:=gq cv
        obtain ⟨ad,cap,he,hcap,_⟩:=mg hr
        obtain ⟨b1,b2,b3,b4,b5⟩:=tj h hlo hhi hcap hb hg true
        rw [he] at hr
        refine wp_pure (V:= .d (.sl e) (kj S s i j hh)) h (run e ad _ cap _ _ ht he b1) hd ?_ (by simp [aI,aG]) hK
        show cy S w _ (.sl e) (kj S s i j hh) _
        rw [ED s b2 b3 b4 b5]
        exact Ii hr (by omega) (by omega)
      · exact cv.elim
    · exact cv.elim
   unfold H8 at hl
   split at hl
   · rename_i s
     split at hl
     · rename_i hT
       subst hT
       split at hl
       · rename_i gs i j hb
         obtain ⟨hg,rfl,rfl⟩:=gq hl
         have he:=nF hv
         obtain ⟨b1,b2,b3,b4,b5⟩:=tj h hlo hhi (Nat.le_refl _) hb hg false
         have hu:P.underlying t=some .string:=(hP.ty t _ ht).2
         refine wp_pure (V:= .d .str (kj S s i j hh)) h (v:= .string ⟨((List.take j.toNat s).drop i.toNat).toArray⟩) ?_ hd ?_ (by simp [aI,aG]) hK
         · unfold execOp
           simp only [ho,he]
           rw [Sem.run_bind,show Option.map a.eval none=none from rfl,aas hu s b1]
           rfl
         · show cy S w _ .str (kj S s i j hh) _
           rw [ED s b2 b3 b4 b5]
           exact Dl ..
       · exact hl.elim
     · exact hl.elim
   · exact data _ _ hv hl
   · rename_i k e s
     split at hl
     · rename_i hT
       subst hT
       split at hl
       · rename_i gs i j hb
         obtain ⟨hg,rfl,rfl⟩:=gq hl
         obtain ⟨ad,cap,he,hcap,_⟩:=mg hv.1
         obtain ⟨b1,b2,b3,b4,b5⟩:=tj h hlo hhi hcap hb hg true
         have hr:=hv.1
         rw [he] at hr
         have hsub:=Ii hr (show i.toNat≤j.toNat by omega) (by omega)
         cases hh with
         | some ec=>
          refine wp_pure (V:= .d (.sl e) (cut s i j)) h (run e ad _ cap _ _ ht he b1) hd hsub (by simp [aI,aG]) hK
         | none=>
          have hj:=b5 rfl
          have Lj:cutFrom s i=(s.take j.toNat).drop i.toNat:=by
           show s.drop i.toNat=_
           rw [hj,show ((s.length:Int)).toNat=s.length from by omega,List.take_length]
          refine wp_pure (V:= .bk k e (cutFrom s i)) h (run e ad _ cap _ _ ht he b1) hd ⟨by rw [Lj]; exact hsub,fun hb'=> ?_⟩ (fun i hi=>dM i hi) hK
          have hlen:(cutFrom s i).length=j.toNat - i.toNat:=by rw [Lj,List.length_drop,List.length_take]; omega
          obtain ⟨tc,cap',he',yX⟩:=hv.2 hb'
          rw [he] at he'
          cases he'
          refine ⟨_,_,by rw [hlen], ?_⟩
          rw [hlen]
          rcases yX with ⟨rfl,rfl,hn⟩ | ⟨b,o',rfl,t1,t2⟩
          · exact .inl ⟨by unfold l7; split <;> rfl,by omega,hn⟩
          · by_cases hc:cap=i.toNat
            · refine .inr ⟨b,o',by rw [l7,if_pos hc], ?_,fun hlt=>by omega⟩
              rw [t1]; congr 1; omega
            · refine .inr ⟨b,o'+i.toNat*Ty.sz S e,by rw [l7,if_neg hc]; simp [Addr.add_mid], ?_,fun hlt=> ?_⟩
              · rw [t1]; congr 1; omega
              · obtain ⟨t2,t3⟩:=t2 (by omega)
                refine ⟨t2, ?_⟩
                rw [t3]
                have :s.length*Ty.sz S e=i.toNat*Ty.sz S e+(j.toNat - i.toNat)*Ty.sz S e:=by rw [← Nat.add_mul]; congr 1; omega
                omega
       · exact hl.elim
     · exact hl.elim
   · rename_i k
     split at hl
     · rename_i e s hb
       have hb:=fH hb
       split at hl
       · rename_i hT
         subst hT
         split at hl
         · rename_i gs i j hbd
           cases vw with
           | true=>
            obtain ⟨hg,rfl,rfl⟩:=gq hl
            obtain ⟨ad,cap,he,hao⟩:=hv.2 e s (.inl hb)
            obtain ⟨b1,b2,b3,b4,b5⟩:=tj h hlo hhi hao.fits hbd hg true
            have hfit:=hao.fits
            refine wp_pure (V:=qx S k i j l) h (run e ad _ cap _ _ ht he b1) hd (Im hb hao hbd b2 b3 b4 (by omega)) (fun q hq=> ?_) hK
            have :q=k:=by cases l <;> simpa [qx,aI,aG] using hq
            rw [this,hb]; simp
           | false=>
           have hl:(Tr.gd gs (aL S (.d (.sl e) (kj S s i j hh)) [(k, .bM e s)]):Rt S).leaf (V,us):=hl
           obtain ⟨hg,rfl,rfl⟩:=gq hl
           have htk:Tk S env.bx (aD env.bx [(k, .bM e s)]):=Tk.Py hb
           obtain ⟨ad,cap,he,hao⟩:=hv.2 e s (.inl hb)
           obtain ⟨b1,b2,b3,b4,b5⟩:=tj h hlo hhi hao.fits hbd hg true
           refine ab_ (V:= .d (.sl e) (kj S s i j hh)) h (run e ad _ cap _ _ ht he b1) hd htk (fun hI=> ?_) (by simp [aI,aG]) hK
           have hr:=Fb hI (Tk.refl S _) (aY env.bx k (some (.bM e s))) (bI.step P S (O6 htk) (fun i B0 bQ=> ?_) (fun j hj=>dM j hj) hv)
           · rw [he] at hr
             show cy S w _ (.sl e) (kj S s i j hh) _
             rw [ED s b2 b3 b4 b5]
             have hr':cy S w (cA S w0 M0 s0 (aD env.bx [(k, .bM e s)]) (aD env.bx [(k, .bM e s)]) μ w) (.sl e) s (.slice ad s.length cap):=⟨rfl,hr⟩
             refine cy.mono S (fun b o ⟨h1,h2,h3⟩=>⟨⟨h1,h2,fun i hi=> ?_⟩,rfl⟩) (Ii hr' (show i.toNat≤j.toNat by omega) (by omega))
             rcases h3 i hi with ⟨e',l',hf⟩ | hf
             · unfold live at hi; rw [hf] at hi; exact hi.elim
             · exact hf
           · rcases htk i with e1 | ⟨e1,_⟩ | ⟨e',l',e1,e2⟩
             · exact ⟨B0,e1.trans bQ,cW.refl S _ _⟩
             · exact ⟨_,e1,by cases B0 <;> rfl⟩
             · rw [bQ] at e1; cases e1; exact ⟨_,e2,rfl,rfl,rfl⟩
         · exact hl.elim
       · exact hl.elim
     · rename_i e s hb
       have hb:=fH hb
       refine data e s ?_ hl
       obtain ⟨n,hn⟩:=Fb h (Tk.refl S _) hb hv
       obtain ⟨ad,cap,he,hao⟩:=hv.2 e s (.inr hb)
       rw [he] at hn ⊢
       refine ⟨rfl,n,hn.mono S (fun b o ⟨h1,h2,h3⟩=>⟨⟨h1,h2,fun i hi=> ?_⟩,rfl⟩) (Nat.le_refl _)⟩
       rcases h3 i hi with ⟨e',l',hf⟩ | hf
       · unfold live at hi; rw [hf] at hi; exact hi.elim
       · exact hf
     · exact hl.elim
   · rename_i k n
     split at hl
     · rename_i e s hb
       have hb:=fH hb
       obtain ⟨hn0,hnl,ad,cap,he,hao⟩:=hv.2 e s hb
       obtain ⟨g1,g2,g3,g4,g5⟩:=h.cc k _ hb
       have hcap:=hao.mA
       have hfit:=hao.fits
       have ids: ∀ i j, ∀ q ∈ aI S (qx S k i j l),env.bx q≠none:=fun i j q hq=>by
        have :q=k:=by cases l <;> simpa [qx,aI,aG] using hq
        rw [this,hb]; simp
       split at hl
       · rename_i hT
         subst hT
         cases hh with
         | none=>
          dsimp only at hl
          split at hl
          · rename_i gs i j hbd
            obtain ⟨hg,rfl,rfl⟩:=gq hl
            obtain ⟨b1,b2,b3,b4,b5⟩:=tj h hlo hhi hao.fits hbd hg true
            exact wp_pure (V:=qx S k i j l) h (run e ad _ cap _ _ ht he b1) hd (Im hb hao hbd b2 b3 (by omega) (by omega)) (ids i j) hK
          · exact hl.elim
         | some u=>
          dsimp only at hl
          split at hl
          · rename_i gs i j hbd
            obtain ⟨hg,rfl,rfl⟩:=gq hl
            obtain ⟨b1,b2,b3,b4,b5⟩:=tj (cap:=cap) h hlo hhi (show s.length≤cap by omega) hbd hg true
            obtain ⟨hi',U1⟩: ∃ y,hi=some y:=by
             cases hi with
             | none=>cases hhi
             | some y=>exact ⟨y,rfl⟩
            subst U1
            have Rx:(Instr.sliceBounds true n.toNat cap (lo.map a.eval) ((some hi').map a.eval) none).run P w= .ok (i.toNat,j.toNat,cap) w:=b1
            exact wp_pure (V:=qx S k i j l) h (run e ad _ cap _ _ ht he Rx) hd (Im hb hao hbd b2 b3 b4 (by omega)) (ids i j) hK
          · exact hl.elim
       · exact hl.elim
     · exact hl.elim
   · exact hl.elim
 · exact hl.elim
theorem Wr (hP:bf P S au) (h:Inv P S w0 M0 s0 dq env a w μ) (hd: ∀ d,o.dst=some d→d<a.tmps.size) {c:Call} (ho:o.op= .call c) (hc:c.callee= .builtin .len) {args:List (Sy.V S.C)} {ids:List Nat}
 (hargs:c.args.toList.mapM (aX S env.tm)=some args)
 (hl:(match args,(c.argTypes[0]?).bind S.ty with
  | [v],some T=>Gm S T (restrict S env.bx ids) v
  | _,_=> .fail).leaf (V,us)) (hK:Goal P S w0 M0 s0 dq env a o.dst V us K):o.wp P a w K Q:=by
 split at hl
 · rename_i v T K_
   obtain ⟨t,ht,hT⟩:=Option.bind_eq_some_iff.1 K_
   clear K_
   have hone: ∃ x,c.args= #[x]∧aX S env.tm x=some v:=by
    cases e:c.args.toList with
    | nil=>rw [e] at hargs; simp at hargs
    | cons x r=>
     rw [e] at hargs
     cases r with
     | nil=>
      refine ⟨x, ?_, ?_⟩
      · have :c.args=c.args.toList.toArray:=by simp
        rw [this,e]
      · simp at hargs
        cases hx:aX S env.tm x with
        | none=>rw [hx] at hargs; simp at hargs
        | some v'=>rw [hx] at hargs; simp at hargs; rw [hargs]
     | cons y r=>
      simp at hargs
      cases hx:aX S env.tm x with
      | none=>rw [hx] at hargs; simp at hargs
      | some v'=>
       rw [hx] at hargs
       cases hy:aX S env.tm y with
       | none=>rw [hy] at hargs; simp at hargs
       | some u'=>
        rw [hy] at hargs
        cases hr:List.mapM (aX S env.tm) r with
        | none=>rw [hr] at hargs; simp at hargs
        | some q=>rw [hr] at hargs; simp at hargs
   obtain ⟨x,hx,L2⟩:=hone
   have hv:=(bD h L2).1
   clear hargs L2
   have fin: ∀ (n:Nat),(Builtin.len_ c.argTypes o.type #[a.eval x]).run P w= .ok (goInt n) w→V= .d (.int .i64) (n:Int)→us= []→o.wp P a w K Q:=by
    rintro n hr rfl rfl
    refine wp_pure (V:= .d (.int .i64) (n:Int)) h (v:=goInt n) ?_ hd (jz ..) (by simp [aI,aG]) hK
    unfold execOp
    simp only [ho]
    simp [resolve,hc,hx,invoke,builtin,hr]
   have slc: ∀ (e:Ty) (n cap:Nat) (ad:Option Addr),T= .sl e→a.eval x= .slice ad n cap→(Builtin.len_ c.argTypes o.type #[a.eval x]).run P w= .ok (goInt n) w:=by
    rintro e n cap ad rfl he
    obtain ⟨te,ie,z,hu,_⟩:=hP.sl hT
    rw [he]
    simp [Builtin.len_,ht,run_underlying hu]
   unfold Gm at hl
   split at hl
   · rename_i s
     split at hl
     · rename_i lp
       subst lp
       obtain ⟨e1,e2⟩:=bF hl
       refine fin _ ?_ e1 e2
       have hu:P.underlying t=some .string:=(hP.ty t _ hT).2
       rw [nF hv]
       simp only [Builtin.len_,ht]
       simp [run_underlying hu]
       exact congrArg (fun n:Nat=>goInt n) (OT s)
     · exact hl.elim
   · split at hl
     · rename_i e
       obtain ⟨e1,e2⟩:=bF hl
       exact fin 0 (slc e 0 0 none rfl hv) e1 e2
     · exact hl.elim
   · rename_i e l
     split at hl
     · rename_i lp
       obtain ⟨e1,e2⟩:=bF hl
       obtain ⟨ad,cap,he,_⟩:=mg hv
       exact fin _ (slc e _ cap ad lp he) e1 e2
     · exact hl.elim
   · rename_i k e l
     split at hl
     · rename_i lp
       obtain ⟨e1,e2⟩:=bF hl
       obtain ⟨ad,cap,he,_⟩:=mg hv.1
       exact fin _ (slc e _ cap ad lp he) e1 e2
     · exact hl.elim
   · rename_i k
     have own: ∀ (e:Ty) (l:List (e.den S.C)),(env.bx k=some (.arr e l)∨env.bx k=some (.bM e l))→(if T= .sl e then aL S (.d (.int .i64) (l.length:Int)) [] else .fail:Rt S).leaf (V,us)→o.wp P a w K Q:=by
      intro e l hb cv
      split at cv
      · rename_i lp
        obtain ⟨e1,e2⟩:=bF cv
        obtain ⟨ad,cap,he,_⟩:=hv.2 e l hb
        exact fin _ (slc e _ cap ad lp he) e1 e2
      · exact cv.elim
     split at hl
     · rename_i hb; exact own _ _ (.inl (fH hb)) hl
     · rename_i hb; exact own _ _ (.inr (fH hb)) hl
     · exact hl.elim
   · rename_i b n
     split at hl
     · rename_i e l hb
       have hb:=fH hb
       split at hl
       · rename_i lp
         obtain ⟨e1,e2⟩:=bF hl
         obtain ⟨hn0,hnl,ad,cap,he,_⟩:=hv.2 e l hb
         refine fin _ (slc e _ cap ad lp he) ?_ e2
         rw [e1,show ((n.toNat:Nat):Int)=n from by omega]
       · exact hl.elim
     · exact hl.elim
   · exact hl.elim
 · exact hl.elim
theorem aar (hP:bf P S au) {t:Nat} {e:Ty} (ht:S.ty t=some (.sl e)) {ad:Option Addr} {n cap:Nat} {k1 k2 k3:IntKind} {i j m:Int} (h0:0≤i) (h1:i≤j) (h2:j≤m) (h3:m≤(cap:Int)):
 ∃ v,(Instr.sliceAt t (.slice ad n cap) (some (.int k1 i)) (some (.int k2 j)) (some (.int k3 m))).run P w= .ok v w:=by
 obtain ⟨te,ie,z,hu,he,_⟩:=hP.sl ht
 refine ⟨.slice (if m.toNat=i.toNat then ad else ad.map (·.add (i.toNat*Ty.sz S e))) (j.toNat - i.toNat) (m.toNat - i.toNat), ?_⟩
 simp [Instr.sliceAt,Instr.slice,run_underlying hu,Instr.sliceBounds,uN (P:=P) _ (show 0≤m by omega) h3,uN (P:=P) (i:=j) (y:=m.toNat) _ (by omega) (by omega),uN (P:=P) (i:=i) (y:=j.toNat) _ (by omega) (by omega),hP.size he]
theorem aaP (hP:bf P S au) (h:Inv P S w0 M0 s0 dq env a w μ) (hd: ∀ d,o.dst=some d→d<a.tmps.size) {t:TypeId} {x lo hi mx:Operand} {ids:List Nat} (ho:o.op= .slice t x (some lo) (some hi) (some mx))
 (hl:(match S.ty t,aX S env.tm x,aX S env.tm lo,aX S env.tm hi,aX S env.tm mx with
  | some T,some v,some l,some h,some m=>H7 S T (restrict S env.bx ids) l h m v
  | _,_,_,_,_=> .fail).leaf (V,us)) (hK:Goal P S w0 M0 s0 dq env a o.dst V us K):o.wp P a w K Q:=by
 split at hl
 · rename_i T v l hh m ht hx hlo hhi Vi
   obtain ⟨hv,dM⟩:=bD h hx
   unfold H7 at hl
   split at hl
   · rename_i k
     split at hl
     · rename_i e s hb
       have hb:=fH hb
       split at hl
       · rename_i hT
         subst hT
         split at hl
         · rename_i i j c e1 e2 e3
           obtain ⟨hg,rfl,rfl⟩:=gq hl
           have g0:0≤i:=hg ⟨0≤i,inferInstance⟩ (by simp [gd])
           have g1:i≤j:=hg ⟨i≤j,inferInstance⟩ (by simp [gd])
           have g2:j≤c:=hg ⟨j≤c,inferInstance⟩ (by simp [gd])
           have g3:c≤(s.length:Int):=hg ⟨c≤(s.length:Int),inferInstance⟩ (by simp [gd])
           obtain ⟨ad,cap,he,hao⟩:=hv.2 e s (.inl hb)
           have hfit:=hao.fits
           obtain ⟨k1,q1⟩:=uc (bD h hlo).1 e1
           obtain ⟨k2,q2⟩:=uc (bD h hhi).1 e2
           obtain ⟨k3,q3⟩:=uc (bD h Vi).1 e3
           obtain ⟨r,hr⟩:=aar (P:=P) (w:=w) hP ht (ad:=ad) (n:=s.length) (cap:=cap) (k1:=k1) (k2:=k2) (k3:=k3) g0 g1 g2 (by omega)
           refine wp_pure (V:= .undef) h (v:=r) ?_ hd trivial (by simp [aI,aG]) hK
           unfold execOp
           simp only [ho,he,Option.map,q1,q2,q3]
           simp [hr]
         · exact hl.elim
       · exact hl.elim
     · exact hl.elim
   · exact hl.elim
 · exact hl.elim
end
end Go.Sy
namespace Go.Sy
section
variable {P:Program} {S:bg} {au:Nat→Nat}
variable {w0:World} {M0 s0:St} {dq:List Deferred} {env:Env S.C} {a:Act} {w:World} {μ:Nat→Loc} {K:Act→World→Prop} {Q:Exit→Act→World→Prop} {o:Oper} {V:V S.C} {us:aR S.C}
theorem aQ.map {w w':World} {s s':St} {μ μ':Nat→Loc} {bx aq:Bx S.C} (h: ∀ V v,bI P S w s μ bx V v→(∀ j ∈ aG S V,bx j≠none)→bI P S w' s' μ' aq V v):
 ∀ {vs:List (Sy.V S.C)} {cs:List Value},(∀ v ∈ vs, ∀ j ∈ aG S v,bx j≠none)→aQ P S w s μ bx vs cs→aQ P S w' s' μ' aq vs cs
 | [],_,_,h'=>h'
 | v::vs,_,hr,⟨c,r,h1,h2,h3⟩=>⟨c,r,h1,h _ _ h2 (hr v (by simp)),aQ.map h (fun v hv=>hr v (by simp [hv])) h3⟩
theorem VW {v:Value} (h:isAgg v=false):v.cells.toList= [v]:=aM.mB (t:= .bool) h rfl
theorem O2 {s:St} {bx:Bx S.C} {V:Sy.V S.C} {v:Value} (hs:bS S V=true) (h:bI P S w s μ bx V v):isAgg v=false∧v.oneCell'=true:=by
 cases V with
 | d t x=>
  obtain ⟨ha,n,hn⟩:=h
  cases t with
  | st u=>simp [bS] at hs
  | int k=>rw [me (w:=w) (s:=s) ⟨ha,n,hn⟩]; exact ⟨rfl,rfl⟩
  | bool=>rw [sQ (w:=w) (s:=s) ⟨ha,n,hn⟩]; exact ⟨rfl,rfl⟩
  | str=>rw [nF (w:=w) (s:=s) ⟨ha,n,hn⟩]; exact ⟨rfl,rfl⟩
  | pt=>
   cases n with
   | zero=>exact hn.elim
   | succ n=>
    have hn:v.cells.toList= [.pointer none]:=hn
    rw [aM.mB (t:= .pt) ha rfl] at hn
    cases hn
    exact ⟨rfl,rfl⟩
  | sl e=>obtain ⟨a,cap,he,_⟩:=mg (w:=w) (s:=s) ⟨ha,n,hn⟩; rw [he]; exact ⟨rfl,rfl⟩
 | pr p i=>cases h; exact ⟨rfl,rfl⟩
 | bk b e l=>obtain ⟨a,cap,he,_⟩:=mg h.1; rw [he]; exact ⟨rfl,rfl⟩
 | aS b=>obtain ⟨⟨a,n,c,rfl⟩,_⟩:=h; exact ⟨rfl,rfl⟩
 | ptr b off=>cases h; exact ⟨rfl,rfl⟩
 | fK b i off=>obtain ⟨⟨p,rfl⟩,_⟩:=h; exact ⟨rfl,rfl⟩
 | dL t x=>obtain ⟨b,o',ds,rfl,_⟩:=h; exact ⟨rfl,rfl⟩
 | nil=>cases h; exact ⟨rfl,rfl⟩
 | cO=>cases h; exact ⟨rfl,rfl⟩
 | fv A R g=>obtain ⟨f,first,cap,rfl,_⟩:=h; exact ⟨rfl,rfl⟩
 | undef=>simp [bS] at hs
 | skip=>simp [bS] at hs
 | pre b n=>simp [bS] at hs
 | win b i n=>simp [bS] at hs
 | cF b n=>simp [bS] at hs
 | split b c=>simp [bS] at hs
 | mS c=>simp [bS] at hs
 | err b=>simp [bS] at hs
 | fX f vs=>simp [bS] at hs
 | agg u vs=>simp [bS] at hs
 | jq vs=>simp [bS] at hs
theorem Ac {s:St} {bx:Bx S.C} : ∀ {vs:List (Sy.V S.C)} {cs:List Value},vs.all (bS S)=true→aQ P S w s μ bx vs cs→ ∀ c ∈ cs,c.oneCell'=true
 | [],_,_,h,c,hc=>by cases h; simp at hc
 | V::vs,_,hs,⟨c,r,h1,h2,h3⟩,d,hd=>by
  subst h1
  simp only [List.all_cons,Bool.and_eq_true] at hs
  rcases List.mem_cons.1 hd with rfl | hd
  · exact (O2 hs.1 h2).2
  · exact Ac hs.2 h3 d hd
theorem Em (hS:dm S) {s:St} {bx:Bx S.C} {V:Sy.V S.C} {v:Value} (hs:(cellsOf S V).all (bS S)=true) (h:RV P S w s μ bx V v):
 aQ P S w s μ bx (cellsOf S V) v.cells.toList∧ ∀ u ∈ cellsOf S V, ∀ j ∈ aG S u,j ∈ aI S V:=by
 have one: ∀ (W:Sy.V S.C),V=W→cellsOf S V= [W]→bI P S w s μ bx W v→(∀ j ∈ aG S W,j ∈ aI S V)→aQ P S w s μ bx (cellsOf S V) v.cells.toList∧ ∀ u ∈ cellsOf S V, ∀ j ∈ aG S u,j ∈ aI S V:=by
  intro W hW he h1 h2
  rw [he] at hs
  simp only [List.all_cons,Bool.and_eq_true] at hs
  refine ⟨?_,fun u hu j hj=> ?_⟩
  · rw [he,VW (O2 hs.1 h1).1]
    exact ⟨v,[],rfl,h1,rfl⟩
  · rw [he] at hu
    simp at hu
    subst hu
    exact h2 j hj
 cases V with
 | d t x=>
  obtain ⟨ha,n,hn⟩:=h
  obtain ⟨h1,h2,h3⟩:=nQ (P:=P) hS μ bx hn
  exact ⟨h1,fun u hu j hj=>by rw [h3 u hu] at hj; simp at hj⟩
 | agg u vs=>
  obtain ⟨cs,rfl,_,_,hvs⟩:=h
  exact ⟨hvs,fun v hv j hj=>by simp only [aI,List.mem_flatMap]; exact ⟨v,hv,hj⟩⟩
 | jq vs=>simp [cellsOf,bS] at hs
 | fX f vs=>simp [cellsOf,bS] at hs
 | undef=>simp [cellsOf,bS] at hs
 | skip=>simp [cellsOf,bS] at hs
 | pr p i=>exact one _ rfl rfl h (fun j hj=>hj)
 | bk b e l=>exact one _ rfl rfl h (fun j hj=>hj)
 | aS b=>exact one _ rfl rfl h (fun j hj=>hj)
 | pre b n=>simp [cellsOf,bS] at hs
 | win b i n=>simp [cellsOf,bS] at hs
 | cF b n=>simp [cellsOf,bS] at hs
 | split b c=>simp [cellsOf,bS] at hs
 | mS c=>simp [cellsOf,bS] at hs
 | err b=>simp [cellsOf,bS] at hs
 | ptr b off=>exact one _ rfl rfl h (fun j hj=>hj)
 | fK b i off=>exact one _ rfl rfl h (fun j hj=>hj)
 | dL t x=>exact one _ rfl rfl h (fun j hj=>hj)
 | nil=>exact one _ rfl rfl h (fun j hj=>hj)
 | cO=>exact one _ rfl rfl h (fun j hj=>hj)
 | fv A R g=>exact one _ rfl rfl h (fun j hj=>hj)
theorem E7 {vs:List (Sy.V S.C)} {n:Nat} (h:fits S vs n=true):vs.length=n∧vs.all (bS S)=true:=by
 unfold fits at h
 rw [Bool.and_eq_true] at h
 exact ⟨Nat.eq_of_beq_eq_true h.1,h.2⟩
theorem rD {w:World} {cs:Array Value} {t:TypeId} :(w.alloc (.cells cs t)).there w.heap.size 0 cs.size∧(w.alloc (.cells cs t)).rangeAt w.heap.size 0 cs.toList:=by
 refine ⟨fun j hj=> ?_,fun j v hv=> ?_⟩
 · rw [Nat.zero_add]
   simp [hj]
 · rw [Nat.zero_add]
   simpa using hv
theorem PE (hP:bf P S au) (h:Inv P S w0 M0 s0 dq env a w μ) (hd: ∀ d,o.dst=some d→d<a.tmps.size) {B:Nat} {t:TypeId} {cells:Array Value} {vs:List (Sy.V S.C)}
 (hrun:(execOp a.eval o).run P w= .ok (.value (.pointer (some ⟨w.heap.size,0,none⟩))) (w.alloc (.cells cells t))) (hB:env.bx B=none)
 (hs:vs.all (bS S)=true) (hv:aQ P S w (aO S w0 M0 s0 env.bx μ w) μ env.bx vs cells.toList) (hr: ∀ v ∈ vs, ∀ j ∈ aG S v,env.bx j≠none)
 (hK:Goal P S w0 M0 s0 dq env a o.dst (.ptr B 0) [(B, .cells vs)] K):o.wp P a w K Q:=by
 have hlen:=aQ.length P S hv
 refine sH (i:=B) (B:= .cells vs) (V:= .ptr B 0) (L:=⟨w.heap.size,0,vs.length,0,false⟩) h hrun hd (bq.alloc w _ _) hB (fun b o' hf=>Nat.le_of_eq hf.1.symm) (fun _ _ h3=>⟨⟨hs,rfl, ?_,cells.toList,rD.2, ?_⟩, ?_⟩)
  (fun vs' hvs v hv j hj=> ?_) (fun j hj=> .inl (by simpa [aI,aG] using hj)) hK
 · have :=(rD (w:=w) (cs:=cells) (t:=t)).1
   rw [show cells.size=vs.length from by rw [← hlen]; simp] at this
   exact this
 · exact aQ.map h3 hr hv
 · show Value.pointer _=_
   rw [aY]
 · rcases hvs with hvs | hvs
   · cases hvs; exact hr v hv j hj
   · cases hvs
theorem ab9 (hP:bf P S au) (h:Inv P S w0 M0 s0 dq env a w μ) (hd: ∀ d,o.dst=some d→d<a.tmps.size) {B c:Nat} {t:TypeId} {cells:Array Value} {vs:List (Sy.V S.C)}
 (hrun:(execOp a.eval o).run P w= .ok (.value (.pointer (some ⟨w.heap.size,0,none⟩))) (w.alloc (.cells cells t))) (hB:env.bx B=none)
 (hs:(Sy.V.ptr c 0::vs).all (bS S)=true) (hv:aQ P S w (aO S w0 M0 s0 env.bx μ w) μ env.bx (.ptr c 0::vs) cells.toList) (hr: ∀ v ∈ Sy.V.ptr c 0::vs, ∀ j ∈ aG S v,env.bx j≠none)
 (hK:Goal P S w0 M0 s0 dq env a o.dst (.split B c) [(B, .cells vs)] K):o.wp P a w K Q:=by
 obtain ⟨u,r,hcs,hu,hv⟩:=hv
 have hlen:=aQ.length P S hv
 have hc0:env.bx c≠none:=hr (.ptr c 0) (by simp) c (by simp [aG])
 have UI:c≠B:=fun e=>hc0 (e▸hB)
 have hu:u= .pointer (some ⟨(μ c).b,(μ c).o,none⟩):=hu
 have hsz:cells.size=vs.length+1:=by rw [← Array.length_toList,hcs,List.length_cons,hlen]
 simp only [List.all_cons,Bool.and_eq_true] at hs
 refine sH (i:=B) (B:= .cells vs) (V:= .split B c) (L:=⟨w.heap.size,1,vs.length,0,false⟩) h hrun hd (bq.alloc w _ _) hB (fun b o' hf=>Nat.le_of_eq hf.1.symm) (fun _ _ h3=>⟨⟨hs.2,rfl, ?_,r, ?_, ?_⟩, ?_⟩)
  (fun vs' hvs v hv j hj=> ?_) (fun j hj=> ?_) hK
 · intro j hj
   have :=(rD (w:=w) (cs:=cells) (t:=t)).1 (1+j) (by have :j<vs.length:=hj; omega)
   rw [Nat.zero_add] at this
   exact this
 · intro j v hj
   have :=(rD (w:=w) (cs:=cells) (t:=t)).2 (1+j) v (by rw [hcs,Nat.add_comm]; simpa using hj)
   rw [Nat.zero_add] at this
   exact this
 · exact aQ.map h3 (fun v hv=>hr v (by simp [hv])) hv
 · refine ⟨w.heap.size,0,rfl,fun j v hj=> ?_,by rw [aY],by rw [aY]⟩
   have hj0:j=0∧v= .pointer (some ⟨(aC μ B ⟨w.heap.size,1,vs.length,0,false⟩ c).b,(aC μ B ⟨w.heap.size,1,vs.length,0,false⟩ c).o,none⟩):=by
    cases j with
    | zero=>exact ⟨rfl,by simpa using hj.symm⟩
    | succ j=>simp at hj
   obtain ⟨rfl,rfl⟩:=hj0
   rw [br _ _ UI]
   refine ⟨?_,by simp, .inr (.inr h.iZ.size),fun i hi hf=> ?_⟩
   · have :=(rD (w:=w) (cs:=cells) (t:=t)).2 0 u (by rw [hcs]; rfl)
     rw [Nat.zero_add] at this
     rw [← hu]
     exact this
   · by_cases e:i=B
     · subst e
       rw [aY] at hf
       have h1:1≤0+0:=hf.2.1
       omega
     · have hl:=(eI S (show aC env.bx B (some (.cells vs)) i=env.bx i from br _ _ e)).1 hi
       rw [br _ _ e] at hf
       have :=(mO P S (h.cc i) hl hf).1
       omega
 · rcases hvs with hvs | hvs
   · cases hvs; exact hr v (by simp [hv]) j hj
   · cases hvs
 · have hj:j ∈ [B,c]:=hj
   simp only [List.mem_cons,List.not_mem_nil,or_false] at hj
   rcases hj with rfl | rfl
   · exact .inl rfl
   · exact .inr hc0
theorem uY {s:St} {bx:Bx S.C} : ∀ (ts:List Ty),ts.all (fun t=> !bA t)=true→aQ P S w s μ bx (ts.map (zeroCell S)) (ts.map xC)∧(ts.map (zeroCell S)).all (bS S)=true∧ ∀ v ∈ ts.map (zeroCell S),aG S v= []
 | [],_=>⟨rfl,rfl,by simp⟩
 | t::ts,h=>by
  simp only [List.all_cons,Bool.and_eq_true,Bool.not_eq_true'] at h
  obtain ⟨h1,h2,h3⟩:=uY ts h.2
  refine ⟨⟨_,_,rfl, ?_,h1⟩, ?_, ?_⟩
  · cases t with
    | int k=>exact jz ..
    | bool=>exact oU ..
    | str=>exact Dl ..
    | pt=>rfl
    | sl e=>rfl
    | st u=>simp [bA] at h
  · simp only [List.map_cons,List.all_cons,Bool.and_eq_true]
    exact ⟨by cases t <;> first | rfl | simp [bA] at h,h2⟩
  · intro v hv
    simp only [List.map_cons,List.mem_cons] at hv
    rcases hv with rfl | hv
    · cases t <;> rfl
    · exact h3 v hv
theorem P1 (hS:dm S) {s:St} {bx:Bx S.C} (T:Ty):aQ P S w s μ bx (zeroCells S T) (uZ S T)∧(zeroCells S T).all (bS S)=true∧ ∀ v ∈ zeroCells S T,aG S v= []:=by
 cases T with
 | st u=>exact uY (S.F u) (hS.flat u)
 | int k=>exact uY [.int k] rfl
 | bool=>exact uY [.bool] rfl
 | str=>exact uY [.str] rfl
 | pt=>exact uY [.pt] rfl
 | sl e=>exact uY [.sl e] rfl
theorem RP (hP:bf P S au) (h:Inv P S w0 M0 s0 dq env a w μ) (hd: ∀ d,o.dst=some d→d<a.tmps.size) {B:Nat} {t:TypeId} (ho:o.op= .alloc t)
 (hnew: ∀ u ∈ ([(B+1, .buf []),(B, .bh (B+1))]:aR S.C),B≤u.1→u.1<B+16→env.bx u.1=none) (hb:y_ S t=true)
 (hK:Goal P S w0 M0 s0 dq env a o.dst (.ptr B 0) [(B+1, .buf []),(B, .bh (B+1))] K):o.wp P a w K Q:=by
 obtain ⟨T,e,dX,rfl⟩: ∃ T e,S.bt=some (T,e)∧t=T:=by
  unfold y_ at hb
  split at hb
  · rename_i u hu
    exact ⟨u.1,u.2,hu,(Nat.eq_of_beq_eq_true hb).symm⟩
  · cases hb
 obtain ⟨_,i,z,h1,h2,h3⟩:=hP.bt _ dX
 have n1:=hnew (B+1, .buf []) (by simp) (by show B≤B+1; omega) (by show B+1<B+16; omega)
 have n0:=hnew (B, .bh (B+1)) (by simp) (Nat.le_refl _) (by show B<B+16; omega)
 have hrow:nA S w ⟨0,0,0,0,true⟩ []:=⟨rfl,rfl,fun _=>rfl,_,_,dX,World.ownsRowF_nil ..⟩
 obtain ⟨hI,_,_⟩:=h.Gx (bq.refl w _) n1 (B:= .buf []) (L:=⟨0,0,0,0,true⟩) (fun b o' hf=>by have h1:o'<0+0:=hf.2.2; omega) (fun _ _ _=>hrow) (fun vs hvs=>by rcases hvs with hvs | hvs <;> cases hvs)
 have hne: ∀ (i:Nat) (B0:Option (dZ S.C)),i=B→aC env.bx (B+1) (some (.buf [])) i=env.bx i:=fun i _ e=>br _ _ (by omega)
 refine sH (env:= { env with bx:=aC env.bx (B+1) (some (.buf [])) }) (i:=B) (B:= .bh (B+1)) (V:= .ptr B 0) (v:= .pointer (some ⟨w.heap.size,0,none⟩)) (w':=w.alloc (.cells #[.pointer none, .slice none 0 0] t)) (L:=⟨w.heap.size,0,2,0,false⟩) hI ?_ hd (bq.alloc w _ _) ((hne B none rfl).trans n0) (fun b o' hf=>Nat.le_of_eq hf.1.symm)
  (fun _ _ _=>⟨⟨rfl,rfl, ?_, .slice none 0 0,⟨t,e, .pointer none,dX,(by show (w.heap.push _)[w.heap.size]? =some _; simp), .inl rfl⟩,fun l hl=> ?_⟩, ?_⟩) (fun vs hvs=>by rcases hvs with hvs | hvs <;> cases hvs) (fun j hj=> .inl (by simpa [aI,aG] using hj)) hK
 · unfold execOp
   simp only [ho]
   simp [Instr.alloc,zeroValue,typeInfo,h1,h2,h3,newVar,newRow]
 · rw [br _ _ (show B+1≠B by omega)]
   show aC env.bx (B+1) (some (.buf [])) (B+1)≠none
   rw [aY]; simp
 · rw [br _ _ (show B+1≠B by omega)] at hl
   have hl:aC env.bx (B+1) (some (.buf [])) (B+1)=some (.buf l):=hl
   rw [aY] at hl
   cases hl
   rw [br _ _ (show B+1≠B by omega),aY]
   rfl
 · show Value.pointer _=_
   rw [aY]
theorem Rh (hP:bf P S au) (h:Inv P S w0 M0 s0 dq env a w μ) (hd: ∀ d,o.dst=some d→d<a.tmps.size) {B:Nat} {t:TypeId} (ho:o.op= .alloc t)
 (hnew: ∀ u ∈ us,B≤u.1→u.1<B+16→env.bx u.1=none)
 (hl:(match S.ty t with
  | some u=>aL S (.ptr B 0) [(B, .cells (zeroCells S u))]
  | none=>cond (y_ S t) (aL S (.ptr B 0) [(B+1, .buf []),(B, .bh (B+1))]) .fail).leaf (V,us)) (hK:Goal P S w0 M0 s0 dq env a o.dst V us K):o.wp P a w K Q:=by
 split at hl
 · rename_i T ht
   obtain ⟨rfl,rfl⟩:=bF hl
   obtain ⟨⟨i,z,h1,h2,h3,h4,h5⟩,_⟩:=hP.ty t T ht
   obtain ⟨z1,z2,z3⟩:=P1 (P:=P) (w:=w) (μ:=μ) hP.todm (s:=aO S w0 M0 s0 env.bx μ w) (bx:=env.bx) T
   refine PE hP h hd (cells:=z.cells) (t:=t) ?_ (hnew (B, .cells (zeroCells S T)) (List.mem_singleton.2 rfl) (Nat.le_refl _) (by show B<B+16; omega)) z2 (by rw [h5]; exact z1) (fun v hv j hj=>by rw [z3 v hv] at hj; simp at hj) hK
   unfold execOp
   simp only [ho]
   simp [Instr.alloc,zeroValue,typeInfo,h1,h3,newVar,newRow]
 · cases hb:y_ S t with
   | false=>rw [hb] at hl; exact hl.elim
   | true=>
    rw [hb] at hl
    obtain ⟨rfl,rfl⟩:=bF hl
    exact RP hP h hd ho hnew hb hK
theorem RW (hP:bf P S au) (h:Inv P S w0 M0 s0 dq env a w μ) (hd: ∀ d,o.dst=some d→d<a.tmps.size) {B:Nat} {t:TypeId} {x:Operand} (ho:o.op= .box t x)
 (hnew: ∀ u ∈ us,B≤u.1→u.1<B+16→env.bx u.1=none)
 (hl:(match S.ty t,aX S env.tm x with
  | some u,some v=>cond (fits S (cellsOf S v) (Ty.sz S u)) (match S.sp t with
   | false=>aL S (.ptr (B) 0) [(B, .cells (cellsOf S v))]
   | true=>match cellsOf S v with
    | .ptr c 0::vs=>aL S (.split B c) [(B, .cells vs)]
    | _=> .fail) .fail
  | _,_=> .fail).leaf (V,us)) (hK:Goal P S w0 M0 s0 dq env a o.dst V us K):o.wp P a w K Q:=by
 split at hl
 · rename_i T v ht hx
   cases hf:fits S (cellsOf S v) (Ty.sz S T) with
   | false=>rw [hf] at hl; exact hl.elim
   | true=>
    rw [hf,cond_true] at hl
    obtain ⟨f1,f2⟩:=E7 hf
    obtain ⟨hv,dM⟩:=bD h hx
    obtain ⟨c1,c2⟩:=Em hP.todm f2 hv
    split at hl
    rotate_left
    · split at hl
      · rename_i c vs hcs
        obtain ⟨rfl,rfl⟩:=bF hl
        rw [hcs] at f2 c1 c2
        refine ab9 hP h hd (cells:=(a.eval x).cells) (t:=t) ?_ (hnew (B, .cells vs) (List.mem_singleton.2 rfl) (Nat.le_refl _) (by show B<B+16; omega)) f2 c1 (fun v hv j hj=>dM j (c2 v hv j hj)) hK
        unfold execOp
        simp only [ho]
        simp [Instr.box,newVar,newRow]
      · exact hl.elim
    obtain ⟨rfl,rfl⟩:=bF hl
    refine PE hP h hd (cells:=(a.eval x).cells) (t:=t) ?_ (hnew (B, .cells (cellsOf S v)) (List.mem_singleton.2 rfl) (Nat.le_refl _) (by show B<B+16; omega)) f2 c1 (fun v hv j hj=>dM j (c2 v hv j hj)) hK
    unfold execOp
    simp only [ho]
    simp [Instr.box,newVar,newRow]
 · exact hl.elim
end
end Go.Sy
namespace Go.Sy
theorem wg {w:World} {b o b' o':Nat} {cs vals:List Value} (h:w.rangeAt b' o' cs) (hd:b'≠b∨o'+cs.length≤o∨o+vals.length≤o'):(w.setCells b o vals).rangeAt b' o' cs:=fun j v hj=>by
 have hjl:=(List.getElem?_eq_some_iff.1 hj).1
 rw [World.cell?_setCells_out b vals o w ⟨b',o'+j,none⟩ fun hb _=>by
  have hb:b'=b:=hb
  show o'+j<o∨o+vals.length≤o'+j
  rcases hd with hd | hd | hd
  · exact absurd hb hd
  · omega
  · omega]
 exact h j v hj
theorem Nj {w:World} {b o:Nat} {cs vals:List Value} (h:w.rangeAt b o cs) (k:Nat) (hk:k+vals.length≤cs.length):(w.setCells b (o+k) vals).rangeAt b o (cs.take k++vals++cs.drop (k+vals.length)):=fun j v hj=>by
 have hin:=World.cell?_setCells_in b vals (o+k) w (fun i hi=>by
  have :(cs[k+i]?).isSome=true:=by rw [List.getElem?_eq_getElem (by omega)]; rfl
  obtain ⟨u,hu⟩:=Option.isSome_iff_exists.1 this
  rw [Nat.add_assoc,h _ _ hu]; rfl)
 by_cases h1:j<k
 · rw [List.append_assoc,List.getElem?_append_left (by simp; omega),List.getElem?_take,if_pos h1] at hj
   rw [World.cell?_setCells_out b vals (o+k) w ⟨b,o+j,none⟩ fun _ _=> .inl (by show o+j<o+k; omega)]
   exact h j v hj
 · by_cases h2:j<k+vals.length
   · rw [List.append_assoc,List.getElem?_append_right (by simp; omega),List.getElem?_append_left (by simp; omega)] at hj
     have hlen:(List.take k cs).length=k:=by simp; omega
     rw [hlen] at hj
     have :=hin (j - k) (by omega)
     rw [show o+k+(j - k)=o+j from by omega] at this
     rw [this, ← hj,List.getElem?_eq_getElem]
   · rw [List.append_assoc,List.getElem?_append_right (by simp; omega),List.getElem?_append_right (by simp; omega),List.getElem?_drop] at hj
     have hlen:(List.take k cs).length=k:=by simp; omega
     rw [hlen] at hj
     rw [World.cell?_setCells_out b vals (o+k) w ⟨b,o+j,none⟩ fun _ _=> .inr (by show o+k+vals.length≤o+j; omega)]
     rw [show k+vals.length+(j - k - vals.length)=j from by omega] at hj
     exact h j v hj
theorem B6 {w:World} {b o:Nat} {vals:List Value} (ht:w.there b o vals.length):(w.setCells b o vals).rangeAt b o vals:=fun j v hj=>by
 have hjl:=(List.getElem?_eq_some_iff.1 hj).1
 rw [World.cell?_setCells_in b vals o w (fun i hi=>(ht i hi).1) j hjl, ← hj,List.getElem?_eq_getElem]
theorem xy {w:World} {b o n b' o':Nat} {vals:List Value} (h:w.there b o n) (hs:w.there b' o' vals.length):(w.setCells b' o' vals).there b o n:=fun j hj=>by
 have hc:=bq.setCells w b' o' vals hs
 have hlt:b<w.heap.size:=by
  obtain ⟨v,hv⟩:=Option.isSome_iff_exists.1 (h j hj).1
  exact World.block_lt_of_cell? w _ hv
 exact ⟨hc.some _ _ hlt (h j hj).1,(World.frozen?_setCells ..).trans (h j hj).2⟩
section
variable {P:Program} {S:bg} {au:Nat→Nat}
variable {w0:World} {M0 s0:St} {dq:List Deferred} {env:Env S.C} {a:Act} {w:World} {μ:Nat→Loc} {K:Act→World→Prop} {Q:Exit→Act→World→Prop} {o:Oper} {V:V S.C} {us:aR S.C}
theorem WM {s:St} {bx:Bx S.C} {i:Nat} {L:Loc} {B:dZ S.C} (hb:bx i=some B) (hl:live S bx i) (hB: ∀ l,B≠ .buf l) (h:RB P S w s μ bx L B):w.there L.b L.o L.n:=by
 unfold live at hl
 rw [hb] at hl
 cases B with
 | cells vs=>exact h.2.2.1
 | arr e l=>exact h.2.2.2.1
 | tail=>exact h
 | bU vs=>exact hl.elim
 | bM e l=>exact hl.elim
 | dead=>exact hl.elim
 | bh j=>
  obtain ⟨h1,h2,_,v,⟨T,e,p,_,h3,_⟩,_⟩:=h
  intro k hk
  rw [h1,h2] at *
  rw [Lib.cell_of_heap h3,Lib.frozen_of_heap h3]
  refine ⟨by simp; omega,rfl⟩
 | buf l=>exact absurd rfl (hB l)
theorem Inv.write (h:Inv P S w0 M0 s0 dq env a w μ) {i:Nat} {B0 B':dZ S.C} (hi:env.bx i=some B0) (hl0:live S env.bx i) (Um: ∀ l,B0≠ .buf l) {o':Nat} {vals:List Value}
 (h1:(μ i).o≤o') (h2:o'+vals.length≤(μ i).o+(μ i).n) (hc:cW S (μ i) (μ i) B0 B')
 (hb:bX w (aO S w0 M0 s0 env.bx μ w) (w.setCells (μ i).b o' vals) (aO S w0 M0 s0 (aC env.bx i (some B')) μ (w.setCells (μ i).b o' vals))→
  (∀ V v,bI P S w (aO S w0 M0 s0 env.bx μ w) μ env.bx V v→(∀ j ∈ aG S V,env.bx j≠none)→
   bI P S (w.setCells (μ i).b o' vals) (aO S w0 M0 s0 (aC env.bx i (some B')) μ (w.setCells (μ i).b o' vals)) μ (aC env.bx i (some B')) V v)→
  RB P S (w.setCells (μ i).b o' vals) (aO S w0 M0 s0 (aC env.bx i (some B')) μ (w.setCells (μ i).b o' vals)) μ (aC env.bx i (some B')) (μ i) B')
 (hr: ∀ vs,(B'= .cells vs∨B'= .bU vs)→ ∀ v ∈ vs, ∀ j ∈ aG S v,env.bx j≠none):
 Inv P S w0 M0 s0 dq { env with bx:=aC env.bx i (some B') } a (w.setCells (μ i).b o' vals) μ:=by
 have yW:=oH (WM hi hl0 Um (h.cc i B0 hi)) h1 h2
 have hU: ∀ j, ¬ j=i→aC env.bx i (some B') j=env.bx j∧μ j=μ j:=fun j hj=>⟨br _ _ hj,rfl⟩
 have hT: ∀ b o,(b=(μ i).b∧o'≤o∧o<o'+vals.length)→b<w.heap.size→ ∃ j,j=i∧live S env.bx j∧(μ j).aN b o:=fun b o yH _=>
  ⟨i,rfl,hl0,yH.1,by omega,by omega⟩
 have hf: ∀ j,j=i→live S (aC env.bx i (some B')) j→ ∀ b o,(μ j).aN b o→w.heap.size≤b∨ ∃ k,k=i∧live S env.bx k∧(μ k).aN b o:=by
  rintro j rfl _ b o hfo
  exact .inr ⟨j,rfl,hl0,hfo⟩
 have tW: ∀ j B0,env.bx j=some B0→ ∃ B1,aC env.bx i (some B') j=some B1∧cW S (μ j) (μ j) B0 B1:=by
  intro j B1 hj
  by_cases e:j=i
  · subst e
    rw [hi] at hj
    cases hj
    exact ⟨B',aY _ _ _,hc⟩
  · exact ⟨B1,by rw [br _ _ e]; exact hj,cW.refl S _ _⟩
 have hw:=bq.setCells w (μ i).b o' vals yW
 have hl:=h.later (U:=fun j=>j=i) hw hT hU hf
 refine h.step (U:=fun j=>j=i) hw hT hU hf tW ?_ ?_ ?_
 · rintro j k rfl rfl hne; exact absurd rfl hne
 · rintro j B1 rfl lg
   rw [aY] at lg
   cases lg
   exact hb hl fun V v hv hr=>bI.step P S hl tW hr hv
 · rintro j vs rfl hvs v hv k hk
   rw [aY] at hvs
   have h0:=hr vs (by rcases hvs with hvs | hvs <;> · cases hvs; simp) v hv k hk
   obtain ⟨B1,lg⟩:=Option.ne_none_iff_exists'.1 h0
   obtain ⟨B2,Ul,_⟩:=tW k B1 lg
   rw [Ul]; simp
theorem run_store (hP:bf P S au) {t:Nat} {T:Ty} (ht:S.ty t=some T) {b o':Nat} {v:Value} (hs:v.cells.size=Ty.sz S T) (cM:w.there b o' v.cells.toList.length) (h1: ∀ c ∈ v.cells.toList,c.oneCell'=true):
 (Instr.storeAt t (.pointer (some ⟨b,o',none⟩)) v).run P w= .ok () (w.setCells b o' v.cells.toList):=by
 obtain ⟨⟨i,z,hi,hsz,_⟩,_⟩:=hP.ty t T ht
 have h2:=run_storeAt_mid (P:=P) w b o' t v.cells (by simpa using cM) (by rw [hi]; simp [hsz,hs]) (Array.all_eq_true_iff_forall_mem.2 fun c hc=>h1 c (by simpa using hc))
 exact h2
theorem PG (h:Inv P S w0 M0 s0 dq env a w μ) (hd: ∀ d,o.dst=some d→d<a.tmps.size) {w':World} {us:aR S.C}
 (hrun:(execOp a.eval o).run P w= .ok .skip w') (hI:Inv P S w0 M0 s0 dq { env with bx:=aD env.bx us } a w' μ)
 (hK:Goal P S w0 M0 s0 dq env a o.dst .skip us K):o.wp P a w K Q:=by
 unfold Oper.wp
 rw [hrun]
 refine hK _ w' μ (hI.put hd (V:= .skip) (v:=undef) rfl (by simp [aI,aG])) ?_
 cases o.dst <;> simp [Act.put]
theorem OM {vs ws:List (Sy.V S.C)} {off:Nat} {p:Sy.V S.C→Bool} (h1:vs.all p=true) (h2:ws.all p=true):(setCells S vs off ws).all p=true:=by
 unfold Sy.setCells
 rw [List.all_eq_true] at *
 intro x hx
 simp only [List.mem_append] at hx
 rcases hx with (hx | hx) | hx
 · exact h1 x (List.mem_of_mem_take hx)
 · exact h2 x hx
 · exact h1 x (List.mem_of_mem_drop hx)
theorem OO {vs ws:List (Sy.V S.C)} {off:Nat} {x:Sy.V S.C} (hx:x ∈ setCells S vs off ws):x ∈ vs∨x ∈ ws:=by
 unfold Sy.setCells at hx
 simp only [List.mem_append] at hx
 rcases hx with (hx | hx) | hx
 · exact .inl (List.mem_of_mem_take hx)
 · exact .inr hx
 · exact .inl (List.mem_of_mem_drop hx)
theorem ON {vs ws:List (Sy.V S.C)} {off:Nat} (h:off+ws.length≤vs.length):(setCells S vs off ws).length=vs.length:=by
 unfold Sy.setCells; simp; omega
theorem HZ {s:St} {bx:Bx S.C} {vs ws:List (Sy.V S.C)} {cs ds:List Value} {off:Nat} (h1:aQ P S w s μ bx vs cs) (h2:aQ P S w s μ bx ws ds):
 aQ P S w s μ bx (setCells S vs off ws) (cs.take off++ds++cs.drop (off+ds.length)):=by
 unfold Sy.setCells
 rw [aQ.length P S h2]
 exact aQ.append P S (aQ.append P S (h1.take P S off) h2) (h1.drop P S _)
theorem yh {bx aq:Bx S.C} {t:Ty} {V:Sy.V S.C} (h: ∀ i ∈ aI S V,aq i=bx i):datum S aq t V=datum S bx t V∧dH S aq V=dH S bx V:=by
 have vb: ∀ (W:Sy.V S.C) (t:Ty),(∀ i ∈ aG S W,aq i=bx i)→dn S aq t W=dn S bx t W:=by
  intro W t hW
  cases W with
  | aS b=>simp only [dn]; rw [hW b (by simp [aG])]
  | _=>rfl
 have KR: ∀ (W:Sy.V S.C),(∀ i ∈ aG S W,aq i=bx i)→cY S aq W=cY S bx W:=by
  intro W hW
  cases W with
  | aS b=>simp only [cY]; rw [hW b (by simp [aG])]
  | _=>rfl
 have abm: ∀ (ts:List Ty) (vs:List (Sy.V S.C)),(∀ v ∈ vs, ∀ i ∈ aG S v,aq i=bx i)→iQ S aq ts vs=iQ S bx ts vs:=by
  intro ts
  induction ts with
  | nil=>intro vs _; rfl
  | cons t ts ih=>
   intro vs hvs
   cases vs with
   | nil=>rfl
   | cons v vs=>
    simp only [iQ]
    rw [vb v t (hvs v (by simp)),ih vs fun v hv=>hvs v (by simp [hv])]
 have imp_eq: ∀ (t:Ty) (vs:List (Sy.V S.C)),(∀ v ∈ vs, ∀ i ∈ aG S v,aq i=bx i)→jd S aq t vs=jd S bx t vs:=by
  intro t vs hvs
  cases t with
  | st u=>simp only [jd]; rw [abm _ vs hvs]
  | _=>
   cases vs with
   | nil=>rfl
   | cons v vs=>exact vb v _ (hvs v (by simp))
 cases V with
 | agg u vs=>
  have hvs: ∀ v ∈ vs, ∀ i ∈ aG S v,aq i=bx i:=fun v hv i hi=>h i (by simp only [aI,List.mem_flatMap]; exact ⟨v,hv,hi⟩)
  refine ⟨?_, ?_⟩
  · cases t <;> simp only [datum]
    rw [imp_eq _ vs hvs]
  · simp only [dH]
    clear h
    induction vs with
    | nil=>rfl
    | cons v vs ih=>
     simp only [List.flatMap_cons]
     rw [KR v (hvs v (by simp)),ih fun v hv=>hvs v (by simp [hv])]
 | aS b=>exact ⟨by cases t <;> first | rfl | exact vb (.aS b) _ h,KR (.aS b) h⟩
 | _=>exact ⟨by cases t <;> rfl,rfl⟩
theorem O4 (hP:bf P S au) (h:Inv P S w0 M0 s0 dq env a w μ) (hd: ∀ d,o.dst=some d→d<a.tmps.size) {t:TypeId} {x y:Operand} {ids:List Nat} (ho:o.op= .store t x y)
 (gr: ∀ V,aX S env.tm y=some V→ ∀ i ∈ aI S V,restrict S env.bx ids i=env.bx i)
 (hl:(match S.ty t,aX S env.tm x,aX S env.tm y with
  | some u,some p,some v=>Ae S u (restrict S env.bx ids) v p
  | _,_,_=> .fail).leaf (V,us)) (hK:Goal P S w0 M0 s0 dq env a o.dst V us K):o.wp P a w K Q:=by
 split at hl
 · rename_i T p v ht hx hy
   obtain ⟨hp,_⟩:=bD h hx
   obtain ⟨hv,dM⟩:=bD h hy
   cases p with
   | ptr b off=>
    simp only [Ae] at hl
    split at hl
    · rename_i vs hb
      have hb:=fH hb
      cases hf:fits S (cellsOf S v) (Ty.sz S T)&&Nat.ble (off+Ty.sz S T) vs.length with
      | false=>rw [hf] at hl; exact hl.elim
      | true=>
       rw [hf] at hl
       obtain ⟨rfl,rfl⟩:=bF hl
       rw [Bool.and_eq_true] at hf
       obtain ⟨f1,f2⟩:=E7 hf.1
       have f3:=Nat.le_of_ble_eq_true hf.2
       obtain ⟨c1,c2⟩:=Em hP.todm f2 hv
       have S3:=aQ.length P S c1
       obtain ⟨b1,b2,b3,cs,b4,b5⟩:=h.cc b _ hb
       have acg:=aQ.length P S b5
       have cg:live S env.bx b:=by unfold live; rw [hb]; trivial
       have hle:off+(a.eval y).cells.toList.length≤cs.length:=by omega
       have cM:w.there (μ b).b ((μ b).o+off) (a.eval y).cells.toList.length:=oH b3 (by omega) (by omega)
       have hp:a.eval x= .pointer (some ⟨(μ b).b,(μ b).o+off,none⟩):=hp
       have hrun:(execOp a.eval o).run P w= .ok .skip (w.setCells (μ b).b ((μ b).o+off) (a.eval y).cells.toList):=by
        unfold execOp
        simp only [ho,hp]
        have :=run_store hP ht (b:=(μ b).b) (o':=(μ b).o+off) (v:=a.eval y) (w:=w) (by rw [← f1, ← S3]; simp) cM (Ac f2 c1)
        simp [this]
       refine PG h hd hrun ?_ hK
       show Inv P S w0 M0 s0 dq { env with bx:=aC env.bx b (some (.cells (setCells S vs off (cellsOf S v)))) } a _ μ
       refine h.write hb cg (fun _ e=>nomatch e) (by omega) (by omega) rfl (fun hl pz=>⟨OM b1 f2,by rw [ON (by omega)]; exact b2,xy b3 cM,_,Nj b4 off hle, ?_⟩) fun ws jx u hu j hj=> ?_
       · refine HZ (aQ.map pz (fun v hv=>h.lQ b vs (.inl hb) v hv) b5) (aQ.map pz (fun u hu j hj=>dM j (c2 u hu j hj)) c1)
       · rcases jx with jx | jx
         · cases jx
           rcases OO hu with hu | hu
           · exact h.lQ b vs (.inl hb) u hu j hj
           · exact dM j (c2 u hu j hj)
         · cases jx
    · exact hl.elim
   | fK b i off=>
    simp only [Ae] at hl
    split at hl
    · rename_i e l hb
      have hb:=fH hb
      split at hl
      · rename_i z hz
        obtain ⟨d1,d2⟩:=yh (t:=T) (gr v hy)
        rw [d1] at hz
        rw [d2] at hl
        cases hf:Nat.ble (off+Ty.sz S T) (Ty.sz S e)&&(dH S env.bx v).all (fun u=> !Nat.beq u.1 b) with
        | false=>rw [hf] at hl; exact hl.elim
        | true=>
         rw [hf,cond_true] at hl
         rw [Bool.and_eq_true] at hf
         split at hl
         · rename_i e' he'
           obtain ⟨rfl,rfl⟩:=bF hl
           have f3:=Nat.le_of_ble_eq_true hf.1
           obtain ⟨k1,r1⟩:=A6 hP.todm h (Tk.refl S env.bx) hv hz
           have h1:=h.tk k1
           have gS:aD env.bx (dH S env.bx v) b=some (.arr e l):=by
            rw [xB _ _ fun u hu=> ?_]
            · exact hb
            · have :=List.all_eq_true.1 hf.2 u hu
              intro e
              rw [e,Nat.beq_refl] at this
              cases this
           obtain ⟨_,yV⟩:=h1.j9 0 |> fun _=>(show RV P S w (aO S w0 M0 s0 env.bx μ w) μ env.bx (.fK b i off) (a.eval x) from hp)
           obtain ⟨i0,i1,LU⟩:=yV e l (.inl hb)
           obtain ⟨g1,g2,g3,g4,g5⟩:=h1.cc b _ gS
           have FJ:l[i.toNat]? =some (iD S e l i):=vA i0 (by omega)
           obtain ⟨ds,Tf,Tg,n,Th⟩:=g5 _ _ FJ
           have r2:cy S w (aO S w0 M0 s0 (aD env.bx (dH S env.bx v)) μ w) T z (a.eval y):=by
            refine r1.mono S fun b' o' ⟨q1,q2,q3⟩=>⟨⟨q1,q2,fun j hj=> ?_⟩,rfl⟩
            rcases q3 j ((eI S (k1.eo hj)).1 hj) with ⟨_,_,hq⟩ | hq
            · unfold live at hj; rw [hq] at hj; exact hj.elim
            · exact hq
           obtain ⟨m,r3⟩:=r2.2
           have hvl:=r3.length S
           have hrow:(i.toNat+1)*Ty.sz S e≤(μ b).cap*Ty.sz S e:=Nat.mul_le_mul_right _ (by omega)
           rw [Nat.add_mul,Nat.one_mul] at hrow
           have cg:live S (aD env.bx (dH S env.bx v)) b:=by unfold live; rw [gS]; trivial
           have cM:w.there (μ b).b ((μ b).o+(i.toNat*Ty.sz S e+off)) (a.eval y).cells.toList.length:=oH g4 (by omega) (by omega)
           obtain ⟨x1,x2,x3⟩:=nQ (P:=P) hP.todm μ (aD env.bx (dH S env.bx v)) r3
           obtain ⟨y1,y2,y3⟩:=nQ (P:=P) hP.todm μ (aD env.bx (dH S env.bx v)) Th
           have acL:=aQ.length P S x1
           have acM:=aQ.length P S y1
           have hrun:(execOp a.eval o).run P w= .ok .skip (w.setCells (μ b).b ((μ b).o+(i.toNat*Ty.sz S e+off)) (a.eval y).cells.toList):=by
            unfold execOp
            rw [show (μ b).o+i.toNat*Ty.sz S e+off=(μ b).o+(i.toNat*Ty.sz S e+off) from by omega] at LU
            simp only [ho,LU]
            have :=run_store hP ht (b:=(μ b).b) (o':=(μ b).o+(i.toNat*Ty.sz S e+off)) (v:=a.eval y) (w:=w) (by rw [← hvl]; simp) cM (Ac x2 x1)
            simp [this]
           refine PG h hd hrun ?_ hK
           rw [jL]
           show Inv P S w0 M0 s0 dq { env with bx:=aC (aD env.bx (dH S env.bx v)) b (some (.arr e (l.set i.toNat e'))) } a _ μ
           refine h1.write (B':= .arr e (l.set i.toNat e')) gS cg (fun _ e=>nomatch e) (by omega) (by omega) ⟨rfl,rfl,by simp⟩ (fun hl pz=>⟨g1,g2,by simpa using g3,xy g4 cM,fun k q hk=> ?_⟩) fun ws jx=>by rcases jx with jx | jx <;> cases jx
           by_cases ek:i.toNat=k
           · subst ek
             rw [List.getElem?_set_self (by omega)] at hk
             cases hk
             rw [show (μ b).o+(i.toNat*Ty.sz S e+off)=(μ b).o+i.toNat*Ty.sz S e+off from by omega] at hl ⊢
             refine ⟨_, ?_,Nj (cs:=ds) (vals:=(a.eval y).cells.toList) Tg off (by omega), ?_⟩
             · rw [List.length_append,List.length_append,List.length_take,List.length_drop]; omega
             · obtain ⟨q,hq⟩:=L5 (P:=P) hP.todm (HZ (off:=off) y1 x1) he'
               refine ⟨q, ?_⟩
               have :=hq.mono S hl (Nat.le_refl _)
               rw [List.take_of_length_le (by rw [List.length_append,List.length_append,List.length_take,List.length_drop]; omega)] at this
               exact this
           · rw [List.getElem?_set_ne ek] at hk
             obtain ⟨ds',p1,p2,p3,p4⟩:=g5 k q hk
             refine ⟨ds',p1,wg p2 (.inr ?_),p3,p4.mono S hl (Nat.le_refl _)⟩
             rcases Nat.lt_or_gt_of_ne ek with hlt | hlt
             · right
               have :(i.toNat+1)*Ty.sz S e≤k*Ty.sz S e:=Nat.mul_le_mul_right _ (by omega)
               rw [Nat.add_mul,Nat.one_mul] at this
               omega
             · left
               have :(k+1)*Ty.sz S e≤i.toNat*Ty.sz S e:=Nat.mul_le_mul_right _ (by omega)
               rw [Nat.add_mul,Nat.one_mul] at this
               omega
         · exact hl.elim
      · exact hl.elim
    · exact hl.elim
   | _=>exact hl.elim
 · exact hl.elim
end
end Go.Sy
