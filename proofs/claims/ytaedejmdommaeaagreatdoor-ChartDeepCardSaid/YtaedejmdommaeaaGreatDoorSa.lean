import Derived.WalkKit
import Derived.Deep.LoopGhost
import Derived.Deep.AppendSrc
import Derived.Deep.MidRow
import Derived.Lib.FrozenHead2
import Derived.Laws.BytesString
import Derived.Lib.Strings
set_option linter.unusedVariables false
set_option linter.unusedSimpArgs false
namespace Go.Sy
inductive Ty where
 | int (k:IntKind) | bool | str | st (t:Nat) | sl (e:Ty) | pt
 deriving DecidableEq,Inhabited
def Ty.den (C:Nat→Type):Ty→Type
 | .int _=>Int
 | .bool=>Bool
 | .str=>List UInt8
 | .st t=>C t
 | .sl e=>List (e.den C)
 | .pt=>Unit   -- a pointer in a struct
def an (C:Nat→Type):List Ty→Type
 | []=>Unit
 | [t]=>t.den C
 | t::u::ts=>t.den C×an C (u::ts)
def an.cons {C:Nat→Type} {t:Ty} : {ts:List Ty} →t.den C→an C ts→an C (t::ts)
 | [],x,_=>x
 | _::_,x,r=>(x,r)
def an.head {C:Nat→Type} {t:Ty} : {ts:List Ty} →an C (t::ts)→t.den C
 | [],x=>x
 | _::_,x=>x.1
def an.tail {C:Nat→Type} {t:Ty} : {ts:List Ty} →an C (t::ts)→an C ts
 | [],_=>()
 | _::_,x=>x.2
structure aP where
 C:Nat→Type
 F:Nat→List Ty
 ex:(t:Nat)→C t→an C (F t)
 im:(t:Nat)→an C (F t)→C t
 dO:Nat→Nat→Option (Nat×Ty)
 z:(t:Nat)→C t
 ty:Nat→Option Ty
 pt:Nat→Bool
 ar:Nat→Option (Nat×Ty)
 eq:Nat→Bool
 nu:Nat→Bool
 gl:List ((Nat×Nat)×(Value→Prop))
 gb:List (Nat×(Obj→Prop))
 bt:Option (Nat×Nat)
 sp:Nat→Bool
inductive CK where
 | data (t:Ty)
 | aW (e:Ty)      -- a slice whose room behind its end is its holder's alone
 | aM (e:Ty)      -- a slice whose array is its holder's alone
 deriving DecidableEq,Inhabited
inductive K where
 | val (c:CK)
 | obj (cs:List CK)
 | opt (cs:List CK)
 | nil
 | ro (t:Ty)
 | fn (a r:List Ty)
 | bX (cs:List CK)  -- a slice whose array is cells of its holder's own
 | err                 -- an error: is it nil?
 | aV                 -- a builder of a text
 | bJ (t:Ty) (cs:List CK)  -- an object whose first cell points to an object of its own
 deriving DecidableEq,Inhabited
def CK.den (C:Nat→Type):CK→Type
 | .data t=>t.den C
 | .aW e=>List (e.den C)
 | .aM e=>List (e.den C)
def bp (C:Nat→Type):List CK→Type
 | []=>Unit
 | [t]=>t.den C
 | t::u::ts=>t.den C×bp C (u::ts)
def K.den (C:Nat→Type):K→Type
 | .val c=>c.den C
 | .obj cs=>bp C cs
 | .opt cs=>Option (bp C cs)
 | .nil=>Unit
 | .ro t=>t.den C
 | .fn a r=>an C a→Option (an C r)
 | .bX cs=>bp C cs
 | .err=>Bool
 | .aV=>List UInt8
 | .bJ t cs=>t.den C×bp C cs
def Ks (C:Nat→Type):List K→Type
 | []=>Unit
 | [t]=>t.den C
 | t::u::ts=>t.den C×Ks C (u::ts)
def bp.cons {C:Nat→Type} {t:CK} : {ts:List CK} →t.den C→bp C ts→bp C (t::ts)
 | [],x,_=>x
 | _::_,x,r=>(x,r)
def bp.head {C:Nat→Type} {t:CK} : {ts:List CK} →bp C (t::ts)→t.den C
 | [],x=>x
 | _::_,x=>x.1
def bp.tail {C:Nat→Type} {t:CK} : {ts:List CK} →bp C (t::ts)→bp C ts
 | [],_=>()
 | _::_,x=>x.2
def Ks.cons {C:Nat→Type} {t:K} : {ts:List K} →t.den C→Ks C ts→Ks C (t::ts)
 | [],x,_=>x
 | _::_,x,r=>(x,r)
def Ks.head {C:Nat→Type} {t:K} : {ts:List K} →Ks C (t::ts)→t.den C
 | [],x=>x
 | _::_,x=>x.1
def Ks.tail {C:Nat→Type} {t:K} : {ts:List K} →Ks C (t::ts)→Ks C ts
 | [],_=>()
 | _::_,x=>x.2
inductive V (C:Nat→Type) where
 | undef
 | skip
 | d (t:Ty) (x:t.den C)
 | pr (p:Prop) (i:Decidable p)
 | aW (b:Nat) (e:Ty) (l:List (e.den C))
 | aM (b:Nat)
 | pre (b:Nat) (n:Int)
 | win (b:Nat) (i n:Int)
 | ptr (b off:Nat)
 | bX (b n:Nat)
 | split (b c:Nat)
 | jY (c:Nat)
 | err (b:Bool)
 | dY (b:Nat) (i:Int) (off:Nat)
 | cN (t:Ty) (x:t.den C)
 | nil
 | b8
 | fv (a r:List Ty) (g:an C a→Option (an C r))
 | ey (f:Nat) (caps:List (V C))
 | agg (t:Nat) (vs:List (V C))
 | gm (vs:List (V C))
inductive cZ (C:Nat→Type) where
 | cells (vs:List (V C))
 | bG (vs:List (V C))
 | arr (e:Ty) (l:List (e.den C))
 | bw (e:Ty) (l:List (e.den C))
 | tail
 | dead
 | aV (j:Nat)           -- a builder; its bytes are in 'j'
 | buf (l:List UInt8)    -- a builder's bytes
structure Env (C:Nat→Type) where
 tm:Nat→V C
 bx:Nat→Option (cZ C)
 df:Bool   -- has the function's deferred call been laid down?
def aq {α:Type} (f:Nat→α) (k:Nat) (v:α):Nat→α:=fun i=>cond (Nat.beq i k) v (f i)
abbrev aH (C:Nat→Type):=List (Nat×cZ C)
abbrev Bx (C:Nat→Type):=Nat→Option (cZ C)
def av {C:Nat→Type} (bx:Bx C):aH C→Bx C
 | []=>bx
 | u::us=>av (aq bx u.1 (some u.2)) us
def rQ {C:Nat→Type} (tm:Nat→V C) (dst:Option Nat) (v:V C):Nat→V C:=match dst with
 | some d=>aq tm d v
 | none=>tm
def Env.apply {C:Nat→Type} (e:Env C) (dst:Option Nat) (v:V C) (us:aH C):Env C:=
 { tm:=rQ e.tm dst v,bx:=av e.bx us,df:=e.df }
structure Gd where
 p:Prop
 i:Decidable p
def gd (p:Prop) [i:Decidable p]:Gd:=⟨p,i⟩
inductive Tr (X:Type):Type 1 where
 | fail
 | ret (x:X)
 | ite (p:Prop) (i:Decidable p) (a b:Tr X)
 | bind (α:Type) (m:Option α) (k:α→Tr X)
 | opt (α:Type) (m:Option α) (n:Tr X) (s:α→Tr X)
def Tr.run {X:Type} {R:Type} :Tr X→(X→Option R)→Option R
 | .fail,_=>none
 | .ret x,k=>k x
 | .ite _ i a b,k=> @_root_.ite _ _ i (a.run k) (b.run k)
 | .bind _ m f,k=>m.bind fun x=>(f x).run k
 | .opt _ m n s,k=>match m with
  | none=>n.run k
  | some x=>(s x).run k
def Tr.gd {X:Type} :List Gd→Tr X→Tr X
 | [],r=>r
 | g::gs,r=> .ite g.p g.i (Tr.gd gs r) .fail
section
variable (S:aP)
def dL (t u:Ty) (x:t.den S.C):Option (u.den S.C):=if h:t=u then some (h▸x) else none
def Ty.zero:(t:Ty)→t.den S.C
 | .int _=>(0:Int)
 | .bool=>false
 | .str=>([]:List UInt8)
 | .sl _=> []
 | .st u=>S.z u
 | .pt=>()
def Ty.sz:Ty→Nat
 | .st u=>(S.F u).length
 | _=>1
def cA (bx:Bx S.C) (t:Ty) (v:V S.C):Option (t.den S.C):=
 match v with
 | .d u x=>dL S u t x
 | .pr p i=>dL S .bool t (@decide p i)
 | .aW _ e l=>dL S (.sl e) t l
 | .b8=>match t with
  | .sl _=>some []
  | _=>none
 | .aM b=>match bx b with
  | some (.arr e l) | some (.bw e l)=>dL S (.sl e) t l
  | _=>none
 | _=>none
def n4:(ts:List Ty)→an S.C ts→List (V S.C)
 | [],_=> []
 | t::ts,x=> .d t (an.head x)::n4 ts (an.tail x)
def gO:(t:Ty)→t.den S.C→List (V S.C)
 | .st u,x=>n4 S (S.F u) (S.ex u x)
 | t,x=> [.d t x]
def fQ (bx:Bx S.C):(ts:List Ty)→List (V S.C)→Option (an S.C ts)
 | [],_=>some ()
 | t::ts,v::vs=>(cA S bx t v).bind fun x=>(fQ bx ts vs).bind fun y=>some (an.cons x y)
 | _::_,[]=>none
def ga (bx:Bx S.C) (t:Ty) (vs:List (V S.C)):Option (t.den S.C):=
 match t with
 | .st u=>(fQ S bx (S.F u) vs).bind fun x=>some (S.im u x)
 | t=>match vs with
  | v::_=>cA S bx t v
  | []=>none
def zeroCell:Ty→V S.C
 | .sl _=> .b8
 | .pt=> .nil
 | t=> .d t (Ty.zero S t)
def zeroCells:Ty→List (V S.C)
 | .st u=>(S.F u).map (zeroCell S)
 | t=> [zeroCell S t]
end
end Go.Sy
namespace Go.Sy
section
variable (S:aP)
def outs:List K→List K
 | []=> []
 | .obj cs::r=> .obj cs::outs r
 | .aV::r=> .aV::outs r
 | .bJ t cs::r=> .bJ t cs::outs r
 | _::r=>outs r
structure Entry where
 f:Nat
 ps:List K
 rs:List K
 sp:Ks S.C ps→Option (Ks S.C (rs++outs ps))
structure fA where
 f:Nat
 a:List Ty
 c:List Ty
 r:List Ty
 sp:an S.C a→an S.C c→Option (an S.C r)
structure fD where
 es:List (Entry S)
 fs:List (fA S)
 nl:Bool
 vw:Bool
 dc:Option (Nat×List Operand)   -- the call that it defers
 de:List (Entry S)                -- callees that may be deferred
def wN:Ty→Bool
 | .sl _=>false
 | .st u=>(S.F u).all fun | .sl _=>false | .st _=>false | _=>true
 | _=>true
def oG:CK→Bool
 | .data t=>wN S t
 | .aW _=>false
 | .aM e=>wN S e
def qz:K→Bool
 | .val c=>oG S c
 | .obj cs | .opt cs=>cs.all (oG S)
 | .nil | .err | .aV=>true
 | .ro _ | .fn _ _ | .bJ _ _=>false
 | .bX cs=>cs.all (oG S)
def datum (bx:Bx S.C) (t:Ty) (v:V S.C):Option (t.den S.C):=
 match v with
 | .agg u vs=>match t with
  | .st w=>if u=w then ga S bx (.st w) vs else none
  | _=>none
 | v=>match t with
  | .st w=>match v with
   | .d u x=>dL S u (.st w) x
   | _=>none
  | t=>cA S bx t v
def cg (bx:Bx S.C):V S.C→aH S.C
 | .aM b=>match bx b with
  | some (.arr e l)=> [(b, .bw e l)]
  | _=> []
 | _=> []
def cJ (bx:Bx S.C) (v:V S.C):aH S.C:=
 match v with
 | .agg _ vs=>vs.flatMap (cg S bx)
 | v=>cg S bx v
def cellsOf (v:V S.C):List (V S.C):=
 match v with
 | .d t x=>gO S t x
 | .agg _ vs=>vs
 | v=> [v]
def ax:V S.C→List Nat
 | .aW b _ _ | .aM b | .ptr b _ | .dY b _ _ | .pre b _ | .win b _ _ | .bX b _ | .jY b=> [b]
 | .split b c=> [b,c]
 | _=> []
def az:V S.C→List Nat
 | .agg _ vs | .ey _ vs | .gm vs=>vs.flatMap (ax S)
 | v=>ax S v
def bS (id:Nat):(c:CK)→c.den S.C→List (V S.C)×aH S.C×Nat
 | .data t,x=>(gO S t x,[],id)
 | .aW e,x=>([.aW id e x],[(id, .tail)],id+1)
 | .aM e,x=>([.aM id],[(id, .arr e x)],id+1)
def bh (id:Nat):(cs:List CK)→bp S.C cs→List (V S.C)×aH S.C×Nat
 | [],_=>([],[],id)
 | c::cs,x=>
  let a:=bS S id c (bp.head x)
  let b:=bh a.2.2 cs (bp.tail x)
  (a.1++b.1,a.2.1++b.2.1,b.2.2)
def CK.sz:CK→Nat
 | .data t=>Ty.sz S t
 | _=>1
def CK.bV:List CK→Nat
 | []=>0
 | c::cs=>CK.sz S c+CK.bV cs
def F_ (id:Nat):(k:K)→k.den S.C→(V S.C×aH S.C×Nat→Tr (V S.C×aH S.C))→Tr (V S.C×aH S.C)
 | .val (.data t),x,κ=>κ (.d t x,[],id)
 | .val (.aW e),x,κ=>κ (.aW id e x,[(id, .tail)],id+1)
 | .val (.aM e),x,κ=>κ (.aM id,[(id, .arr e x)],id+1)
 | .obj cs,x,κ=>let a:=bh S (id+1) cs x; κ (.ptr id 0,(id, .cells a.1)::a.2.1,a.2.2)
 | .opt cs,x,κ=> .opt _ x (κ (.nil,[],id)) fun y=>let a:=bh S (id+1) cs y; κ (.ptr id 0,(id, .cells a.1)::a.2.1,a.2.2)
 | .fn a r,g,κ=>κ (.fv a r g,[],id)
 | .ro t,x,κ=>κ (.cN t x,[],id)
 | .nil,_,κ=>κ (.nil,[],id)
 | .err,x,κ=>κ (.err x,[],id)
 | .aV,x,κ=>κ (.ptr id 0,[(id, .aV (id+1)),(id+1, .buf x)],id+2)
 | .bX cs,x,κ=>let a:=bh S (id+1) cs x; κ (.bX id (CK.bV S cs),(id, .cells a.1)::a.2.1,a.2.2)
 | .bJ _ _,_,_=> .fail
def dn (bx:Bx S.C) (c:CK) (vs:List (V S.C)):Option (c.den S.C×aH S.C):=
 match c with
 | .data t=>(ga S bx t vs).bind fun x=>some (x,(vs.take (Ty.sz S t)).flatMap (cg S bx))
 | .aW e=>match vs with
  | .aW b e' l::_=>match bx b with
   | some .tail=>(dL S (.sl e') (.sl e) l).bind fun x=>some (x,[(b, .dead)])
   | _=>none
  | .b8::_=>some ([],[])
  | _=>none
 | .aM e=>match vs with
  | .aM b::_=>match bx b with
   | some (.arr e' l)=>(dL S (.sl e') (.sl e) l).bind fun x=>some (x,[(b, .dead)])
   | _=>none
  | .pre b n::_=>match bx b with
   | some (.arr e' l)=>(dL S (.sl e') (.sl e) (List.take n.toNat l)).bind fun x=>some (x,[(b, .dead)])
   | _=>none
  | .b8::_=>some ([],[])
  | _=>none
def cY (bx:Bx S.C):(cs:List CK)→List (V S.C)→Option (bp S.C cs×aH S.C)
 | [],_=>some ((),[])
 | c::cs,vs=>(dn S bx c vs).bind fun a=>
  (cY (av bx a.2) cs (vs.drop (CK.sz S c))).bind fun b=>some (bp.cons a.1 b.1,a.2++b.2)
def Gg:V S.C→Bool
 | .aM _=>false
 | _=>true
def ku (bx:Bx S.C) (t:Ty) (v:V S.C):Option (t.den S.C):=match v with
 | .ptr b 0=>match bx b with
  | some (.bG ws)=>cond (ws.all (Gg S)) (ga S bx t ws) none
  | _=>none
 | .cN u x=>dL S u t x
 | _=>none
def caps (bx:Bx S.C):(ts:List Ty)→List (V S.C)→Option (an S.C ts)
 | [],[]=>some ()
 | t::ts,v::vs=>(ku S bx t v).bind fun x=>(caps bx ts vs).bind fun r=>some (an.cons x r)
 | _,_=>none
def oH (fs:List (fA S)) (bx:Bx S.C) (a r:List Ty):V S.C→Option (an S.C a→Option (an S.C r))
 | .fv a' r' g=>if h:a'=a then if h':r'=r then some (h'▸h▸g) else none else none
 | .ey f vs=>fs.findSome? fun e=>
  if e.f=f then (if h:e.a=a then if h':e.r=r then (caps S bx e.c vs).bind fun y=>some (h'▸h▸fun x=>e.sp x y) else none else none) else none
 | _=>none
def eY (bx:Bx S.C) (cs:List CK) (b:Nat):Option (bp S.C cs×aH S.C):=match bx b with
 | some (.cells vs)=>cond (Nat.beq vs.length (CK.bV S cs)) ((cY S (aq bx b (some .dead)) cs (vs.drop 0)).bind fun a=>some (a.1,(b, .dead)::a.2)) none
 | _=>none
def bQ (fs:List (fA S)) (bx:Bx S.C) (k:K) (v:V S.C):Option (k.den S.C×aH S.C):=
 match k with
 | .val (.data t)=>(datum S bx t v).bind fun x=>some (x,cJ S bx v)
 | .val (.aW e)=>dn S bx (.aW e) [v]
 | .val (.aM e)=>dn S bx (.aM e) [v]
 | .obj cs=>match v with
  | .ptr b off=>match bx b with
   | some (.cells vs)=>cond (Nat.beq off 0&&Nat.beq vs.length (CK.bV S cs)) ((cY S (aq bx b (some .dead)) cs (vs.drop off)).bind fun a=>some (a.1,(b, .dead)::a.2)) none
   | _=>none
  | _=>none
 | .nil=>match v with
  | .nil=>some ((),[])
  | _=>none
 | .ro t=>(ku S bx t v).bind fun x=>some (x,[])
 | .fn a r=>(oH S fs bx a r v).bind fun g=>some (g,[])
 | .opt cs=>match v with
  | .nil=>some (none,[])
  | .ptr b off=>match bx b with
   | some (.cells vs)=>cond (Nat.beq off 0&&Nat.beq vs.length (CK.bV S cs)) ((cY S (aq bx b (some .dead)) cs (vs.drop off)).bind fun a=>some (some a.1,(b, .dead)::a.2)) none
   | _=>none
  | _=>none
 | .err=>match v with
  | .err b=>some (b,[])
  | _=>none
 | .aV=>match v with
  | .ptr b off=>match bx b with
   | some (.aV j)=>match bx j with
    | some (.buf l)=>cond (Nat.beq off 0) (some (l,[(b, .dead),(j, .dead)])) none
    | _=>none
   | _=>none
  | _=>none
 | .bX cs=>match v with
  | .bX b n=>match bx b with
   | some (.cells vs)=>cond (Nat.beq n vs.length&&Nat.beq vs.length (CK.bV S cs)) ((cY S (aq bx b (some .dead)) cs (vs.drop 0)).bind fun a=>some (a.1,(b, .dead)::a.2)) none
   | _=>none
  | _=>none
 | .bJ t cs=>match v with
  | .split b c=>(eY S bx [.data t] c).bind fun x=>(eY S (av bx x.2) cs b).bind fun y=>some ((x.1,y.1),x.2++y.2)
  | _=>none
def dx (fs:List (fA S)) (bx:Bx S.C):(ks:List K)→List (V S.C)→Option (Ks S.C ks×aH S.C)
 | [],[]=>some ((),[])
 | k::ks,v::vs=>(bQ S fs bx k v).bind fun a=>(dx fs (av bx a.2) ks vs).bind fun b=>some (Ks.cons a.1 b.1,a.2++b.2)
 | _,_=>none
def setCells (vs:List (V S.C)) (off:Nat) (ws:List (V S.C)):List (V S.C):=vs.take off++ws++vs.drop (off+ws.length)
def ec (id:Nat):(ks:List K)→List (V S.C)→Ks S.C (outs ks)→aH S.C
 | [],_,_=> []
 | .obj cs::ks,v::vs,x=>match v with
  | .ptr b _=>
   let a:=bh S id cs (Ks.head (t:= .obj cs) x)
   (b, .cells a.1)::a.2.1++ec a.2.2 ks vs (Ks.tail (t:= .obj cs) x)
  | _=> []
 | .aV::ks,v::vs,x=>match v with
  | .ptr b _=>(b, .aV id)::(id, .buf (Ks.head (t:= .aV) x))::ec (id+1) ks vs (Ks.tail (t:= .aV) x)
  | _=> []
 | .bJ t cs::ks,v::vs,x=>match v with
  | .split b c=>
   let y:=Ks.head (t:= .bJ t cs) x
   let a0:=bh S id [.data t] y.1
   let a:=bh S id cs y.2
   (c, .cells a0.1)::(b, .cells a.1)::a.2.1++ec a.2.2 ks vs (Ks.tail (t:= .bJ t cs) x)
  | _=> []
 | .val _::ks,_::vs,x=>ec id ks vs x
 | .opt _::ks,_::vs,x=>ec id ks vs x
 | .nil::ks,_::vs,x=>ec id ks vs x
 | .ro _::ks,_::vs,x=>ec id ks vs x
 | .fn _ _::ks,_::vs,x=>ec id ks vs x
 | .bX _::ks,_::vs,x=>ec id ks vs x
 | .err::ks,_::vs,x=>ec id ks vs x
 | _::_,[],_=> []
def cP:List K→List (V S.C)→List Nat
 | .obj _::ks, .ptr b _::vs=>b::cP ks vs
 | .aV::ks, .ptr b _::vs=>b::cP ks vs
 | .bJ _ _::ks, .split b c::vs=>c::b::cP ks vs
 | _::ks,_::vs=>cP ks vs
 | _,_=> []
def ig (eA:Bool) (us:aH S.C):aH S.C:=cond eA us (us.filter fun u=>match u.2 with
 | .bw _ _=>false
 | _=>true)
end
end Go.Sy
namespace Go.Sy
section
variable (S:aP)
variable (T:fD S)
abbrev Rt:=Tr (V S.C×aH S.C)
def aA (v:V S.C) (us:aH S.C):Rt S:= .ret (v,us)
def iH (t:Nat):Option Nat:=match S.ar t with
 | some _=>none
 | none=>match S.ty t with
  | some (.st u)=>some u
  | _=>none
def mT (t:Nat):Option (Nat×Ty×Nat):=match S.ar t with
 | some (n,e)=>match e,S.ty t with
  | .st _,_=>none
  | e,some (.st u)=>some (n,e,u)
  | _,_=>none
 | none=>none
def vT (t:Nat):Option (Nat×Nat×Nat):=match S.ar t with
 | some (n,e)=>match e,S.ty t with
  | .st w,some (.st u)=>some (n,w,u)
  | _,_=>none
 | none=>none
def dR (t:Nat):Option Ty:=match S.ty t with
 | some (.sl e)=>some e
 | _=>none
def arith (op:BinOp) (k:IntKind) (x y:Int):Option (List Gd×V S.C):=
 match op with
 | .add=>some ([], .d (.int k) (k.wrap (x+y)))
 | .sub=>some ([], .d (.int k) (k.wrap (x - y)))
 | .mul=>some ([], .d (.int k) (k.wrap (x*y)))
 | .quo=>some ([gd (¬ y=0)], .d (.int k) (k.wrap (x.tdiv y)))
 | .rem=>some ([gd (¬ y=0)], .d (.int k) (x.tmod y))
 | .and=>some ([], .d (.int k) (k.wrap ((BitVec.ofInt k.bits x &&& BitVec.ofInt k.bits y).toNat:Nat)))
 | .shl=>some ([gd (0≤y)], .d (.int k) (k.wrap (x*2 ^ (min y.toNat k.bits))))
 | .shr=>some ([gd (0≤y)], .d (.int k) (x.fdiv (2 ^ (min y.toNat k.bits))))
 | .eql=>some ([], .pr (x=y) inferInstance)
 | .neq=>some ([], .pr (x≠y) inferInstance)
 | .lss=>some ([], .pr (x<y) inferInstance)
 | .leq=>some ([], .pr (x≤y) inferInstance)
 | .gtr=>some ([], .pr (y<x) inferInstance)
 | .geq=>some ([], .pr (y≤x) inferInstance)
 | _=>none
def Ct (op:BinOp) (x y:List UInt8):Option (List Gd×V S.C):=
 match op with
 | .add=>some ([gd (x.length+y.length≤9223372036854775807)], .d .str (x++y))
 | .eql=>some ([], .pr (x=y) inferInstance)
 | .neq=>some ([], .pr (x≠y) inferInstance)
 | _=>none
def V.int? {D:Nat→Type} :V D→Option (IntKind×Int)
 | .d (.int k) n=>some (k,n)
 | _=>none
def V.nZ {D:Nat→Type} :V D→Option (List UInt8)
 | .d .str s=>some s
 | _=>none
def V.bool? {D:Nat→Type} :V D→Option Bool
 | .d .bool b=>some b
 | .pr p i=>some (@decide p i)
 | _=>none
def FJ:BinOp→Bool
 | .shl | .shr=>true
 | _=>false
def vU (op:BinOp) (t:Nat) (x y:V S.C):Option (List Gd×V S.C):=
 match x.int?,y.int? with
 | some (k,a),some (k',b)=>if FJ op=true∨k=k' then arith S op k a b else none
 | _,_=>match x.nZ,y.nZ with
  | some a,some b=>Ct S op a b
  | _,_=>match x.bool?,y.bool? with
   | some a,some b=>cond (match S.ty t with | some .bool=>true | _=>false) (match op with
    | .eql=>some ([], .pr (a=b) inferInstance)
    | .neq=>some ([], .pr (a≠b) inferInstance)
    | _=>none) none
   | _,_=>cond (S.pt t) (match x,y with
    | .nil, .nil=>match op with
     | .eql=>some ([], .d .bool true)
     | .neq=>some ([], .d .bool false)
     | _=>none
    | .ptr _ _, .nil=>match op with
     | .eql=>some ([], .d .bool false)
     | .neq=>some ([], .d .bool true)
     | _=>none
    | _,_=>none) none
def qw:(t:Ty)→t.den S.C→t.den S.C→Prop
 | .int _,x,y=> @Eq Int x y
 | .bool,x,y=> @Eq Bool x y
 | .str,x,y=> @Eq (List UInt8) x y
 | _,_,_=>False
def Eb:(t:Ty)→(x y:t.den S.C)→Decidable (qw S t x y)
 | .int _,x,y=>(inferInstance:DecidableEq Int) x y
 | .bool,x,y=>(inferInstance:DecidableEq Bool) x y
 | .str,x,y=>(inferInstance:DecidableEq (List UInt8)) x y
 | .st _,_,_=>instDecidableFalse
 | .sl _,_,_=>instDecidableFalse
 | .pt,_,_=>instDecidableFalse
def gN:(ts:List Ty)→an S.C ts→an S.C ts→Prop
 | [],_,_=>True
 | [t],x,y=>qw S t x y
 | t::u::ts,x,y=>qw S t x.1 y.1∧gN (u::ts) x.2 y.2
def tr:(ts:List Ty)→(x y:an S.C ts)→Decidable (gN S ts x y)
 | [],_,_=>instDecidableTrue
 | [t],x,y=>Eb S t x y
 | t::u::ts,x,y=> @instDecidableAnd _ _ (Eb S t x.1 y.1) (tr (u::ts) x.2 y.2)
def structEq (op:BinOp) (t:Nat) (x y:V S.C):Rt S:=
 match S.ty t with
 | some (.st u)=>match datum S (fun _=>none) (.st u) x,datum S (fun _=>none) (.st u) y with
  | some a,some b=>match op with
   | .eql=>aA S (.pr (gN S (S.F u) (S.ex u a) (S.ex u b)) (tr S (S.F u) (S.ex u a) (S.ex u b))) []
   | .neq=>aA S (.pr (¬ gN S (S.F u) (S.ex u a) (S.ex u b)) (@instDecidableNot _ (tr S (S.F u) (S.ex u a) (S.ex u b)))) []
   | _=> .fail
  | _,_=> .fail
 | _=> .fail
def DO:Value→Option (V S.C)
 | .int k n=>some (.d (.int k) n)
 | .bool b=>some (.d .bool b)
 | .string s=>some (.d .str s.data.toList)
 | .pointer none=>some .nil
 | .slice none 0 0=>some .b8
 | _=>none
def aN (tm:Nat→V S.C):Operand→Option (V S.C)
 | .tmp t=>some (tm t)
 | .const v=>DO S v
 | .func f=>some (.ey f [])
 | .global _=>none
def gS (tm:Nat→V S.C):Option Operand→Option (Option (V S.C))
 | none=>some none
 | some x=>(aN S tm x).bind fun v=>some (some v)
def bE:V S.C→Bool
 | .d (.st _) _=>false
 | .d _ _ | .pr _ _ | .aW _ _ _ | .aM _ | .ptr _ _ | .dY _ _ _ | .cN _ _ | .nil | .b8 | .fv _ _ _=>true
 | _=>false
def fits (vs:List (V S.C)) (n:Nat):Bool:=Nat.beq vs.length n&&vs.all (bE S)
def tD (u:Nat) (vs:List (V S.C)):List (Nat×V S.C)→Option (List (V S.C))
 | []=>some vs
 | (i,v)::r=>match S.dO u i with
  | some (o,t)=>cond (fits S (cellsOf S v) (Ty.sz S t)&&Nat.ble (o+Ty.sz S t) vs.length) (tD u (setCells S vs o (cellsOf S v)) r) none
  | none=>none
def kC (bx:Bx S.C) (e:Ty) (l:List (e.den S.C)):List (Nat×V S.C)→Option (List (e.den S.C)×aH S.C)
 | []=>some (l,[])
 | (i,v)::r=>cond (Nat.blt i (List.length l)) ((datum S bx e v).bind fun x=>(kC bx e (l.set i x) r).bind fun b=>some (b.1,cJ S bx v++b.2)) none
def fG (e:Ty) (l:List (e.den S.C)) (i:Int):e.den S.C:=l.getD i.toNat (Ty.zero S e)
def partOf (e:Ty) (x:e.den S.C) (off:Nat) (t:Ty):Option (t.den S.C):=ga S (fun _=>none) t ((gO S e x).drop off)
def limit:Nat:=140737488355328
def A9 (t:Ty) (bx:Bx S.C):V S.C→Rt S
 | .ptr b off=>match bx b with
  | some (.cells vs) | some (.bG vs)=>match t with
   | .st u=>cond (Nat.ble (off+(S.F u).length) vs.length) (aA S (.agg u ((vs.drop off).take (S.F u).length)) []) .fail
   | _=>match vs[off]? with
    | some v=>aA S v []
    | none=> .fail
  | _=> .fail
 | .cN u x=>match dL S u t x with
  | some y=>aA S (.d t y) []
  | none=> .fail
 | .jY c=>match t with
  | .pt=>aA S (.ptr c 0) []
  | _=> .fail
 | .dY b i off=>match bx b with
  | some (.arr e l) | some (.bw e l)=>match partOf S e (fG S e l i) off t with
   | some y=>aA S (.d t y) []
   | none=> .fail
  | _=> .fail
 | _=> .fail
def vk (t:Ty) (bx:Bx S.C) (v:V S.C):V S.C→Rt S
 | .ptr b off=>match bx b with
  | some (.cells vs)=>cond (fits S (cellsOf S v) (Ty.sz S t)&&Nat.ble (off+Ty.sz S t) vs.length) (aA S .skip [(b, .cells (setCells S vs off (cellsOf S v)))]) .fail
  | _=> .fail
 | .dY b i off=>match bx b with
  | some (.arr e l)=>match datum S bx t v with
   | some y=>cond (Nat.ble (off+Ty.sz S t) (Ty.sz S e)&&(cJ S bx v).all fun u=> !Nat.beq u.1 b) (match ga S (fun _=>none) e (setCells S (gO S e (fG S e l i)) off (gO S t y)) with
    | some e'=>aA S .skip (cJ S bx v++ [(b, .arr e (l.set i.toNat e'))])
    | none=> .fail) .fail
   | none=> .fail
  | _=> .fail
 | _=> .fail
def Cs (u:Nat) (bx:Bx S.C) (v:V S.C):V S.C→Rt S
 | .ptr b off=>match bx b with
  | some (.cells vs)=>cond (fits S (cellsOf S v) (Ty.sz S (.st u))&&Nat.ble (off+Ty.sz S (.st u)) vs.length) (aA S .skip [(b, .bG (setCells S vs off (cellsOf S v)))]) .fail
  | _=> .fail
 | _=> .fail
def zT (t f:Nat):V S.C→Rt S
 | .ptr b off=>match iH S t with
  | some u=>match S.dO u f with
   | some (o,_)=>aA S (.ptr b (off+o)) []
   | none=> .fail
  | _=> .fail
 | .cN (.st u) x=>match iH S t with
  | some u'=>cond (Nat.beq u u') (match S.dO u f with
   | some (o,w)=>match partOf S (.st u) x o w with
    | some y=>aA S (.cN w y) []
    | none=> .fail
   | none=> .fail) .fail
  | _=> .fail
 | .dY b i off=>match iH S t with
  | some u=>match S.dO u f with
   | some (o,_)=>aA S (.dY b i (off+o)) []
   | none=> .fail
  | _=> .fail
 | .split b c=>match iH S t with
  | some u=>match S.dO u f with
   | some (o,_)=>match o with
    | 0=>aA S (.jY c) []
    | o+1=>aA S (.ptr b o) []
   | none=> .fail
  | _=> .fail
 | _=> .fail
def dD (i:Int) (n:Nat):List Gd:= [gd (0≤i),gd (i<(n:Int))]
def lS (v:V S.C):Option Int:=v.int?.map (·.2)
def Bt (b:Nat) (i:Int) (j:Nat):Nat→Rt S
 | 0=> .fail
 | n+1=> .ite (i=(j:Int)) (Int.instDecidableEq i (j:Int)) (aA S (.ptr b j) []) (Bt b i (j+1) n)
def AR (e0:Ty) (bx:Bx S.C) (i:Int):V S.C→Rt S
 | .d (.sl e) l=>if e=e0 then .gd (dD i l.length) (aA S (.cN e (fG S e l i)) []) else .fail
 | .aW _ e l=>if e=e0 then .gd (dD i l.length) (aA S (.cN e (fG S e l i)) []) else .fail
 | .aM b=>match bx b with
  | some (.arr e l) | some (.bw e l)=>if e=e0 then .gd (dD i l.length) (aA S (.dY b i 0) []) else .fail
  | _=> .fail
 | .bX b n=>match e0 with
  | .sl _=> .gd (dD i n) (Bt S b i 0 n)
  | _=> .fail
 | _=> .fail
def rowOf (e:Ty):List (V S.C)→Option (List (e.den S.C))
 | []=>some []
 | v::vs=>(cA S (fun _=>none) e v).bind fun x=>(rowOf e vs).bind fun r=>some (x::r)
def zd (n:Nat) (e:Ty) (u:Nat) (bx:Bx S.C) (j:Int):V S.C→Rt S
 | .ptr b off=>match bx b with
  | some (.cells vs) | some (.bG vs)=>match rowOf S e ((vs.drop off).take n) with
   | some l=> .gd (dD j l.length) (aA S (.cN e (fG S e l j)) [(b, .bG vs)])
   | none=> .fail
  | _=> .fail
 | .cN t x=>match dL S t (.st u) x with
  | some y=>match rowOf S e ((gO S (.st u) y).take n) with
   | some l=> .gd (dD j l.length) (aA S (.cN e (fG S e l j)) [])
   | none=> .fail
  | none=> .fail
 | _=> .fail
def sL (u:Nat):V S.C→Option (List (V S.C))
 | .agg u' vs=>cond (Nat.beq u u') (some vs) none
 | .d t x=>(dL S t (.st u) x).bind fun y=>some (gO S (.st u) y)
 | _=>none
def zf (n:Nat) (e:Ty) (u:Nat) (j:Int) (v:V S.C):Rt S:=
 match sL S u v with
 | some vs=>match rowOf S e (vs.take n) with
  | some l=> .gd (dD j l.length) (aA S (.d e (fG S e l j)) [])
  | none=> .fail
 | none=> .fail
def vS (w k:Nat) (j:Int) (vs:List (V S.C)):(i m:Nat)→Rt S
 | _,0=> .fail
 | i,m+1=> .ite (j=(i:Int)) inferInstance (aA S (.agg w ((vs.drop (i*k)).take k)) []) (vS w k j vs (i+1) m)
def bounds (n:Nat) (lo hi:Option (V S.C)):Option (List Gd×Int×Int):=
 match lo,hi with
 | none,none=>some ([],0,n)
 | some a,none=>(lS S a).bind fun l=>some ([gd (0≤l),gd (l≤(n:Int))],l,n)
 | none,some b=>(lS S b).bind fun h=>some ([gd (0≤h),gd (h≤(n:Int))],0,h)
 | some a,some b=>(lS S a).bind fun l=>(lS S b).bind fun h=>some ([gd (0≤h),gd (h≤(n:Int)),gd (0≤l),gd (l≤h)],l,h)
def cut {α:Type} (l:List α) (a b:Int):List α:=(l.take b.toNat).drop a.toNat
def cutFrom {α:Type} (l:List α) (a:Int):List α:=l.drop a.toNat
def hJ {α:Type} (l:List α) (a b:Int) (hi:Option (V S.C)):List α:=match hi with
 | none=>cutFrom l a
 | some _=>cut l a b
def mF (k:Nat) (a b:Int):Option (V S.C)→V S.C
 | none=> .pre k b
 | some _=> .win k a (b - a)
def kJ {α:Type} (l:List α) (n i m:Int):List α:=l.take n.toNat++(l.drop i.toNat).take m.toNat++l.drop (n+m).toNat
def tc {α:Type} (z:α) (l:List α) (i m:Int):List α:=l.take i.toNat++List.replicate m.toNat z++l.drop (i+m).toNat
def Co (vw:Bool) (T0:Ty) (bx:Bx S.C) (lo hi:Option (V S.C)):V S.C→Rt S
 | .d .str s=>if T0= .str then match bounds S (List.length s) lo hi with
  | some (gs,a,b)=> .gd gs (aA S (.d .str (hJ S s a b hi)) [])
  | none=> .fail else .fail
 | .d (.sl e) s=>if T0= .sl e then match bounds S (List.length s) lo hi with
  | some (gs,a,b)=> .gd gs (aA S (.d (.sl e) (hJ S s a b hi)) [])
  | none=> .fail else .fail
 | .aW k e s=>if T0= .sl e then match bounds S s.length lo hi with
  | some (gs,a,b)=> .gd gs (aA S (match hi with | none=> .aW k e (cutFrom s a) | some _=> .d (.sl e) (cut s a b)) [])
  | none=> .fail else .fail
 | .aM k=>match bx k with
  | some (.arr e s)=>if T0= .sl e then match bounds S s.length lo hi with
   | some (gs,a,b)=> .gd gs (cond vw (aA S (mF S k a b lo) []) (aA S (.d (.sl e) (hJ S s a b hi)) [(k, .bw e s)]))
   | none=> .fail else .fail
  | some (.bw e s)=>if T0= .sl e then match bounds S s.length lo hi with
   | some (gs,a,b)=> .gd gs (aA S (.d (.sl e) (hJ S s a b hi)) [])
   | none=> .fail else .fail
  | _=> .fail
 | .pre k n=>match bx k with
  | some (.arr e s)=>if T0= .sl e then match bounds S (match hi with | none=>n.toNat | some _=>s.length) lo hi with
   | some (gs,a,b)=> .gd gs (aA S (mF S k a b lo) [])
   | none=> .fail else .fail
  | _=> .fail
 | _=> .fail
def Cn (T0:Ty) (bx:Bx S.C) (lo hi mx:V S.C):V S.C→Rt S
 | .aM k=>match bx k with
  | some (.arr e s)=>if T0= .sl e then match lS S lo,lS S hi,lS S mx with
   | some a,some b,some c=> .gd [gd (0≤a),gd (a≤b),gd (b≤c),gd (c≤(s.length:Int))] (aA S .undef [])
   | _,_,_=> .fail else .fail
  | _=> .fail
 | _=> .fail
def zv (e:Ty) (bx:Bx S.C):V S.C→Rt S
 | .win b i m=>match bx b with
  | some (.arr e' l)=>match dL S (.sl e') (.sl e) l with
   | some l=>aA S (.gm []) [(b, .arr e (tc (Ty.zero S e) l i m))]
   | none=> .fail
  | _=> .fail
 | _=> .fail
def qg (B:Nat) (ai:Nat) (e:Ty) (bx:Bx S.C) (x:V S.C):V S.C→Rt S
 | .aW b e' l=>match bx b with
  | some .tail=>match dL S (.sl e') (.sl e) l with
   | some l=>match datum S bx (.sl e) x with
    | some y=> .gd [gd ((List.length l+List.length y)*ai≤limit)] (aA S (.aW (B) e (List.append l y)) [(b, .dead),(B, .tail)])
    | none=> .fail
   | none=> .fail
  | _=> .fail
 | .aM b=>match bx b with
  | some (.arr e' l)=>match dL S (.sl e') (.sl e) l with
   | some l=>match datum S bx (.sl e) x with
    | some y=> .gd [gd ((List.length l+List.length y)*ai≤limit)] (aA S (.aM (B)) [(b, .dead),(B, .arr e (List.append l y))])
    | none=> .fail
   | none=> .fail
  | _=> .fail
 | .pre b n=>match bx b,x with
  | some (.arr e' l), .win b' i m=>cond (Nat.beq b' b) (match dL S (.sl e') (.sl e) l with
   | some l=> .gd [gd (n≤i),gd (List.length l*ai≤limit)] (aA S (.pre B (n+m)) [(b, .dead),(B, .arr e (kJ l n i m))])
   | none=> .fail) .fail
  | _,_=> .fail
 | .b8=>match datum S bx (.sl e) x with
  | some y=> .gd [gd (List.length y*ai≤limit)] (aA S (.aM (B)) [(B, .arr e y)])
  | none=> .fail
 | _=> .fail
def A4 (T0:Ty) (bx:Bx S.C):V S.C→Rt S
 | .d .str s=>if T0= .str then aA S (.d (.int .i64) (List.length s:Int)) [] else .fail
 | .b8=>match T0 with
  | .sl _=>aA S (.d (.int .i64) (0:Int)) []
  | _=> .fail
 | .d (.sl e) l=>if T0= .sl e then aA S (.d (.int .i64) (List.length l:Int)) [] else .fail
 | .aW _ e l=>if T0= .sl e then aA S (.d (.int .i64) (l.length:Int)) [] else .fail
 | .aM b=>match bx b with
  | some (.arr e l) | some (.bw e l)=>if T0= .sl e then aA S (.d (.int .i64) (l.length:Int)) [] else .fail
  | _=> .fail
 | .pre b n=>match bx b with
  | some (.arr e _)=>if T0= .sl e then aA S (.d (.int .i64) n) [] else .fail
  | _=> .fail
 | _=> .fail
def xA (id:Nat):(rs:List K)→Ks S.C rs→(List (V S.C)×aH S.C×Nat→Rt S)→Rt S
 | [],_,κ=>κ ([],[],id)
 | k::rs,x,κ=>F_ S id k (Ks.head x) fun (v,us,id')=>xA id' rs (Ks.tail x) fun (vs,us',NN)=>κ (v::vs,us++us',NN)
def n5:List (V S.C)→V S.C
 | [v]=>v
 | vs=> .gm vs
def iG:(rs os:List K)→Ks S.C (rs++os)→Ks S.C rs×Ks S.C os
 | [],_,x=>((),x)
 | _::rs,os,x=>let (a,b):=iG rs os (Ks.tail x); (Ks.cons (Ks.head x) a,b)
def oneMore (n:Nat):CK→Nat
 | .data _=>n
 | _=>n+1
def lR:K→Nat
 | .val (.data _) | .ro _ | .fn _ _ | .nil | .err=>0
 | .val _=>1
 | .obj cs | .opt cs | .bX cs=>1+cs.foldl oneMore 0
 | .aV=>2
 | .bJ _ cs=>2+cs.foldl oneMore 0
def gx:List K→Nat
 | []=>0
 | k::ks=>lR k+gx ks
def xp (e:Entry S):Bool:= !((e.rs++outs e.ps).all (qz S))
def mV (B:Nat) (bx:Bx S.C) (f:Nat) (args:List (V S.C)):Rt S:=
 match T.es.findSome? fun e=>if e.f=f then (dx S T.fs bx e.ps args).bind fun a=>some (⟨e,a⟩:(e:Entry S)×(Ks S.C e.ps×aH S.C)) else none with
 | some ⟨e,a⟩=>cond (Nat.ble (gx e.rs+gx (outs e.ps)) 16&&(cP S e.ps args).all fun b=> !(Nat.ble B b&&Nat.blt b (B+16))) (.bind _ (e.sp a.1) fun r=>
  let p:=iG S e.rs (outs e.ps) r
  xA S B e.rs p.1 fun q=>aA S (n5 S q.1) (ig S (xp S e) a.2++(q.2.1++ec S q.2.2 e.ps args p.2))) .fail
 | none=> .fail
def pZ:(ts:List Ty)→an S.C ts→List (V S.C)
 | [],_=> []
 | t::ts,x=> .d t (an.head x)::pZ ts (an.tail x)
def iP (bx:Bx S.C):(ts:List Ty)→List (V S.C)→Option (an S.C ts×aH S.C)
 | [],[]=>some ((),[])
 | t::ts,v::vs=>(datum S bx t v).bind fun x=>(iP bx ts vs).bind fun b=>some (an.cons x b.1,cJ S bx v++b.2)
 | _,_=>none
def sP (B:Nat) (bx:Bx S.C) (args:List (V S.C)):V S.C→Rt S
 | .fv a r g=>match iP S bx a args with
  | some (x,us)=> .bind _ (g x) fun y=>aA S (n5 S (pZ S r y)) us
  | none=> .fail
 | .ey f []=>mV S T B bx f args
 | .ey f vs=>match T.fs.find? (·.f == f) with
  | some e=>match caps S bx e.c vs,iP S bx e.a args with
   | some y,some (x,us)=> .bind _ (e.sp x y) fun z=>aA S (n5 S (pZ S e.r z)) us
   | _,_=> .fail
  | none=> .fail
 | _=> .fail
def jP (bx:Bx S.C):List (V S.C)→aH S.C
 | []=> []
 | .ptr b _::vs=>(match bx b with
  | some (.cells ws)=> [(b, .bG ws)]
  | _=> [])++jP bx vs
 | _::vs=>jP bx vs
def rW (e:Ty):List (V S.C)→Option (List (List (e.den S.C)))
 | []=>some []
 | .aW _ e' l::vs=>(dL S (.sl e') (.sl e) l).bind fun x=>(rW e vs).bind fun r=>some (x::r)
 | _::_=>none
def uq (t:Nat):Bool:=match S.bt with
 | some u=>Nat.beq u.1 t
 | none=>false
def settle (e:Option Ty) (bx:Bx S.C) (b n:Nat):Rt S:=
 match bx b with
 | some (.cells vs)=>match vs with
  | .b8::_=>aA S (.bX b n) []
  | vs=>match e with
   | some (.sl e)=>match rW S e vs with
    | some l=>cond (Nat.beq n vs.length) (aA S (.d (.sl (.sl e)) l) [(b, .bG vs)]) .fail
    | none=> .fail
   | _=> .fail
 | _=> .fail
def xy (l c:Operand):Option Nat:=match l,c with
 | .const (.int .i64 (.ofNat n)), .const (.int .i64 (.ofNat m))=>cond (Nat.beq n m&&Nat.ble n 8) (some n) none
 | _,_=>none
def AS:Ty→Bool
 | .sl _=>true
 | _=>false
def bytesOf (l:List Int):List UInt8:=l.map fun n=>UInt8.ofNat n.toNat
def cj (ai:Nat→Nat) (B:Nat) (o:Op) (ty:Nat) (tm:Nat→V S.C) (bx:Bx S.C):Rt S:=
 let ev:=aN S tm
 match o with
 | .move x=>match ev x with
  | some .b8=>cond T.nl (aA S .b8 []) (match dR S ty with
   | some e=>aA S (.aW (B) e []) [(B, .tail)]
   | none=> .fail)
  | some v=>aA S v []
  | none=> .fail
 | .assign x=>match ev x with
  | some .b8=>cond T.nl (aA S .b8 []) (match dR S ty with
   | some e=>aA S (.aW (B) e []) [(B, .tail)]
   | none=> .fail)
  | some (.bX b n)=>settle S (dR S ty) bx b n
  | some v=>aA S v []
  | none=> .fail
 | .pick c a b=>match ev c with
  | some (.d .bool x)=>match (x:Bool) with
   | true=>match ev a with
    | some v=>aA S v []
    | none=> .fail
   | false=>match ev b with
    | some v=>aA S v []
    | none=> .fail
  | _=> .fail
 | .alloc t=>match S.ty t with
  | some u=>aA S (.ptr (B) 0) [(B, .cells (zeroCells S u))]
  | none=>cond (uq S t) (aA S (.ptr B 0) [(B+1, .buf []),(B, .aV (B+1))]) .fail
 | .box t x=>match S.ty t,ev x with
  | some u,some v=>cond (fits S (cellsOf S v) (Ty.sz S u)) (match S.sp t with
   | false=>aA S (.ptr (B) 0) [(B, .cells (cellsOf S v))]
   | true=>match cellsOf S v with
    | .ptr c 0::vs=>aA S (.split B c) [(B, .cells vs)]
    | _=> .fail) .fail
  | _,_=> .fail
 | .build t parts=>match S.ty t with
  | some (.st u)=>match parts.toList.mapM (fun p=>(ev p.2).map fun v=>(p.1,v)) with
   | some ps=>match tD S u (zeroCells S (.st u)) ps with
    | some vs=>aA S (.agg u vs) []
    | none=> .fail
   | none=> .fail
  | _=> .fail
 | .buildSlice t len parts=>match dR S t with
  | some e=>cond (T.vw&&Nat.beq len 0) (match parts.toList with
   | []=>aA S (.aW B e []) [(B, .tail)]
   | _=> .fail) (match parts.toList.mapM (fun p=>(ev p.2).map fun v=>(p.1,v)) with
   | some ps=>cond (Nat.ble (len*Ty.sz S e) 16777216) (match kC S bx e (List.replicate len (Ty.zero S e)) ps with
    | some (l,us)=>aA S (.aM (B)) (us++ [(B, .arr e l)])
    | none=> .fail) .fail
   | none=> .fail)
  | none=> .fail
 | .load t x=>match S.ty t,ev x with
  | some T,some v=>A9 S T bx v
  | _,_=> .fail
 | .store t x y=>match mT S t with
  | some (_,_,u)=>match ev x,ev y with
   | some p,some v=>Cs S u bx v p
   | _,_=> .fail
  | none=>match S.ty t,ev x,ev y with
   | some u,some p,some v=>vk S u bx v p
   | _,_,_=> .fail
 | .nilCheck x=>match ev x with
  | some (.ptr b o)=>aA S (.ptr b o) []
  | some (.cN t x)=>aA S (.cN t x) []
  | some (.dY b i p)=>aA S (.dY b i p) []
  | some (.split b c)=>aA S (.split b c) []
  | _=> .fail
 | .binOp op t x (.const .nilIface) _=>match ev x with
  | some (.err b)=>cond (S.nu t) (match op with
   | .eql=>aA S (.d .bool b) []
   | .neq=>aA S (.d .bool (Bool.not b)) []
   | _=> .fail) .fail
  | _=> .fail
 | .binOp op t x y _=>cond (S.eq t) (match ev x,ev y with
  | some a,some b=>structEq S op t a b
  | _,_=> .fail) (match ev x,ev y with
  | some a,some b=>match vU S op t a b with
   | some (gs,v)=> .gd gs (aA S v [])
   | none=> .fail
  | _,_=> .fail)
 | .unOp op _ x=>match op,ev x with
  | .not,some (.pr p i)=>aA S (.pr (¬ p) (@instDecidableNot p i)) []
  | .not,some (.d .bool b)=>aA S (.d .bool (Bool.not b)) []
  | .neg,some v=>match v.int? with
   | some (k,n)=>aA S (.d (.int k) (k.wrap (0 - n))) []
   | none=> .fail
  | _,_=> .fail
 | .convert s t x=>match S.ty s,S.ty t,ev x with
  | some _,some (.int k),some v=>match v.int? with
   | some (_,n)=>aA S (.d (.int k) (k.wrap n)) []
   | none=> .fail
  | some T,some .str,some v=>match v.nZ with
   | some s=>aA S (.d .str s) []
   | none=>match T,v with
    | .sl (.int .u8), .aM b=>match bx b with
     | some (.arr (.int .u8) (n::l))=>aA S (.d .str (bytesOf (n::l))) []
     | _=> .fail
    | _,_=> .fail
  | _,_,_=> .fail
 | .makeFunc fn first cs=>match fn,first.toList with
  | .func f,[]=>match cs.toList.mapM ev with
   | some vs=>cond (vs.all (bE S)) (aA S (.ey f vs) (jP S bx vs)) .fail
   | none=> .fail
  | _,_=> .fail
 | .makeSlice t l c=>match dR S t,ev l,ev c with
  | some e,some v,some w=>match cond (T.vw&&AS e&&Nat.ble (ai t) 64) (xy l c) none with
   | some n=>aA S (.bX B n) [(B, .cells (List.replicate n .b8))]
   | none=>match v.int?,w.int? with
    | some (.i64,n),some (.i64,m)=> .gd [gd (0≤n),gd (n≤m),gd (m*ai t≤limit)] (aA S (.aM (B)) [(B, .arr e (List.replicate n.toNat (Ty.zero S e)))])
    | _,_=> .fail
  | _,_,_=> .fail
 | .slice t x lo hi none=>match S.ty t,ev x,gS S tm lo,gS S tm hi with
  | some T0,some v,some l,some h=>Co S T.vw T0 bx l h v
  | _,_,_,_=> .fail
 | .slice t x (some lo) (some hi) (some mx)=>match S.ty t,ev x,ev lo,ev hi,ev mx with
  | some T0,some v,some l,some h,some m=>Cn S T0 bx l h m v
  | _,_,_,_,_=> .fail
 | .fieldAddr t x f=>match ev x with
  | some v=>zT S t f v
  | none=> .fail
 | .field t x f=>match iH S t,ev x with
  | some u,some (.d (.st u') y)=>cond (Nat.beq u u') (match S.dO u' f with
   | some (o,w)=>match partOf S (.st u') y o w with
    | some z=>aA S (.d w z) []
    | none=> .fail
   | none=> .fail) .fail
  | some u,some (.agg u' vs)=>cond (Nat.beq u u'&&vs.length == (S.F u).length) (match S.dO u f with
   | some (o, .st w)=>aA S (.agg w ((vs.drop o).take (S.F w).length)) []
   | some (o,_)=>match vs[o]? with
    | some v=>aA S v []
    | none=> .fail
   | none=> .fail) .fail
  | _,_=> .fail
 | .indexAddr t x i=>match mT S t with
  | some (n,e,u)=>match ev x,ev i with
   | some v,some w=>match w.int? with
    | some (_,j)=>zd S n e u bx j v
    | none=> .fail
   | _,_=> .fail
  | none=>match dR S t,ev x,ev i with
   | some e,some v,some w=>match w.int? with
    | some (_,n)=>AR S e bx n v
    | none=> .fail
   | _,_,_=> .fail
 | .index t x i=>match mT S t with
  | some (n,e,u)=>match ev x,ev i with
   | some v,some w=>match w.int? with
    | some (_,j)=>zf S n e u j v
    | none=> .fail
   | _,_=> .fail
  | none=>match vT S t with
   | some (n,m,u)=>match ev x,ev i with
    | some v,some w=>match sL S u v,w.int? with
     | some vs,some (_,j)=>cond (Nat.beq vs.length (n*(S.F m).length)) (vS S m (S.F m).length j vs 0 n) .fail
     | _,_=> .fail
    | _,_=> .fail
   | none=>match ev x,ev i with
    | some v,some w=>match S.ty t,v.nZ,w.int? with
     | some .str,some s,some (_,n)=> .gd (dD n s.length) (aA S (.d (.int .u8) (((s.getD n.toNat 0).toNat:Nat):Int)) [])
     | _,_,_=> .fail
    | _,_=> .fail
 | .extract x i=>match ev x with
  | some (.gm vs)=>match vs[i]? with
   | some v=>aA S v []
   | none=> .fail
  | _=> .fail
 | .call c=>match c.args.toList.mapM ev with
  | none=> .fail
  | some args=>match c.callee with
   | .builtin .len=>match args,(c.argTypes[0]?).bind S.ty with
    | [v],some T=>A4 S T bx v
    | _,_=> .fail
   | .builtin .append=>match args,c.argTypes.toList with
    | [s,x],[t,u]=>match dR S t,dR S u with
     | some e,some e'=>if e=e' then qg S B (ai t) e bx x s else .fail
     | _,_=> .fail
    | _,_=> .fail
   | .builtin .clear=>match args,c.argTypes.toList with
    | [v],[t]=>match dR S t with
     | some e=>zv S e bx v
     | none=> .fail
    | _,_=> .fail
   | .builtin b=>match args with
    | [v,w]=>match v.int?,w.int? with
     | some (k,x),some (k',y)=>if k=k' then match b with
      | .min=>aA S (.d (.int k) (Min.min (α:=Int) x y)) []
      | .max=>aA S (.d (.int k) (Max.max (α:=Int) x y)) []
      | _=> .fail else .fail
     | _,_=> .fail
    | _=> .fail
   | .value f=>match ev f with
    | some v=>sP S T B bx args v
    | none=> .fail
   | _=> .fail
 | _=> .fail
def lU (B:Nat):List Nat:=(List.range 16).map (B+ ·)
def qT (tm:Nat→V S.C) (x:Operand):List Nat:=match aN S tm x with
 | some v=>az S v
 | none=> []
def deep (bx:Bx S.C) (ids:List Nat):List Nat:=ids++ids.flatMap fun i=>match bx i with
 | some (.cells vs) | some (.bG vs)=>vs.flatMap (ax S)
 | some (.aV j)=> [j]
 | _=> []
def aD (vw:Bool) (B:Nat) (o:Op) (tm:Nat→V S.C) (bx:Bx S.C):List Nat×List Nat:=
 let ids:=o.operands.toList.flatMap (qT S tm)
 match o with
 | .load .. | .convert .. =>(ids,[])
 | .indexAddr t _ _=>(ids,match S.ar t with | some _=>ids | none=> [])
 | .call { callee:= .builtin .len, .. } =>(ids,[])
 | .slice .. =>(ids,cond vw [] (ids++lU B))
 | .call { callee:= .value _, .. } =>let ids:=deep S bx ids; (ids++lU B,ids++lU B)
 | .move x=>match aN S tm x with
  | some .b8=>(lU B,lU B)
  | _=>([],[])
 | .assign x=>match aN S tm x with
  | some .b8=>(lU B,lU B)
  | some (.bX b _)=>([b],[b])
  | _=>([],[])
 | .pick .. | .field .. | .fieldAddr .. | .extract .. | .unOp .. | .index .. | .binOp .. | .nilCheck _=>([],[])
 | _=>(ids++lU B,ids++lU B)
end
end Go.Sy
namespace Go.Sy
inductive AC where
 | skip
 | rB (id:Nat) (ops:Array Oper) (draw:Bool)
 | seq (a b:AC)
 | cut (n:Nat) (a b:AC)
 | cond (c:Operand) (a b:AC)
 | block (id:Nat) (a:AC)
 | loop (n:Nat) (a:AC)
 | exit (id:Nat)
 | ret
 | scope (a:AC)
 | bad (c:Code)
 deriving Inhabited
def AC.code:AC→Code
 | .skip=> .skip
 | .rB id ops draw=> .region id ops draw
 | .seq a b | .cut _ a b=> .seq a.code b.code
 | .cond c a b=> .cond c a.code b.code
 | .block id a=> .block id a.code
 | .loop _ a=> .loop a.code
 | .exit id=> .exit id
 | .ret=> .ret
 | .scope a=> .scope a.code
 | .bad c=>c
def AC.of (cT:List Nat):Code→(ls ss:Nat)→AC×Nat×Nat
 | .skip,l,s=>(.skip,l,s)
 | .region id ops draw,l,s=>(.rB id ops draw,l,s)
 | .seq a b,l,s=>
  let (x,l1,s1):=AC.of cT a l (s+1)
  let (y,l2,s2):=AC.of cT b l1 s1
  (match cT.idxOf? s with | some n=> .cut (2*n+1) x y | none=> .seq x y,l2,s2)
 | .cond c a b,l,s=>
  let (x,l1,s1):=AC.of cT a l s
  let (y,l2,s2):=AC.of cT b l1 s1
  (.cond c x y,l2,s2)
 | .block id a,l,s=>let (x,l1,s1):=AC.of cT a l s; (.block id x,l1,s1)
 | .loop a,l,s=>let (x,l1,s1):=AC.of cT a (l+1) s; (.loop (2*l) x,l1,s1)
 | .exit id,l,s=>(.exit id,l,s)
 | .ret,l,s=>(.ret,l,s)
 | .scope a,l,s=>let (x,l1,s1):=AC.of cT a l s; (.scope x,l1,s1)
 | c,l,s=>(.bad c,l,s)
theorem AC.K0 (cT:List Nat) (c:Code): ∀ l s,(AC.of cT c l s).1.code=c:=by
 induction c with
 | seq a b AN AO=>
  intro l s
  simp only [AC.of]
  split <;> simp [AC.code,AN,AO]
 | cond c a b AN AO=>intro l s; simp [AC.of,AC.code,AN,AO]
 | block id a ih=>intro l s; simp [AC.of,AC.code,ih]
 | loop a ih=>intro l s; simp [AC.of,AC.code,ih]
 | scope a ih=>intro l s; simp [AC.of,AC.code,ih]
 | _=>intro l s; simp [AC.of,AC.code]
section
variable (S:aP)
variable (T:fD S) (ai:Nat→Nat)
def uu (a b:List Nat):Bool:=a.any fun x=>b.contains x
def meets (x y:List Nat×List Nat):Bool:=uu x.2 y.1||uu x.2 y.2||uu y.2 x.1
def lB (ops:Array Oper) (dz:Array Nat):List (Nat×Option (List Nat×List Nat))→Bool
 | []=>true
 | (j,fj)::r=>lB ops dz r&&r.all fun (i,fi)=>
  (dz.getD j 0).testBit i||(Oper.apart ops (ops.getD i default) (ops.getD j default)&&
   match fi,fj with
   | some a,some b=> !meets a b
   | _,_=>true)
def vt (ops:Array Oper):Bool:=ops.toList.zipIdx.all fun p=>p.1.after.toList.all fun e=> !Region.binds .any e||Nat.blt e.on p.2
def restrict (bx:Bx S.C) (ids:List Nat):Bx S.C:=fun i=>cond (ids.contains i) (bx i) none
def kF (bx:Bx S.C) (B:Nat) (fp:List Nat) (us:aH S.C):Bool:=
 us.all fun u=>fp.contains u.1&&(!(Nat.ble B u.1&&Nat.blt u.1 (B+16))||(bx u.1).isNone)
def Cr {R:Type} (B:Nat) (dst:Option Nat) (o:Op) (ty:Nat) (env:Env S.C) (k:Env S.C→Option R):Option R:=
 let fp:=aD S T.vw B o env.tm env.bx
 (cj S T ai B o ty env.tm (restrict S env.bx fp.1)).run fun p=>
  cond (kF S env.bx B fp.2 p.2) (k (env.apply dst p.1 p.2)) none
def jB (cv n:Nat):Option Nat→Nat
 | _=>16*(100000+1000*cv+n)
def ur (ops:Array Oper) (n:Nat):Bool:=ops.any fun o=>match o.guard with
 | some (j,_)=>Nat.beq j n
 | none=>false
def splitK {R:Type} (g:Bool) (dst:Option Nat) (env:Env S.C) (k:Env S.C→Option R):Option R:=
 match g with
 | false=>k env
 | true=>match dst with
  | none=>none
  | some t=>match env.tm t with
   | .d .bool x=>match (x:Bool) with
    | true=>k { env with tm:=aq env.tm t (.d .bool true) }
    | false=>k { env with tm:=aq env.tm t (.d .bool false) }
   | .pr _ i=> @ite _ _ i (k { env with tm:=aq env.tm t (.d .bool true) }) (k { env with tm:=aq env.tm t (.d .bool false) })
   | _=>none
def k_ (ops:Array Oper) (o:Oper) (tm:Nat→V S.C):Option Bool:=
 match o.guard with
 | none=>some true
 | some (j,want)=>match (ops[j]?).bind (·.dst) with
  | none=>none
  | some t=>match tm t with
   | .d .bool x=>some (match (x:Bool) with | true=>want | false=> !want)
   | .skip=>some false
   | _=>none
noncomputable def agree {R:Type} (a b:Option R):Option R:=open Classical in if a=b then a else none
def uH (o:Op) (tm:Nat→V S.C):Option (Nat×Bool):=match o with
 | .binOp op t x (.const (.slice none 0 0)) _=>match dR S t with
  | some _=>match aN S tm x with
   | some (.d (.sl _) l)=>match op with
    | .eql=>some (List.length l,false)
    | .neq=>some (List.length l,true)
    | _=>none
   | _=>none
  | none=>none
 | _=>none
def xd:Op→Bool
 | .defer _=>true
 | _=>false
def Cj (tm:Nat→V S.C) (x y:Operand):Bool:=match x,y with
 | .const (.int k x), .const (.int k' y)=>decide (k=k')&&decide (x=y)
 | .tmp a, .tmp b=>match tm a,tm b with
  | .ptr b o, .ptr b' o'=>Nat.beq b b'&&Nat.beq o o'
  | _,_=>false
 | _,_=>false
def yA (tm:Nat→V S.C):List Operand→List Operand→Bool
 | [],[]=>true
 | a::as,b::bs=>Cj S tm a b&&yA tm as bs
 | _,_=>false
def wG (tm:Nat→V S.C) (dc:Option (Nat×List Operand)):Op→Bool
 | .defer ⟨.value (.func f),args,_⟩=>match dc with
  | some (g,ops)=>Nat.beq f g&&yA S tm args.toList ops
  | none=>false
 | _=>false
noncomputable def gV {R:Type} (cv:Nat) (ops:Array Oper) (draw:Bool) (dz:Array Nat) (k:Env S.C→Option R):List Oper→Nat→List (Nat×Option (List Nat×List Nat))→Env S.C→Option R
 | [],_,cG,env=>cond (!draw||(lB ops dz cG&&vt ops)) (k env) none
 | o::r,n,cG,env=>match k_ S ops o env.tm with
  | none=>none
  | some true=>match xd o.op with
   | true=>cond (draw||env.df|| !wG S env.tm T.dc o.op) none (gV cv ops draw dz k r (n+1) ((n,none)::cG) { env.apply o.dst .skip [] with df:=true })
   | false=>match uH S o.op env.tm with
   | some (m,v)=>cond draw none (@ite _ (m=0) (instDecidableEqNat m 0) (agree (splitK S (ur ops n) o.dst (env.apply o.dst (.d .bool (Bool.not v)) []) fun e=>
    gV cv ops draw dz k r (n+1) ((n,some ([],[]))::cG) e) (splitK S (ur ops n) o.dst (env.apply o.dst (.d .bool v) []) fun e=>
    gV cv ops draw dz k r (n+1) ((n,some ([],[]))::cG) e)) (splitK S (ur ops n) o.dst (env.apply o.dst (.d .bool v) []) fun e=>
    gV cv ops draw dz k r (n+1) ((n,some ([],[]))::cG) e))
   | none=>Cr S T ai (jB cv n o.dst) o.dst o.op o.type env fun e=>splitK S (ur ops n) o.dst e fun e=>
    gV cv ops draw dz k r (n+1) ((n,some (aD S T.vw (jB cv n o.dst) o.op env.tm env.bx))::cG) e
  | some false=>gV cv ops draw dz k r (n+1) ((n,none)::cG) (env.apply o.dst .skip [])
inductive Ex where
 | normal | exit (id:Nat) | ret
 deriving Inhabited
abbrev Kt (R:Type):=Ex→Env S.C→Option R
noncomputable def exec {R:Type} (L:Nat→Env S.C→Option R):AC→Env S.C→Kt S R→Option R
 | .skip,env,k=>k .normal env
 | .rB id ops draw,env,k=>gV S T ai id ops draw (Region.before ops) (k .normal) ops.toList 0 [] env
 | .seq a b,env,k=>exec L a env fun e env'=>match e with
  | .normal=>exec L b env' k
  | e=>k e env'
 | .cut n a _,env,k=>exec L a env fun e env'=>match e with
  | .normal=>L n env'
  | e=>k e env'
 | .cond c a b,env,k=>match aN S env.tm c with
  | some (.d .bool x)=>match (x:Bool) with
   | true=>exec L a env k
   | false=>exec L b env k
  | some (.pr _ i)=> @ite _ _ i (exec L a env k) (exec L b env k)
  | _=>none
 | .block id a,env,k=>exec L a env fun e env'=>match e with
  | .exit j=>cond (Nat.beq j id) (k .normal env') (k (.exit j) env')
  | e=>k e env'
 | .loop n _,env,_=>L n env
 | .exit id,env,k=>k (.exit id) env
 | .ret,env,k=>k .ret env
 | .scope a,env,k=>exec L a env k
 | .bad _,_,_=>none
def uJ (sl:List Nat) (ks:List K) (env:Env S.C):Option (Ks S.C ks):=
 (dx S T.fs env.bx ks (sl.map env.tm)).bind fun a=>some a.1
def dS (id:Nat):(k:K)→k.den S.C→V S.C×aH S.C
 | .val (.data t),x=>(.d t x,[])
 | .val (.aW e),x=>(.aW id e x,[(id, .tail)])
 | .val (.aM e),x=>(.aM id,[(id, .arr e x)])
 | .obj cs,x=>let a:=bh S (id+1) cs x; (.ptr id 0,(id, .cells a.1)::a.2.1)
 | .ro t,x=>(.cN t x,[])
 | .fn a r,g=>(.fv a r g,[])
 | .nil,_=>(.nil,[])
 | .err,x=>(.err x,[])
 | .aV,x=>(.ptr id 0,[(id, .aV (id+1)),(id+1, .buf x)])
 | .opt _,_=>(.undef,[])
 | .bJ t cs,x=>let a0:=bh S (id+1) [.data t] x.1; let a:=bh S (id+2) cs x.2; (.split (id+1) id,(id, .cells a0.1)::(id+1, .cells a.1)::a.2.1)
 | .bX cs,x=>let a:=bh S (id+1) cs x; (.bX id (CK.bV S cs),(id, .cells a.1)::a.2.1)
def ew:(ks:List K)→(sl:List Nat)→Ks S.C ks→Env S.C→Env S.C
 | [],_,_,env=>env
 | _::_,[],_,env=>env
 | k::r,t::sl,x,env=>
  let a:=dS S (16*t) k (Ks.head x)
  ew r sl (Ks.tail x) (env.apply (some t) a.1 a.2)
def Env.none (df:Bool):Env S.C:=⟨fun _=> .undef,fun _=>Option.none,df⟩
structure fC (R:Type) where
 sl:List Nat
 ks:List K
 fn:Ks S.C ks→Option R
 df:Bool
def Hl:Bool→Bool→Bool
 | true,b=>b
 | false,true=>false
 | false,false=>true
noncomputable def xj {R:Type} (env:Env S.C):List (fC S R)→Option R
 | []=>none
 | l::ls=>match cond (Hl l.df env.df) (uJ S T l.sl l.ks env) none with
  | some x=>l.fn x
  | none=>xj env ls
noncomputable def fJ {R:Type} (ls:Nat→List (fC S R)) (n:Nat) (env:Env S.C):Option R:=xj S T env (ls n)
def js:List Nat→List K→Bool
 | [],[]=>true
 | t::sl,k::ks=>Nat.ble (lR k) 16&& !sl.contains t&&(match k with | .opt _=>false | _=>true)&&js sl ks
 | _,_=>false
noncomputable def VC {R:Type} (l0 l1:Nat→List (fC S R)):AC→Kt S R→List Prop
 | .seq a b,k=>VC l0 l1 a (fun e env'=>match e with
  | .normal=>exec S T ai (fJ S T l0) b env' k
  | e=>k e env')++VC l0 l1 b k
 | .cut n a b,k=>VC l0 l1 a (fun e env'=>match e with
  | .normal=>fJ S T l0 n env'
  | e=>k e env')++VC l0 l1 b k++(l1 n).map fun l=> ∀ x,l.fn x=exec S T ai (fJ S T l0) b (ew S l.ks l.sl x (Env.none S l.df)) k
 | .cond _ a b,k=>VC l0 l1 a k++VC l0 l1 b k
 | .block id a,k=>VC l0 l1 a fun e env'=>match e with
  | .exit j=>cond (Nat.beq j id) (k .normal env') (k (.exit j) env')
  | e=>k e env'
 | .loop n a,k=>VC l0 l1 a (fun e env'=>match e with
  | .normal=>fJ S T l0 n env'
  | e=>k e env')++(l1 n).map fun l=> ∀ x,l.fn x=exec S T ai (fJ S T l0) a (ew S l.ks l.sl x (Env.none S l.df)) (fun e env'=>match e with
   | .normal=>fJ S T l0 n env'
   | e=>k e env')
 | .scope a,k=>VC l0 l1 a k
 | _,_=> []
def tG (ps:List K) (x:Ks S.C ps):Env S.C:=ew S ps (List.range' 0 ps.length) x (Env.none S false)
def kR (env:Env S.C):ResultVar→V S.C
 | .tmp t=>env.tm t
 | .cell a t=>match S.ty t,env.tm a with
  | some (.st u), .ptr b 0=>match env.bx b with
   | some (.cells vs)=>cond (vs.length == (S.F u).length) (.agg u vs) .undef
   | _=> .undef
  | some _, .ptr b 0=>match env.bx b with
   | some (.cells [v])=>v
   | _=> .undef
  | _,_=> .undef
def gh:List K→Nat→List Nat
 | [],_=> []
 | .obj _::r,i=>i::gh r (i+1)
 | .aV::r,i=>i::gh r (i+1)
 | .bJ _ _::r,i=>i::gh r (i+1)
 | _::r,i=>gh r (i+1)
def jL:Nat:=1440000
def ji (fn:Func) (ps rs:List K):Kt S (Ks S.C (rs++outs ps)):=fun e env=>match e with
 | .exit _=>none
 | _=>match env.df with
  | false=>(dx S T.fs env.bx (rs++outs ps) (fn.results.toList.map (kR S env)++(gh ps 0).map env.tm)).map (·.1)
  | true=>match T.dc with
   | some (f,ops)=>match ops.mapM (aN S env.tm) with
    | some vs=>(mV S ⟨T.de,T.fs,T.nl,T.vw,none,[]⟩ jL env.bx f vs).run fun p=>cond (p.2.all fun u=> !(Nat.ble jL u.1&&Nat.blt u.1 (jL+16))||(env.bx u.1).isNone)
     ((dx S T.fs (av env.bx p.2) (rs++outs ps) (fn.results.toList.map (kR S (env.apply none .undef p.2))++(gh ps 0).map env.tm)).map (·.1)) none
    | none=>none
   | none=>none
end
end Go.Sy
namespace Go.Sy
abbrev St:=Nat→Nat→Prop
def At (w:World) (s:St) (b o:Nat) (cs:List Value):Prop:=
 ∀ j v,cs[j]? =some v→w.cell? ⟨b,o+j,none⟩=some v∧s b (o+j)
def bI (w:World) (s:St) (w':World) (s':St):Prop:=
 ∀ b o,s b o→s' b o∧w'.cell? ⟨b,o,none⟩=w.cell? ⟨b,o,none⟩
theorem bI.refl (w:World) (s:St):bI w s w s:=fun _ _ h=>⟨h,rfl⟩
theorem bI.trans {w w' w'':World} {s s' s'':St} (h:bI w s w' s') (h':bI w' s' w'' s''):bI w s w'' s'':=
 fun b o hs=>⟨(h' b o (h b o hs).1).1,((h' b o (h b o hs).1).2).trans (h b o hs).2⟩
theorem At.later {w w':World} {s s':St} {b o:Nat} {cs:List Value} (h:At w s b o cs) (hl:bI w s w' s'):At w' s' b o cs:=
 fun j v hj=>⟨(hl _ _ (h j v hj).2).2.trans (h j v hj).1,(hl _ _ (h j v hj).2).1⟩
theorem At.left {w:World} {s:St} {b o:Nat} {cs ds:List Value} (h:At w s b o (cs++ds)):At w s b o cs:=fun j v hj=>
 h j v (by rw [List.getElem?_append_left (List.getElem?_eq_some_iff.1 hj).1]; exact hj)
theorem At.right {w:World} {s:St} {b o:Nat} {cs ds:List Value} (h:At w s b o (cs++ds)):At w s b (o+cs.length) ds:=fun j v hj=>by
 have :=h (cs.length+j) v (by rw [List.getElem?_append_right (by omega)]; simpa using hj)
 rw [← Nat.add_assoc] at this
 exact this
theorem At.append {w:World} {s:St} {b o:Nat} {cs ds:List Value} (h:At w s b o cs) (h':At w s b (o+cs.length) ds):At w s b o (cs++ds):=fun j v hj=>by
 by_cases hlt:j<cs.length
 · exact h j v (by rw [List.getElem?_append_left hlt] at hj; exact hj)
 · have :=h' (j - cs.length) v (by rw [List.getElem?_append_right (by omega)] at hj; exact hj)
   rw [show o+cs.length+(j - cs.length)=o+j from by omega] at this
   exact this
def isAgg:Value→Bool
 | .agg _=>true
 | _=>false
def bg:Ty→Bool
 | .st _=>true
 | _=>false
def fS (M:St):Prop:= ∀ b o, ¬ M b o
def fT (M A B:St):Prop:=(∀ b o,M b o↔A b o∨B b o)∧ ∀ b o,A b o→B b o→False
section
variable (P:Program) (S:aP)
def bn (R:(t:Ty)→t.den S.C→List Value→Prop):(ts:List Ty)→an S.C ts→List Value→Prop
 | [],_,cs=>cs= []
 | t::ts,x,cs=> ∃ c r,cs=c::r∧R t (an.head x) [c]∧bn R ts (an.tail x) r
def sA (R:(t:Ty)→t.den S.C→List Value→Prop) (w:World) (s:St) (e:Ty) (b o:Nat) (l:List (e.den S.C)):Prop:=
 ∀ (i:Nat) (x:e.den S.C),l[i]? =some x→ ∃ ds,ds.length=Ty.sz S e∧At w s b (o+i*Ty.sz S e) ds∧R e x ds
def aB (w:World) (s:St):Nat→(t:Ty)→t.den S.C→List Value→Prop
 | 0,_,_,_=>False
 | n+1,t,x,cs=>match t,x with
  | .int k,x=>cs= [.int k x]
  | .bool,x=>cs= [.bool x]
  | .str,x=>cs= [.string ⟨List.toArray x⟩]
  | .pt,_=>cs= [.pointer none]
  | .sl e,l=> ∃ a cap,cs= [.slice a (List.length l) cap]∧List.length l≤cap∧
   (List.length l=0∨ ∃ b o,a=some ⟨b,o,none⟩∧sA S (fun t x cs=>aB w s n t x cs) w s e b o l)
  | .st u,x=>bn S (fun t x cs=>aB w s n t x cs) (S.F u) (S.ex u x) cs
def bU (w:World) (s:St) (t:Ty) (x:t.den S.C) (v:Value):Prop:=isAgg v=bg t∧ ∃ n,aB S w s n t x v.cells.toList
theorem bn.mono {R R':(t:Ty)→t.den S.C→List Value→Prop} (h: ∀ t x cs,R t x cs→R' t x cs):
 ∀ (ts:List Ty) (x:an S.C ts) (cs:List Value),bn S R ts x cs→bn S R' ts x cs
 | [],_,_,hr=>hr
 | _::ts,_,_,⟨c,r,hc,h1,h2⟩=>⟨c,r,hc,h _ _ _ h1,bn.mono h ts _ _ h2⟩
theorem aB.mono {w w':World} {s s':St} (hl:bI w s w' s'): ∀ {n m:Nat},n≤m→ ∀ {t:Ty} {x:t.den S.C} {cs:List Value},aB S w s n t x cs→aB S w' s' m t x cs
 | 0,_,_,_,_,_,h=>h.elim
 | n+1,0,hm,_,_,_,_=>by omega
 | n+1,m+1,hm,t,x,cs,h=>by
  have ih:=fun {t:Ty} {x:t.den S.C} {cs:List Value} =>aB.mono hl (n:=n) (m:=m) (by omega) (t:=t) (x:=x) (cs:=cs)
  cases t with
  | int k=>exact h
  | bool=>exact h
  | str=>exact h
  | pt=>exact h
  | sl e=>
   obtain ⟨a,cap,hcs,hc,h⟩:=h
   refine ⟨a,cap,hcs,hc,h.imp id ?_⟩
   rintro ⟨b,o,ha,he⟩
   refine ⟨b,o,ha,fun i x hi=> ?_⟩
   obtain ⟨ds,hd,cF,hr⟩:=he i x hi
   exact ⟨ds,hd,cF.later hl,ih hr⟩
  | st u=>exact bn.mono S (fun t x cs h=>ih h) _ _ _ h
theorem bU.mono {w w':World} {s s':St} (hl:bI w s w' s') {t:Ty} {x:t.den S.C} {v:Value} (h:bU S w s t x v):bU S w' s' t x v:=
 ⟨h.1,h.2.imp fun _ hn=>aB.mono S hl (Nat.le_refl _) hn⟩
theorem aB.up {w:World} {s:St} {n m:Nat} (hm:n≤m) {t:Ty} {x:t.den S.C} {cs:List Value} (h:aB S w s n t x cs):aB S w s m t x cs:=
 aB.mono S (bI.refl w s) hm h
theorem bn.length {R:(t:Ty)→t.den S.C→List Value→Prop} : ∀ (ts:List Ty) (x:an S.C ts) (cs:List Value),bn S R ts x cs→cs.length=ts.length
 | [],_,_,h=>by cases h; rfl
 | _::ts,_,_,⟨c,r,hc,_,h2⟩=>by subst hc; simp [bn.length ts _ _ h2]
theorem aB.length {w:World} {s:St} {n:Nat} {t:Ty} {x:t.den S.C} {cs:List Value} (h:aB S w s n t x cs):cs.length=Ty.sz S t:=by
 cases n with
 | zero=>exact h.elim
 | succ n=>cases t with
  | int k=>cases h; rfl
  | bool=>cases h; rfl
  | str=>cases h; rfl
  | pt=>cases h; rfl
  | sl e=>obtain ⟨a,cap,rfl,_⟩:=h; rfl
  | st u=>exact bn.length S _ _ _ h
theorem bn.flat {w w':World} {s s':St} {n m:Nat} : ∀ (ts:List Ty) (x:an S.C ts) (cs:List Value),(ts.all fun | .sl _=>false | .st _=>false | _=>true)=true→
 bn S (fun t x cs=>aB S w s n t x cs) ts x cs→bn S (fun t x cs=>aB S w' s' (m+1) t x cs) ts x cs
 | [],_,_,_,h=>h
 | t::ts,x,cs,hf,⟨c,r,hc,h1,h2⟩=>by
  simp only [List.all_cons,Bool.and_eq_true] at hf
  refine ⟨c,r,hc, ?_,bn.flat ts _ _ hf.2 h2⟩
  cases n with
  | zero=>exact h1.elim
  | succ n=>cases t with
   | int k=>exact h1
   | bool=>exact h1
   | str=>exact h1
   | pt=>exact h1
   | sl e=>simp at hf
   | st u=>simp at hf
end
end Go.Sy
namespace Go.Sy
structure aX (w w':World) (T:St):Prop where
 os:w'.os=w.os
 tape:w'.tape=w.tape
 output:w'.output=w.output
 size:w.heap.size≤w'.heap.size
 same: ∀ b,b<w.heap.size→(∀ o, ¬ T b o)→w'.heap[b]? =w.heap[b]?
 cell: ∀ b o,b<w.heap.size→ ¬ T b o→w'.cell? ⟨b,o,none⟩=w.cell? ⟨b,o,none⟩
 some: ∀ b o,b<w.heap.size→(w.cell? ⟨b,o,none⟩).isSome=true→(w'.cell? ⟨b,o,none⟩).isSome=true
 wQ: ∀ b o,b<w.heap.size→ ¬ T b o→w'.frozen? ⟨b,o,none⟩=w.frozen? ⟨b,o,none⟩
theorem aX.refl (w:World) (T:St):aX w w T:=⟨rfl,rfl,rfl,Nat.le_refl _,fun _ _ _=>rfl,fun _ _ _ _=>rfl,fun _ _ _ h=>h,fun _ _ _ _=>rfl⟩
theorem aX.mono {w w':World} {T T':St} (h:aX w w' T) (ht: ∀ b o,T b o→T' b o):aX w w' T':=
 ⟨h.os,h.tape,h.output,h.size,fun b hb hn=>h.same b hb fun o ho=>hn o (ht b o ho),fun b o hb hn=>h.cell b o hb fun ho=>hn (ht b o ho),h.some,fun b o hb hn=>h.wQ b o hb fun ho=>hn (ht b o ho)⟩
theorem aX.trans {w w' w'':World} {T T' yU:St} (h:aX w w' T) (h':aX w' w'' T') (h1: ∀ b o,T b o→yU b o) (h2: ∀ b o,b<w.heap.size→T' b o→yU b o):aX w w'' yU:=
 ⟨h'.os.trans h.os,h'.tape.trans h.tape,h'.output.trans h.output,Nat.le_trans h.size h'.size,
  fun b hb hn=>(h'.same b (Nat.lt_of_lt_of_le hb h.size) fun o ho=>hn o (h2 b o hb ho)).trans (h.same b hb fun o ho=>hn o (h1 b o ho)),
  fun b o hb hn=>(h'.cell b o (Nat.lt_of_lt_of_le hb h.size) fun ho=>hn (h2 b o hb ho)).trans (h.cell b o hb fun ho=>hn (h1 b o ho)),
  fun b o hb hs=>h'.some b o (Nat.lt_of_lt_of_le hb h.size) (h.some b o hb hs),
  fun b o hb hn=>(h'.wQ b o (Nat.lt_of_lt_of_le hb h.size) fun ho=>hn (h2 b o hb ho)).trans (h.wQ b o hb fun ho=>hn (h1 b o ho))⟩
theorem cell_of_heap {w w':World} {b o:Nat} (h:w'.heap[b]? =w.heap[b]?):w'.cell? ⟨b,o,none⟩=w.cell? ⟨b,o,none⟩:=by
 simp [World.cell?,h]
theorem wR {w w':World} {b o:Nat} (h:w'.heap[b]? =w.heap[b]?):w'.frozen? ⟨b,o,none⟩=w.frozen? ⟨b,o,none⟩:=by
 simp [World.frozen?,h]
theorem aX.drew (w:World) (T:St):aX w w.drew T:=⟨rfl,rfl,rfl,Nat.le_refl _,fun _ _ _=>rfl,fun _ _ _ _=>rfl,fun _ _ _ h=>h,fun _ _ _ _=>rfl⟩
theorem heap_alloc (w:World) (o:Obj) (b:Nat) (h:b<w.heap.size):(w.alloc o).heap[b]? =w.heap[b]? :=RowKit.Below.heap_alloc w o b h
theorem aX.alloc (w:World) (o:Obj) (T:St):aX w (w.alloc o) T:=
 ⟨rfl,rfl,rfl,by simp,fun b hb _=>heap_alloc w o b hb,fun b o' hb _=>cell_of_heap (heap_alloc w o b hb),fun b o' hb h=>by rw [cell_of_heap (heap_alloc w o b hb)]; exact h,fun b o' hb _=>wR (heap_alloc w o b hb)⟩
theorem os_setCells (b:Nat): ∀ (vs:List Value) (o:Nat) (w:World),(w.setCells b o vs).os=w.os∧(w.setCells b o vs).tape=w.tape∧(w.setCells b o vs).output=w.output∧(w.setCells b o vs).heap.size=w.heap.size
 | [],_,_=>⟨rfl,rfl,rfl,rfl⟩
 | v::r,o,w=>by
  obtain ⟨h1,h2,h3,h4⟩:=os_setCells b r (o+1) (w.setCell ⟨b,o,none⟩ v)
  exact ⟨h1,h2,h3,h4.trans (by simp)⟩
theorem E9 (b:Nat): ∀ (vs:List Value) (o:Nat) (w:World) (k:Nat),k≠b→(w.setCells b o vs).heap[k]? =w.heap[k]?
 | [],_,_,_,_=>rfl
 | v::r,o,w,k,hk=>(E9 b r (o+1) (w.setCell ⟨b,o,none⟩ v) k hk).trans (RowKit.Below.heap_setCell w _ v k hk)
theorem Ro (w:World) (b o:Nat):w.setCells b o []=w:=rfl
theorem aX.setCells (w:World) (b o:Nat) (vs:List Value) (ht:w.there b o vs.length):aX w (w.setCells b o vs) (fun b' o'=>b'=b∧o≤o'∧o'<o+vs.length):=by
 obtain ⟨h1,h2,h3,h4⟩:=os_setCells b vs o w
 refine ⟨h1,h2,h3,by omega,fun k hk hn=> ?_,fun k o' hk hn=> ?_,fun k o' hk hs=> ?_,fun k o' hk _=> ?_⟩
 · by_cases e:k=b
   · subst e
     cases vs with
     | nil=>rfl
     | cons v r=>exact absurd ⟨rfl,Nat.le_refl _,by simp⟩ (hn o)
   · exact E9 b vs o w k e
 · exact World.cell?_setCells_out b vs o w ⟨k,o',none⟩ fun hb _=>by
    have hb:k=b:=hb
    by_cases e:o≤o'∧o'<o+vs.length
    · exact absurd ⟨hb,e⟩ hn
    · show o'<o∨o+vs.length≤o'
      omega
 · by_cases e:k=b∧o≤o'∧o'<o+vs.length
   · obtain ⟨rfl,e1,e2⟩:=e
     have :=World.cell?_setCells_in k vs o w (fun i hi=>(ht i hi).1) (o' - o) (by omega)
     rw [show o+(o' - o)=o' from by omega] at this
     rw [this]; rfl
   · rw [World.cell?_setCells_out b vs o w ⟨k,o',none⟩ fun hb _=>by
      have hb:k=b:=hb
      show o'<o∨o+vs.length≤o'
      omega]
     exact hs
 · exact World.frozen?_setCells ..
structure Loc where
 b:Nat
 o:Nat
 n:Nat
 cap:Nat
 nil:Bool
def Loc.aD (L:Loc):St:=fun b o=>b=L.b∧L.o≤o∧o<L.o+L.n
def CT (L:Loc) (a:Option Addr) (len cap sz:Nat):Prop:=
 (a=none∧cap=0∧L.n=0)∨ ∃ b o,a=some ⟨b,o,none⟩∧L.n=(cap - len)*sz∧(len<cap→L.b=b∧L.o=o+len*sz)
structure mL (L:Loc) (a:Option Addr) (len cap sz:Nat):Prop where
 addr:a=if L.nil then none else some ⟨L.b,L.o,none⟩
 iO:cap=L.cap
 cells:L.n=L.cap*sz
 isNil:L.nil=true→L.cap=0
 fits:len≤cap
def gH (P:Program) (f:Nat):Prop:= ∃ fn,P.funcs[f]? =some fn∧(fn.name == "runtime.NumGoroutine")=false∧fn.body.isNone=false
def jj:List Value→Value
 | [v]=>v
 | vs=> .tuple vs.toArray
def grown (s:St) (w w':World):St:=fun b o=>s b o∨(w.heap.size≤b∧b<w'.heap.size)
section
variable (P:Program) (S:aP)
def eH (w:World) (s:St):(ts:List Ty)→an S.C ts→List Value→Prop
 | [],_,vs=>vs= []
 | t::ts,x,vs=> ∃ v r,vs=v::r∧bU S w s t (an.head x) v∧eH w s ts (an.tail x) r
theorem eH.mono {w w':World} {s s':St} (hl:bI w s w' s'): ∀ (ts:List Ty) (x:an S.C ts) (vs:List Value),eH S w s ts x vs→eH S w' s' ts x vs
 | [],_,_,h=>h
 | _::ts,_,_,⟨v,r,h1,h2,h3⟩=>⟨v,r,h1,h2.mono S hl,eH.mono hl ts _ _ h3⟩
def gp (S:aP) (w:World) (M:St):Prop:=(∀ g ∈ S.gl,g.1.1<w.heap.size∧ ¬ M g.1.1 g.1.2∧ ∃ v,w.cell? ⟨g.1.1,g.1.2,none⟩=some v∧g.2 v)∧
 ∀ g ∈ S.gb,g.1<w.heap.size∧(∀ o, ¬ M g.1 o)∧ ∃ ob,w.heap[g.1]? =some ob∧g.2 ob
theorem gp.at {S:aP} {w0 w:World} {M0 M:St} (hG:gp S w0 M0) (hc:aX w0 w M0) (hM: ∀ b o,M b o→w0.heap.size≤b∨M0 b o):gp S w M:=
 ⟨fun g hg=>by
  obtain ⟨g1,g2,v,g3,g4⟩:=hG.1 g hg
  refine ⟨Nat.lt_of_lt_of_le g1 hc.size,fun hm=> ?_,v,(hc.cell g.1.1 g.1.2 g1 g2).trans g3,g4⟩
  rcases hM _ _ hm with h1 | h1
  · exact absurd g1 (Nat.not_lt.2 h1)
  · exact g2 h1,fun g hg=>by
  obtain ⟨g1,g2,v,g3,g4⟩:=hG.2 g hg
  refine ⟨Nat.lt_of_lt_of_le g1 hc.size,fun o hm=> ?_,v,(hc.same g.1 g1 g2).trans g3,g4⟩
  rcases hM _ _ hm with h1 | h1
  · exact absurd g1 (Nat.not_lt.2 h1)
  · exact g2 o h1⟩
def CL (w:World):Prop:=gp S w (fun _ _=>False)
def ki (w:World) (s:St) (a r:List Ty) (g:an S.C a→Option (an S.C r)) (v:Value):Prop:=
 ∃ f first cap,v= .func (.func f) first cap∧gH P f∧ ∀ w1 s1,bI w s w1 s1→CL S w1→ ∀ x args y,eH S w1 s1 a x args→g x=some y→
  Calls P f (first++args.toArray++cap) w1 fun e w'=> ∃ us,e= .returned (jj us)∧aX w1 w' (fun _ _=>False)∧eH S w' (grown s1 w1 w') r y us
theorem ki.mono {w w':World} {s s':St} (hl:bI w s w' s') {a r:List Ty} {g:an S.C a→Option (an S.C r)} {v:Value} (h:ki P S w s a r g v):ki P S w' s' a r g v:=by
 obtain ⟨f,first,cap,hv,hf,h⟩:=h
 exact ⟨f,first,cap,hv,hf,fun w1 s1 bR=>h w1 s1 (hl.trans bR)⟩
def kn (w:World) (s:St) (t:Ty) (x:t.den S.C) (v:Value):Prop:=
 ∃ b o ds,v= .pointer (some ⟨b,o,none⟩)∧At w s b o ds∧ds.length=Ty.sz S t∧ ∃ n,aB S w s n t x ds
theorem kn.mono {w w':World} {s s':St} (hl:bI w s w' s') {t:Ty} {x:t.den S.C} {v:Value} (h:kn S w s t x v):kn S w' s' t x v:=by
 obtain ⟨b,o,ds,hv,cF,hd,n,hr⟩:=h
 exact ⟨b,o,ds,hv,cF.later hl,hd,n,hr.mono S hl (Nat.le_refl _)⟩
def sD:Bool→Value→Prop
 | true,v=>v= .nilIface
 | false,v=> ∃ t p,v= .iface t p
def bq (w:World) (s:St) (μ:Nat→Loc) (bx:Bx S.C):V S.C→Value→Prop
 | .undef,_=>True
 | .skip,v=>v=Go.undef
 | .d t x,v=>bU S w s t x v
 | .pr p i,v=>v= .bool (@decide p i)
 | .aW b e l,v=>bU S w s (.sl e) l v∧(bx b=some .tail→ ∃ a cap,v= .slice a l.length cap∧CT (μ b) a l.length cap (Ty.sz S e))
 | .aM b,v=>(∃ a n c,v= .slice a n c)∧ ∀ e (l:List (e.den S.C)),(bx b=some (.arr e l)∨bx b=some (.bw e l))→ ∃ a cap,v= .slice a l.length cap∧mL (μ b) a l.length cap (Ty.sz S e)
 | .pre b n,v=>(∃ a n c,v= .slice a n c)∧ ∀ e (l:List (e.den S.C)),bx b=some (.arr e l)→0≤n∧n.toNat≤l.length∧ ∃ a cap,v= .slice a n.toNat cap∧mL (μ b) a n.toNat cap (Ty.sz S e)
 | .win b i n,v=>(∃ a n c,v= .slice a n c)∧ ∀ e (l:List (e.den S.C)),bx b=some (.arr e l)→0≤i∧0≤n∧i.toNat+n.toNat≤l.length∧ ∃ a cap,v= .slice a n.toNat cap∧n.toNat≤cap∧(n.toNat=0∨a=some ⟨(μ b).b,(μ b).o+i.toNat*Ty.sz S e,none⟩)
 | .ptr b off,v=>v= .pointer (some ⟨(μ b).b,(μ b).o+off,none⟩)
 | .split b c,v=> ∃ k q,v= .pointer (some ⟨k,q,none⟩)∧At w s k q [.pointer (some ⟨(μ c).b,(μ c).o,none⟩)]∧(μ b).b=k∧(μ b).o=q+1
 | .jY c,v=> ∃ k q,v= .pointer (some ⟨k,q,none⟩)∧At w s k q [.pointer (some ⟨(μ c).b,(μ c).o,none⟩)]
 | .bX b n,v=>v= .slice (some ⟨(μ b).b,(μ b).o,none⟩) n n
 | .dY b i off,v=>(∃ p,v= .pointer (some p))∧ ∀ e (l:List (e.den S.C)),(bx b=some (.arr e l)∨bx b=some (.bw e l))→0≤i∧i.toNat<l.length∧v= .pointer (some ⟨(μ b).b,(μ b).o+i.toNat*Ty.sz S e+off,none⟩)
 | .cN t x,v=>kn S w s t x v
 | .nil,v=>v= .pointer none
 | .err b,v=>sD b v
 | .b8,v=>v= .slice none 0 0
 | .fv a r g,v=>ki P S w s a r g v
 | .ey _ _,_=>False
 | .agg _ _,_=>False
 | .gm _,_=>False
def aF (w:World) (s:St) (μ:Nat→Loc) (bx:Bx S.C):List (V S.C)→List Value→Prop
 | [],cs=>cs= []
 | v::vs,cs=> ∃ c r,cs=c::r∧bq P S w s μ bx v c∧aF w s μ bx vs r
def RV (w:World) (s:St) (μ:Nat→Loc) (bx:Bx S.C):V S.C→Value→Prop
 | .agg u vs,v=> ∃ cs:Array Value,v= .agg cs∧vs.length=(S.F u).length∧vs.all (bE S)=true∧aF P S w s μ bx vs cs.toList
 | .gm vs,v=> ∃ us,v= .tuple us∧aF P S w s μ bx vs us.toList
 | .ey f vs,v=> ∃ cs:Array Value,v= .func (.func f) #[] cs∧aF P S w s μ bx vs cs.toList
 | v,c=>bq P S w s μ bx v c
def live (bx:Bx S.C) (i:Nat):Prop:=match bx i with
 | some (.cells _) | some (.arr _ _) | some .tail | some (.aV _) | some (.buf _)=>True
 | _=>False
def dX (L:Loc) (n:Nat):Value:= .slice (if L.nil then none else some ⟨L.b,0,none⟩) n L.cap
def sx (w:World) (b:Nat) (v:Value):Prop:=
 ∃ T e p,S.bt=some (T,e)∧w.heap[b]? =some (.cells #[p,v] T (0,0))∧(p= .pointer none∨p= .pointer (some ⟨b,0,none⟩))
def kg (w:World) (L:Loc) (l:List UInt8):Prop:=
 L.o=0∧L.n=L.cap∧(L.nil=true→L.cap=0)∧ ∃ T e,S.bt=some (T,e)∧w.ownsRowF 0 e 1 (dX L l.length) l.length (Lib.byteCells l)
def RB (w:World) (s:St) (μ:Nat→Loc) (bx:Bx S.C) (L:Loc):cZ S.C→Prop
 | .cells vs=>vs.all (bE S)=true∧L.n=vs.length∧w.there L.b L.o L.n∧ ∃ cs,w.rangeAt L.b L.o cs∧aF P S w s μ bx vs cs
 | .bG vs=>vs.all (bE S)=true∧ ∃ cs,At w s L.b L.o cs∧aF P S w s μ bx vs cs
 | .arr e l=>L.n=L.cap*Ty.sz S e∧(L.nil=true→L.cap=0)∧l.length≤L.cap∧w.there L.b L.o L.n∧
  ∀ i x,l[i]? =some x→ ∃ ds,ds.length=Ty.sz S e∧w.rangeAt L.b (L.o+i*Ty.sz S e) ds∧ ∃ n,aB S w s n e x ds
 | .bw e l=>(L.nil=true→L.cap=0)∧l.length≤L.cap∧
  ∀ i x,l[i]? =some x→ ∃ ds,ds.length=Ty.sz S e∧At w s L.b (L.o+i*Ty.sz S e) ds∧ ∃ n,aB S w s n e x ds
 | .tail=>w.there L.b L.o L.n
 | .dead=>True
 | .aV j=>L.o=0∧L.n=2∧bx j≠none∧ ∃ v,sx S w L.b v∧ ∀ l,bx j=some (.buf l)→v=dX (μ j) l.length
 | .buf l=>kg S w L l
end
end Go.Sy
namespace Go.Sy
section
variable (P:Program) (S:aP)
theorem aO {α:Type} (f:Nat→α) (k:Nat) (v:α):aq f k v k=v:=by
 unfold aq
 rw [show Nat.beq k k=true from Nat.beq_refl k]; rfl
theorem aZ {α:Type} (f:Nat→α) {k i:Nat} (v:α) (h:i≠k):aq f k v i=f i:=by
 unfold aq
 cases e:Nat.beq i k with
 | true=>exact absurd (Nat.eq_of_beq_eq_true e) h
 | false=>rfl
def cc (m m':Loc):cZ S.C→cZ S.C→Prop
 | .cells _, .cells _=>m'=m
 | .cells _, .bG _=>m'=m
 | .bG _, .bG _=>m'=m
 | .arr e l, .arr e' l'=>m'=m∧e'=e∧l'.length=l.length
 | .arr e l, .bw e' l'=>m'=m∧e'=e∧l'.length=l.length
 | .bw e l, .bw e' l'=>m'=m∧e'=e∧l'.length=l.length
 | .tail, .tail=>m'=m
 | .aV _, .aV _=>m'=m
 | .cells _, .aV _=>m'=m
 | .aV _, .cells _=>m'=m
 | .buf l, .buf l'=>m'=m∧l'.length=l.length
 | _, .dead=>m'=m
 | _,_=>False
def pn:cZ S.C→Prop
 | .cells _ | .aV _=>True
 | _=>False
theorem K4 {m m':Loc} {B B':cZ S.C} (h:pn S B) (h':pn S B') (e:m'=m):cc S m m' B B':=by
 cases B <;> first | exact h.elim | (cases B' <;> first | exact h'.elim | exact e)
theorem cc.refl (m:Loc) (B:cZ S.C):cc S m m B B:=by cases B <;> simp [cc]
def aE (w0:World) (M0 s0:St) (bx:Bx S.C) (μ:Nat→Loc) (w:World):St:=
 fun b o=>b<w.heap.size∧(s0 b o∨M0 b o∨w0.heap.size≤b)∧ ∀ i,live S bx i→ ¬ (μ i).aD b o
structure Inv (w0:World) (M0 s0:St) (dq:List Deferred) (env:Env S.C) (a:Act) (w:World) (μ:Nat→Loc):Prop where
 gX: ∀ t,RV P S w (aE S w0 M0 s0 env.bx μ w) μ env.bx (env.tm t) (a.tmps.getD t Go.undef)
 bL: ∀ i B,env.bx i=some B→RB P S w (aE S w0 M0 s0 env.bx μ w) μ env.bx (μ i) B
 cM: ∀ i j,i≠j→live S env.bx i→live S env.bx j→ ∀ b o,(μ i).aD b o→(μ j).aD b o→False
 own: ∀ i,live S env.bx i→ ∀ b o,(μ i).aD b o→w0.heap.size≤b∨M0 b o
 ref: ∀ t i,i ∈ az S (env.tm t)→env.bx i≠none
 jh: ∀ i vs,(env.bx i=some (.cells vs)∨env.bx i=some (.bG vs))→ ∀ v ∈ vs, ∀ j ∈ ax S v,env.bx j≠none
 fW:aX w0 w M0
 qu:a.defers=cond env.df dq []
 oJ:gp S w0 M0
theorem bq.step {w w':World} {s s':St} {μ μ':Nat→Loc} {bx ag:Bx S.C} (hl:bI w s w' s')
 (hc: ∀ i B0,bx i=some B0→ ∃ B,ag i=some B∧cc S (μ i) (μ' i) B0 B) {V:V S.C} {v:Value}
 (hr: ∀ i ∈ ax S V,bx i≠none) (h:bq P S w s μ bx V v):bq P S w' s' μ' ag V v:=by
 cases V with
 | undef=>trivial
 | skip=>exact h
 | d t x=>exact bU.mono S hl h
 | pr p i=>exact h
 | aW b e l=>
  refine ⟨bU.mono S hl h.1,fun hb=> ?_⟩
  obtain ⟨B0,bD⟩:=Option.ne_none_iff_exists'.1 (hr b (by simp [ax]))
  obtain ⟨B,hB,b6⟩:=hc b B0 bD
  rw [hb] at hB
  obtain rfl:=Option.some.inj hB
  cases B0 <;> simp only [cc] at b6
  rw [b6]
  exact h.2 bD
 | aM b=>
  refine ⟨h.1,fun e l hb=> ?_⟩
  replace h:=h.2
  obtain ⟨B0,bD⟩:=Option.ne_none_iff_exists'.1 (hr b (by simp [ax]))
  obtain ⟨B,hB,b6⟩:=hc b B0 bD
  rcases hb with hb | hb <;>
  · rw [hb] at hB
    obtain rfl:=Option.some.inj hB
    cases B0 <;> simp only [cc] at b6
    all_goals
     obtain ⟨hm,rfl,hlen⟩:=b6
     rw [hm,hlen]
     first
     | exact h _ _ (.inl bD)
     | exact h _ _ (.inr bD)
 | pre b n=>
  refine ⟨h.1,fun e l hb=> ?_⟩
  replace h:=h.2
  obtain ⟨B0,bD⟩:=Option.ne_none_iff_exists'.1 (hr b (by simp [ax]))
  obtain ⟨B,hB,b6⟩:=hc b B0 bD
  rw [hb] at hB
  obtain rfl:=Option.some.inj hB
  cases B0 <;> simp only [cc] at b6
  obtain ⟨hm,rfl,hlen⟩:=b6
  rw [hm,hlen]
  exact h _ _ bD
 | win b i n=>
  refine ⟨h.1,fun e l hb=> ?_⟩
  replace h:=h.2
  obtain ⟨B0,bD⟩:=Option.ne_none_iff_exists'.1 (hr b (by simp [ax]))
  obtain ⟨B,hB,b6⟩:=hc b B0 bD
  rw [hb] at hB
  obtain rfl:=Option.some.inj hB
  cases B0 <;> simp only [cc] at b6
  obtain ⟨hm,rfl,hlen⟩:=b6
  rw [hm,hlen]
  exact h _ _ bD
 | ptr b off=>
  obtain ⟨B0,bD⟩:=Option.ne_none_iff_exists'.1 (hr b (by simp [ax]))
  obtain ⟨B,hB,b6⟩:=hc b B0 bD
  have hm:μ' b=μ b:=by
   cases B0 <;> cases B <;> simp only [cc] at b6 <;> first | exact b6 | exact b6.1
  show v=_
  rw [hm]
  exact h
 | bX b n=>
  obtain ⟨B0,bD⟩:=Option.ne_none_iff_exists'.1 (hr b (by simp [ax]))
  obtain ⟨B,hB,b6⟩:=hc b B0 bD
  have hm:μ' b=μ b:=by
   cases B0 <;> cases B <;> simp only [cc] at b6 <;> first | exact b6 | exact b6.1
  show v=_
  rw [hm]
  exact h
 | split b c=>
  have hm: ∀ i ∈ [b,c],μ' i=μ i:=fun i hb=>by
   obtain ⟨B0,bD⟩:=Option.ne_none_iff_exists'.1 (hr i hb)
   obtain ⟨B,hB,b6⟩:=hc i B0 bD
   cases B0 <;> cases B <;> simp only [cc] at b6 <;> first | exact b6 | exact b6.1
  obtain ⟨k,q,h1,h2,h3,h4⟩:=h
  rw [← hm c (by simp)] at h2
  rw [← hm b (by simp)] at h3 h4
  exact ⟨k,q,h1,h2.later hl,h3,h4⟩
 | jY c=>
  have hm:μ' c=μ c:=by
   obtain ⟨B0,bD⟩:=Option.ne_none_iff_exists'.1 (hr c (by simp [ax]))
   obtain ⟨B,hB,b6⟩:=hc c B0 bD
   cases B0 <;> cases B <;> simp only [cc] at b6 <;> first | exact b6 | exact b6.1
  obtain ⟨k,q,h1,h2⟩:=h
  rw [← hm] at h2
  exact ⟨k,q,h1,h2.later hl⟩
 | dY b i off=>
  refine ⟨h.1,fun e l hb=> ?_⟩
  replace h:=h.2
  obtain ⟨B0,bD⟩:=Option.ne_none_iff_exists'.1 (hr b (by simp [ax]))
  obtain ⟨B,hB,b6⟩:=hc b B0 bD
  rcases hb with hb | hb <;>
  · rw [hb] at hB
    obtain rfl:=Option.some.inj hB
    cases B0 <;> simp only [cc] at b6
    all_goals
     obtain ⟨hm,rfl,hlen⟩:=b6
     rw [hm,hlen]
     first
     | exact h _ _ (.inl bD)
     | exact h _ _ (.inr bD)
 | cN t x=>exact kn.mono S hl h
 | nil=>exact h
 | err b=>exact h
 | b8=>exact h
 | fv a r g=>exact ki.mono P S hl h
 | ey f vs=>exact h.elim
 | agg u vs=>exact h.elim
 | gm vs=>exact h.elim
theorem aF.step {w w':World} {s s':St} {μ μ':Nat→Loc} {bx ag:Bx S.C} (hl:bI w s w' s')
 (hc: ∀ i B0,bx i=some B0→ ∃ B,ag i=some B∧cc S (μ i) (μ' i) B0 B): ∀ {vs:List (V S.C)} {cs:List Value},
 (∀ v ∈ vs, ∀ i ∈ ax S v,bx i≠none)→aF P S w s μ bx vs cs→aF P S w' s' μ' ag vs cs
 | [],_,_,h=>h
 | v::vs,_,hr,⟨c,r,h1,h2,h3⟩=>⟨c,r,h1,bq.step P S hl hc (hr v (by simp)) h2,aF.step hl hc (fun v hv=>hr v (by simp [hv])) h3⟩
theorem RV.step {w w':World} {s s':St} {μ μ':Nat→Loc} {bx ag:Bx S.C} (hl:bI w s w' s')
 (hc: ∀ i B0,bx i=some B0→ ∃ B,ag i=some B∧cc S (μ i) (μ' i) B0 B) {V:V S.C} {v:Value}
 (hr: ∀ i ∈ az S V,bx i≠none) (h:RV P S w s μ bx V v):RV P S w' s' μ' ag V v:=by
 cases V with
 | agg u vs=>
  obtain ⟨cs,h1,h2,h3,h4⟩:=h
  exact ⟨cs,h1,h2,h3,aF.step P S hl hc (fun v hv i hi=>hr i (by simp only [az,List.mem_flatMap]; exact ⟨v,hv,hi⟩)) h4⟩
 | gm vs=>
  obtain ⟨cs,h1,h4⟩:=h
  exact ⟨cs,h1,aF.step P S hl hc (fun v hv i hi=>hr i (by simp only [az,List.mem_flatMap]; exact ⟨v,hv,hi⟩)) h4⟩
 | ey f vs=>
  obtain ⟨cs,h1,h4⟩:=h
  exact ⟨cs,h1,aF.step P S hl hc (fun v hv i hi=>hr i (by simp only [az,List.mem_flatMap]; exact ⟨v,hv,hi⟩)) h4⟩
 | undef=>exact trivial
 | skip=>exact bq.step P S hl hc (V:= .skip) hr h
 | d t x=>exact bq.step P S hl hc (V:= .d t x) hr h
 | pr p i=>exact bq.step P S hl hc (V:= .pr p i) hr h
 | aW b e l=>exact bq.step P S hl hc (V:= .aW b e l) hr h
 | aM b=>exact bq.step P S hl hc (V:= .aM b) hr h
 | pre b n=>exact bq.step P S hl hc (V:= .pre b n) hr h
 | win b i n=>exact bq.step P S hl hc (V:= .win b i n) hr h
 | ptr b off=>exact bq.step P S hl hc (V:= .ptr b off) hr h
 | bX b n=>exact bq.step P S hl hc (V:= .bX b n) hr h
 | split b c=>exact bq.step P S hl hc (V:= .split b c) hr h
 | jY c=>exact bq.step P S hl hc (V:= .jY c) hr h
 | dY b i off=>exact bq.step P S hl hc (V:= .dY b i off) hr h
 | cN t x=>exact bq.step P S hl hc (V:= .cN t x) hr h
 | nil=>exact bq.step P S hl hc (V:= .nil) hr h
 | err b=>exact bq.step P S hl hc (V:= .err b) hr h
 | b8=>exact bq.step P S hl hc (V:= .b8) hr h
 | fv a r g=>exact bq.step P S hl hc (V:= .fv a r g) hr h
theorem aF.length {w:World} {s:St} {μ:Nat→Loc} {bx:Bx S.C} : ∀ {vs:List (V S.C)} {cs:List Value},aF P S w s μ bx vs cs→cs.length=vs.length
 | [],_,h=>by cases h; rfl
 | _::_,_,⟨c,r,h1,_,h3⟩=>by subst h1; simp [aF.length h3]
theorem aF.append {w:World} {s:St} {μ:Nat→Loc} {bx:Bx S.C} : ∀ {vs ws:List (V S.C)} {cs ds:List Value},aF P S w s μ bx vs cs→aF P S w s μ bx ws ds→aF P S w s μ bx (vs++ws) (cs++ds)
 | [],_,_,_,h,h'=>by cases h; exact h'
 | _::_,_,_,ds,⟨c,r,h1,h2,h3⟩,h'=>⟨c,r++ds,by simp [h1],h2,aF.append h3 h'⟩
theorem aF.take {w:World} {s:St} {μ:Nat→Loc} {bx:Bx S.C} : ∀ (n:Nat) {vs:List (V S.C)} {cs:List Value},aF P S w s μ bx vs cs→aF P S w s μ bx (vs.take n) (cs.take n)
 | 0,_,_,_=>by simp [aF]
 | _+1,[],_,h=>by cases h; simp [aF]
 | n+1,_::_,_,⟨c,r,h1,h2,h3⟩=>⟨c,r.take n,by simp [h1],h2,aF.take n h3⟩
theorem aF.drop {w:World} {s:St} {μ:Nat→Loc} {bx:Bx S.C} : ∀ (n:Nat) {vs:List (V S.C)} {cs:List Value},aF P S w s μ bx vs cs→aF P S w s μ bx (vs.drop n) (cs.drop n)
 | 0,_,_,h=>h
 | _+1,[],_,h=>by cases h; simp [aF]
 | n+1,_::_,_,⟨c,r,h1,h2,h3⟩=>by subst h1; exact aF.drop n h3
theorem aF.get {w:World} {s:St} {μ:Nat→Loc} {bx:Bx S.C} : ∀ {vs:List (V S.C)} {cs:List Value} (n:Nat) {v:V S.C},aF P S w s μ bx vs cs→vs[n]? =some v→ ∃ c,cs[n]? =some c∧bq P S w s μ bx v c
 | [],_,_,_,_,hv=>by simp at hv
 | _::_,_,0,_,⟨c,r,h1,h2,h3⟩,hv=>by subst h1; simp at hv; subst hv; exact ⟨c,by simp,h2⟩
 | _::_,_,n+1,_,⟨c,r,h1,h2,h3⟩,hv=>by
  subst h1
  obtain ⟨c',fI,hr⟩:=aF.get n h3 (by simpa using hv)
  exact ⟨c',by simpa using fI,hr⟩
theorem oA {w:World} {b o:Nat} {cs:Array Value} {T:TypeId} {fz:Nat×Nat} (h:w.heap[b]? =some (.cells cs T fz)):(w.cell? ⟨b,o,none⟩).isSome=true↔o<cs.size:=by
 rw [Lib.cell_of_heap h]; simp
theorem sx.cells {w:World} {b:Nat} {v:Value} (h:sx S w b v) {o:Nat} :(w.cell? ⟨b,o,none⟩).isSome=true↔o<2:=by
 obtain ⟨T,e,p,_,h,_⟩:=h
 exact oA h
theorem kg.row {w:World} {L:Loc} {l:List UInt8} (h:kg S w L l):L.n=0∧L.nil=true∧l= []∨ ∃ T e cur fz,S.bt=some (T,e)∧w.heap[L.b]? =some (.cells cur e fz)∧cur.size=L.n∧L.nil=false:=by
 obtain ⟨h1,h2,h3,T,e,h4,h5,h6⟩:=h
 rcases h6 with ⟨h6,h7⟩ | ⟨g,cap,cur,fz,h6, -,h7, -, -, -,h8, -⟩
 · unfold dX at h6
   simp only [Value.slice.injEq] at h6
   obtain ⟨h6,_,h8⟩:=h6
   refine .inl ⟨by omega, ?_,List.length_eq_zero_iff.1 h7⟩
   cases hn:L.nil with
   | true=>rfl
   | false=>rw [hn] at h6; simp at h6
 · unfold dX at h6
   simp only [Value.slice.injEq] at h6
   obtain ⟨h6,_,h9⟩:=h6
   cases hn:L.nil with
   | true=>rw [hn] at h6; simp at h6
   | false=>
    rw [hn] at h6
    simp at h6
    subst h6
    exact .inr ⟨T,e,cur,fz,h4,h7,by omega,rfl⟩
theorem jV {w:World} {s:St} {μ:Nat→Loc} {bx:Bx S.C} {i:Nat} (h: ∀ B,bx i=some B→RB P S w s μ bx (μ i) B) (hi:live S bx i) {b o:Nat} (hf:(μ i).aD b o):
 b<w.heap.size∧(w.cell? ⟨b,o,none⟩).isSome=true:=by
 have key:w.there (μ i).b (μ i).o (μ i).n→b<w.heap.size∧(w.cell? ⟨b,o,none⟩).isSome=true:=fun ht=>by
  obtain ⟨rfl,h1,h2⟩:=hf
  have :=(ht (o - (μ i).o) (by omega)).1
  rw [show (μ i).o+(o - (μ i).o)=o from by omega] at this
  obtain ⟨v,hv⟩:=Option.isSome_iff_exists.1 this
  exact ⟨World.block_lt_of_cell? w _ hv,this⟩
 unfold live at hi
 split at hi
 · rename_i vs hb; exact key (h _ hb).2.2.1
 · rename_i e l hb; exact key (h _ hb).2.2.2.1
 · rename_i hb; exact key (h _ hb)
 · rename_i j hb
   obtain ⟨h1,h2,_,v,h3,_⟩:=h _ hb
   obtain ⟨rfl,h4,h5⟩:=hf
   have :=(h3.cells S (o:=o)).2 (by omega)
   obtain ⟨v,hv⟩:=Option.isSome_iff_exists.1 this
   exact ⟨World.block_lt_of_cell? w _ hv,this⟩
 · rename_i l hb
   obtain ⟨rfl,h4,h5⟩:=hf
   have h1:kg S w (μ i) l:=h _ hb
   rcases h1.row with ⟨h2, -⟩ | ⟨T,e,cur,fz, -,h2,h3, -⟩
   · omega
   · have :=(oA (o:=o) h2).2 (by have :=h1.1; omega)
     obtain ⟨v,hv⟩:=Option.isSome_iff_exists.1 this
     exact ⟨World.block_lt_of_cell? w _ hv,this⟩
 · exact hi.elim
theorem dF {bx ag:Bx S.C} {i:Nat} (h:ag i=bx i):live S ag i↔live S bx i:=by unfold live; rw [h]
variable {P S}
theorem Inv.later {w0:World} {M0 s0:St} {dq:List Deferred} {env:Env S.C} {a:Act} {w:World} {μ:Nat→Loc} (h:Inv P S w0 M0 s0 dq env a w μ)
 {w':World} {T:St} {ag:Bx S.C} {μ':Nat→Loc} {U:Nat→Prop} (hw:aX w w' T)
 (hT: ∀ b o,T b o→b<w.heap.size→ ∃ i,U i∧live S env.bx i∧(μ i).aD b o)
 (hU: ∀ i, ¬ U i→ag i=env.bx i∧μ' i=μ i)
 (hf: ∀ i,U i→live S ag i→ ∀ b o,(μ' i).aD b o→w.heap.size≤b∨ ∃ j,U j∧live S env.bx j∧(μ j).aD b o):
 bI w (aE S w0 M0 s0 env.bx μ w) w' (aE S w0 M0 s0 ag μ' w'):=by
 intro b o ⟨h1,h2,h3⟩
 refine ⟨⟨Nat.lt_of_lt_of_le h1 hw.size,h2,fun i hi hfo=> ?_⟩, ?_⟩
 · by_cases hu:U i
   · rcases hf i hu hi b o hfo with hlt | ⟨j,_,hj,MQ⟩
     · omega
     · exact h3 j hj MQ
   · rw [dF S (hU i hu).1] at hi
     rw [(hU i hu).2] at hfo
     exact h3 i hi hfo
 · exact hw.cell b o h1 fun ht=>by
    obtain ⟨i,_,hi,hfo⟩:=hT b o ht h1
    exact h3 i hi hfo
theorem Inv.step {w0:World} {M0 s0:St} {dq:List Deferred} {env:Env S.C} {a:Act} {w:World} {μ:Nat→Loc} (h:Inv P S w0 M0 s0 dq env a w μ)
 {w':World} {T:St} {ag:Bx S.C} {μ':Nat→Loc} {U:Nat→Prop} (hw:aX w w' T)
 (hT: ∀ b o,T b o→b<w.heap.size→ ∃ i,U i∧live S env.bx i∧(μ i).aD b o)
 (hU: ∀ i, ¬ U i→ag i=env.bx i∧μ' i=μ i)
 (hf: ∀ i,U i→live S ag i→ ∀ b o,(μ' i).aD b o→w.heap.size≤b∨ ∃ j,U j∧live S env.bx j∧(μ j).aD b o)
 (hc: ∀ i B0,env.bx i=some B0→ ∃ B,ag i=some B∧cc S (μ i) (μ' i) B0 B)
 (hd: ∀ i j,U i→U j→i≠j→live S ag i→live S ag j→ ∀ b o,(μ' i).aD b o→(μ' j).aD b o→False)
 (hb: ∀ i B,U i→ag i=some B→RB P S w' (aE S w0 M0 s0 ag μ' w') μ' ag (μ' i) B)
 (hr: ∀ i vs,U i→(ag i=some (.cells vs)∨ag i=some (.bG vs))→ ∀ v ∈ vs, ∀ j ∈ ax S v,ag j≠none):
 Inv P S w0 M0 s0 dq { env with bx:=ag } a w' μ':=by
 have hl:=h.later hw hT hU hf
 have hne: ∀ i,env.bx i≠none→ag i≠none:=fun i hi=>by
  obtain ⟨B0,bD⟩:=Option.ne_none_iff_exists'.1 hi
  obtain ⟨B,hB,_⟩:=hc i B0 bD
  rw [hB]; simp
 have E5: ∀ i j, ¬ U i→U j→live S ag i→live S ag j→ ∀ b o,(μ' i).aD b o→(μ' j).aD b o→False:=by
  intro i j hi hj li lj b o fi fj
  rw [dF S (hU i hi).1] at li
  rw [(hU i hi).2] at fi
  rcases hf j hj lj b o fj with hlt | ⟨k,hk,lk,fk⟩
  · exact absurd (jV P S (h.bL i) li fi).1 (by omega)
  · exact h.cM i k (fun e=>hi (e▸hk)) li lk b o fi fk
 refine ⟨fun t=>RV.step P S hl hc (h.ref t) (h.gX t), ?_, ?_, ?_,fun t i hi=>hne i (h.ref t i hi), ?_, ?_,h.qu,h.oJ⟩
 · intro i B hB
   by_cases hu:U i
   · exact hb i B hu hB
   · have fH:env.bx i=some B:=(hU i hu).1▸hB
     have hold:=h.bL i B fH
     rw [(hU i hu).2]
     have hcell:live S env.bx i→ ∀ o,(μ i).aD (μ i).b o→w'.cell? ⟨(μ i).b,o,none⟩=w.cell? ⟨(μ i).b,o,none⟩∧w'.frozen? ⟨(μ i).b,o,none⟩=w.frozen? ⟨(μ i).b,o,none⟩:=fun li o fo=>by
      have hlt:=(jV P S (h.bL i) li fo).1
      exact ⟨hw.cell _ _ hlt fun ht=>by
       obtain ⟨j,uj,lj,fj⟩:=hT _ _ ht hlt
       exact h.cM i j (fun e=>hu (e▸uj)) li lj _ _ fo fj,hw.wQ _ _ hlt fun ht=>by
       obtain ⟨j,uj,lj,fj⟩:=hT _ _ ht hlt
       exact h.cM i j (fun e=>hu (e▸uj)) li lj _ _ fo fj⟩
     have qE:live S env.bx i→(∀ o,(w.cell? ⟨(μ i).b,o,none⟩).isSome=true→(μ i).aD (μ i).b o)→(μ i).b<w.heap.size→w'.heap[(μ i).b]? =w.heap[(μ i).b]? :=fun li hin hlt=>
      hw.same _ hlt fun o ht=>by
       obtain ⟨j,uj,lj,fj⟩:=hT _ _ ht hlt
       exact h.cM i j (fun e=>hu (e▸uj)) li lj _ _ (hin o (jV P S (h.bL j) lj fj).2) fj
     have tZ:live S env.bx i→w.there (μ i).b (μ i).o (μ i).n→w'.there (μ i).b (μ i).o (μ i).n:=fun li ht j hj=>by
      obtain ⟨c1,c2⟩:=hcell li ((μ i).o+j) ⟨rfl,by omega,by omega⟩
      rw [c1,c2]; exact ht j hj
     have Fz:live S env.bx i→ ∀ o cs,(μ i).o≤o→o+cs.length≤(μ i).o+(μ i).n→w.rangeAt (μ i).b o cs→w'.rangeAt (μ i).b o cs:=fun li o cs h1 h2 iW j v hj=>by
      have hjl:=(List.getElem?_eq_some_iff.1 hj).1
      rw [(hcell li (o+j) ⟨rfl,by omega,by omega⟩).1]
      exact iW j v hj
     cases B with
     | cells vs=>
      have li:live S env.bx i:=by unfold live; rw [fH]; trivial
      obtain ⟨h1,h2,h3,cs,h4,h5⟩:=hold
      have hlen:=aF.length P S h5
      exact ⟨h1,h2,tZ li h3,cs,Fz li _ _ (Nat.le_refl _) (by omega) h4,aF.step P S hl hc (h.jh i vs (.inl fH)) h5⟩
     | bG vs=>
      obtain ⟨h1,cs,h4,h5⟩:=hold
      exact ⟨h1,cs,h4.later hl,aF.step P S hl hc (h.jh i vs (.inr fH)) h5⟩
     | arr e l=>
      have li:live S env.bx i:=by unfold live; rw [fH]; trivial
      obtain ⟨h1,h2,h3,h4,h5⟩:=hold
      refine ⟨h1,h2,h3,tZ li h4,fun k x hk=> ?_⟩
      obtain ⟨ds,hds,iW,n,ic⟩:=h5 k x hk
      have hkl:=(List.getElem?_eq_some_iff.1 hk).1
      refine ⟨ds,hds,Fz li _ _ (by omega) ?_ iW,n,ic.mono S hl (Nat.le_refl _)⟩
      have :(k+1)*Ty.sz S e≤(μ i).cap*Ty.sz S e:=Nat.mul_le_mul_right _ (by omega)
      rw [Nat.add_mul,Nat.one_mul] at this
      omega
     | bw e l=>
      obtain ⟨h2,h3,h5⟩:=hold
      refine ⟨h2,h3,fun k x hk=> ?_⟩
      obtain ⟨ds,hds,iW,n,ic⟩:=h5 k x hk
      exact ⟨ds,hds,iW.later hl,n,ic.mono S hl (Nat.le_refl _)⟩
     | tail=>
      have li:live S env.bx i:=by unfold live; rw [fH]; trivial
      exact tZ li hold
     | dead=>trivial
     | aV k=>
      have li:live S env.bx i:=by unfold live; rw [fH]; trivial
      obtain ⟨h1,h2,h3,v,h4,h5⟩:=hold
      have hlt:(μ i).b<w.heap.size:=by
       obtain ⟨v,hv⟩:=Option.isSome_iff_exists.1 ((h4.cells S (o:=0)).2 (by omega))
       exact World.block_lt_of_cell? w _ hv
      have hb:=qE li (fun o ho=>by have :=(h4.cells S).1 ho; exact ⟨rfl,by omega,by omega⟩) hlt
      refine ⟨h1,h2,hne k h3,v, ?_,fun l hl'=> ?_⟩
      · obtain ⟨T,e,p,q1,q2,q3⟩:=h4
        exact ⟨T,e,p,q1,hb.trans q2,q3⟩
      · obtain ⟨B0,bD⟩:=Option.ne_none_iff_exists'.1 h3
        obtain ⟨B1,iQ,b6⟩:=hc k B0 bD
        have hl':ag k=some (.buf l):=hl'
        rw [hl'] at iQ
        cases iQ
        cases B0 <;> simp only [cc] at b6
        obtain ⟨hm,hlen⟩:=b6
        rw [hm,hlen]
        exact h5 _ bD
     | buf l=>
      have li:live S env.bx i:=by unfold live; rw [fH]; trivial
      have hold:kg S w (μ i) l:=hold
      rcases hold.row with ⟨q1,q2,q3⟩ | ⟨T,e,cur,fz,q1,q2,q3,q4⟩
      · obtain ⟨r1,r2,r3,T,e,r4,r5⟩:=hold
        refine ⟨r1,r2,r3,T,e,r4, ?_⟩
        subst q3
        have hv:dX (μ i) ([]:List UInt8).length= .slice none 0 0:=by unfold dX; rw [q2,r3 q2]; rfl
        rw [hv]
        exact World.ownsRowF_nil ..
      · have hlt:(μ i).b<w.heap.size:=(Array.getElem?_eq_some_iff.1 q2).1
        have hb:=qE li (fun o ho=>by have :=(oA q2).1 ho; exact ⟨rfl,by have :=hold.1; omega,by have :=hold.1; omega⟩) hlt
        obtain ⟨r1,r2,r3,T',e',r4,r5,r6⟩:=hold
        refine ⟨r1,r2,r3,T',e',r4,r5, ?_⟩
        rcases r6 with r6 | ⟨g,cap,cur',jQ,r6,r7,r8,r9⟩
        · exact .inl r6
        · have hg:g=(μ i).b:=by
           unfold dX at r6
           rw [q4] at r6
           simp at r6
           exact r6.1.symm
          subst hg
          exact .inr ⟨_,cap,cur',jQ,r6,r7,hb.trans r8,r9⟩
 · intro i j hij li lj b o fi fj
   by_cases hi:U i
   · by_cases hj:U j
     · exact hd i j hi hj hij li lj b o fi fj
     · exact E5 j i hj hi lj li b o fj fi
   · by_cases hj:U j
     · exact E5 i j hi hj li lj b o fi fj
     · have l1:=(dF S (hU i hi).1).1 li
       have l2:=(dF S (hU j hj).1).1 lj
       rw [(hU i hi).2] at fi
       rw [(hU j hj).2] at fj
       exact h.cM i j hij l1 l2 b o fi fj
 · intro i li b o fi
   by_cases hi:U i
   · rcases hf i hi li b o fi with hlt | ⟨j,_,lj,fj⟩
     · exact .inl (Nat.le_trans h.fW.size hlt)
     · exact h.own j lj b o fj
   · have l1:=(dF S (hU i hi).1).1 li
     rw [(hU i hi).2] at fi
     exact h.own i l1 b o fi
 · intro i vs hvs v hv j hj
   by_cases hu:U i
   · exact hr i vs hu hvs v hv j hj
   · have ug:ag i=some (.cells vs)∨ag i=some (.bG vs):=hvs
     rw [(hU i hu).1] at ug
     exact hne j (h.jh i vs ug v hv j hj)
 · refine h.fW.trans hw (fun _ _ h=>h) fun b o hb ht=> ?_
   obtain ⟨i,_,li,fi⟩:=hT b o ht (Nat.lt_of_lt_of_le hb h.fW.size)
   rcases h.own i li b o fi with hlt | hm
   · omega
   · exact hm
theorem Inv.put {w0:World} {M0 s0:St} {dq:List Deferred} {env:Env S.C} {a:Act} {w:World} {μ:Nat→Loc} (h:Inv P S w0 M0 s0 dq env a w μ) {dst:Option Nat} {V:V S.C} {v:Value}
 (hd: ∀ d,dst=some d→d<a.tmps.size) (hv:RV P S w (aE S w0 M0 s0 env.bx μ w) μ env.bx V v) (hr: ∀ i ∈ az S V,env.bx i≠none):
 Inv P S w0 M0 s0 dq { env with tm:=rQ env.tm dst V } (a.put dst v) w μ:=by
 cases dst with
 | none=>exact h
 | some d=>
  have hlt:=hd d rfl
  refine ⟨fun t=> ?_,h.bL,h.cM,h.own,fun t i hi=> ?_,h.jh,h.fW,h.qu,h.oJ⟩
  · show RV P S w _ μ env.bx (aq env.tm d V t) ((a.tmps.setIfInBounds d v).getD t Go.undef)
    by_cases e:t=d
    · subst e
      have :(a.tmps.setIfInBounds t v).getD t Go.undef=v:=by simp [Array.getD,hlt]
      rw [this,show aq env.tm t V t=V from aO _ _ _]
      exact hv
    · have :(a.tmps.setIfInBounds d v).getD t Go.undef=a.tmps.getD t Go.undef:=by
       simp [Array.getElem?_setIfInBounds_ne (Ne.symm e)]
      rw [this,show aq env.tm d V t=env.tm t from aZ _ _ e]
      exact h.gX t
  · have hi':i ∈ az S (aq env.tm d V t):=hi
    by_cases e:t=d
    · subst e
      rw [show aq env.tm t V t=V from aO _ _ _] at hi'
      exact hr i hi'
    · rw [show aq env.tm d V t=env.tm t from aZ _ _ e] at hi'
      exact h.ref t i hi'
end
end Go.Sy
namespace Go.Sy
structure cz (S:aP):Prop where
  flat: ∀ u,(S.F u).all (fun t=> !bg t)=true
  qx: ∀ u y,S.ex u (S.im u y)=y
section
variable (P:Program) (S:aP)
def IX (w:World) (s M:St) (e:Ty) (l:List (e.den S.C)) (cs:List Value):Prop:=
  ∃ a cap L,cs= [.slice a l.length cap]∧mL L a l.length cap (Ty.sz S e)∧w.there L.b L.o L.n∧(∀ b o,M b o↔L.aD b o)∧
    ∀ (i:Nat) (x:e.den S.C),l[i]? =some x→ ∃ ds,ds.length=Ty.sz S e∧w.rangeAt L.b (L.o+i*Ty.sz S e) ds∧ ∃ n,aB S w s n e x ds
def I8 (w:World) (s M:St) (e:Ty) (l:List (e.den S.C)) (cs:List Value):Prop:=
  ∃ a cap L,cs= [.slice a l.length cap]∧(∃ n,aB S w s n (.sl e) l cs)∧CT L a l.length cap (Ty.sz S e)∧w.there L.b L.o L.n∧ ∀ b o,M b o↔L.aD b o
def jy (w:World) (s M:St):(c:CK)→c.den S.C→List Value→Prop
  | .data t,x,cs=>fS M∧ ∃ n,aB S w s n t x cs
  | .aW e,l,cs=>I8 S w s M e l cs
  | .aM e,l,cs=>IX S w s M e l cs
def fR (w:World) (s:St):(M:St)→(cs:List CK)→bp S.C cs→List Value→Prop
  | M,[],_,vs=>fS M∧vs= []
  | M,c::cs,x,vs=> ∃ M1 M2 Cz Im,fT M M1 M2∧vs=Cz++Im∧Cz.length=CK.sz S c∧jy S w s M1 c (bp.head x) Cz∧fR w s M2 cs (bp.tail x) Im
def dy (w:World) (s M:St) (cs:List CK) (x:bp S.C cs) (v:Value):Prop:=
  ∃ b o ds M',v= .pointer (some ⟨b,o,none⟩)∧w.there b o ds.length∧w.rangeAt b o ds∧
    fT M (fun b' o'=>b'=b∧o≤o'∧o'<o+ds.length) M'∧fR S w s M' cs x ds
def IU (w:World) (s M:St) (cs:List CK) (x:bp S.C cs) (v:Value):Prop:=
  ∃ p,v= .slice (some p) (CK.bV S cs) (CK.bV S cs)∧dy S w s M cs x (.pointer (some p))
def lq (w:World) (M:St) (l:List UInt8) (v:Value):Prop:=
  ∃ b L,v= .pointer (some ⟨b,0,none⟩)∧sx S w b (dX L l.length)∧kg S w L l∧fT M (Loc.mk b 0 2 0 false).aD L.aD
def I5 (w:World) (s M:St) (t:Ty) (cs:List CK) (x:t.den S.C×bp S.C cs) (v:Value):Prop:=
  ∃ b o p M1 M2,v= .pointer (some ⟨b,o,none⟩)∧At w s b o [.pointer (some p)]∧fT M M1 M2∧dy S w s M1 [.data t] x.1 (.pointer (some p))∧dy S w s M2 cs x.2 (.pointer (some ⟨b,o+1,none⟩))
def kj (w:World) (s M:St):(k:K)→k.den S.C→Value→Prop
  | .val c,x,v=>jy S w s M c x v.cells.toList∧isAgg v=(match c with | .data t=>bg t | _=>false)
  | .obj cs,x,v=>dy S w s M cs x v
  | .opt cs,x,v=>match (x:Option (bp S.C cs)) with
    | none=>fS M∧v= .pointer none
    | some y=>dy S w s M cs y v
  | .nil,_,v=>fS M∧v= .pointer none
  | .ro t,x,v=>fS M∧kn S w s t x v
  | .fn a r,g,v=>fS M∧ki P S w s a r g v
  | .bX cs,x,v=>IU S w s M cs x v
  | .err,x,v=>fS M∧sD x v
  | .aV,x,v=>lq S w M x v
  | .bJ t cs,x,v=>I5 S w s M t cs x v
def bM (w:World) (s:St):(M:St)→(ks:List K)→Ks S.C ks→List Value→Prop
  | M,[],_,vs=>fS M∧vs= []
  | M,k::ks,x,vs=> ∃ M1 M2 v r,fT M M1 M2∧vs=v::r∧kj P S w s M1 k (Ks.head x) v∧bM w s M2 ks (Ks.tail x) r
theorem jy.mono {w:World} {s s' M:St} (hl:bI w s w s') {c:CK} {x:c.den S.C} {cs:List Value} (h:jy S w s M c x cs):jy S w s' M c x cs:=by
  cases c with
  | data t=>exact ⟨h.1,h.2.imp fun _ hn=>hn.mono S hl (Nat.le_refl _)⟩
  | aW e=>
    obtain ⟨a,cap,L,h1,⟨n,h2⟩,h3,h4,h5⟩:=h
    exact ⟨a,cap,L,h1,⟨n,h2.mono S hl (Nat.le_refl _)⟩,h3,h4,h5⟩
  | aM e=>
    obtain ⟨a,cap,L,h1,h2,h3,h4,h5⟩:=h
    refine ⟨a,cap,L,h1,h2,h3,h4,fun i y hi=> ?_⟩
    obtain ⟨ds,d1,d2,n,d3⟩:=h5 i y hi
    exact ⟨ds,d1,d2,n,d3.mono S hl (Nat.le_refl _)⟩
theorem fR.mono {w:World} {s s':St} (hl:bI w s w s'): ∀ {M:St} {cs:List CK} {x:bp S.C cs} {vs:List Value},fR S w s M cs x vs→fR S w s' M cs x vs
  | _,[],_,_,h=>h
  | _,_::_,_,_,⟨M1,M2,v1,v2,h1,h2,h3,h4,h5⟩=>⟨M1,M2,v1,v2,h1,h2,h3,h4.mono S hl,fR.mono hl h5⟩
theorem dy.mono {w:World} {s s' M:St} (hl:bI w s w s') {cs:List CK} {x:bp S.C cs} {v:Value} (h:dy S w s M cs x v):dy S w s' M cs x v:=by
  obtain ⟨b,o,ds,M',h1,h2,h3,h4,h5⟩:=h
  exact ⟨b,o,ds,M',h1,h2,h3,h4,h5.mono S hl⟩
theorem kj.mono {w:World} {s s' M:St} (hl:bI w s w s') {k:K} {x:k.den S.C} {v:Value} (h:kj P S w s M k x v):kj P S w s' M k x v:=by
  cases k with
  | val c=>exact ⟨h.1.mono S hl,h.2⟩
  | obj cs=>exact dy.mono S hl h
  | opt cs=>
    cases x with
    | none=>exact h
    | some y=>exact dy.mono S hl h
  | nil=>exact h
  | ro t=>exact ⟨h.1,h.2.mono S hl⟩
  | fn a r=>exact ⟨h.1,h.2.mono P S hl⟩
  | bX cs=>
    obtain ⟨p,h1,h2⟩:=h
    exact ⟨p,h1,dy.mono S hl h2⟩
  | err=>exact h
  | aV=>exact h
  | bJ t cs=>
    obtain ⟨b,o,p,M1,M2,h1,h2,h3,h4,h5⟩:=h
    exact ⟨b,o,p,M1,M2,h1,h2.later hl,h3,dy.mono S hl h4,dy.mono S hl h5⟩
theorem bM.mono {w:World} {s s':St} (hl:bI w s w s'): ∀ {M:St} {ks:List K} {x:Ks S.C ks} {vs:List Value},bM P S w s M ks x vs→bM P S w s' M ks x vs
  | _,[],_,_,h=>h
  | _,_::_,_,_,⟨M1,M2,v,r,h1,h2,h3,h4⟩=>⟨M1,M2,v,r,h1,h2,h3.mono P S hl,bM.mono hl h4⟩
def fy (w:World) (s:St):(ts:List Ty)→an S.C ts→List Value→Prop
  | [],_,vs=>vs= []
  | t::ts,x,vs=> ∃ v r,vs=v::r∧kn S w s t (an.head x) v∧fy w s ts (an.tail x) r
def fB (e:fA S):Prop:=gH P e.f∧ ∀ (w:World) (s:St) (x:an S.C e.a) (c:an S.C e.c) (y:an S.C e.r) (args caps:List Value),
  CL S w→eH S w s e.a x args→fy S w s e.c c caps→e.sp x c=some y→
  Calls P e.f (args++caps).toArray w fun en w'=> ∃ us,en= .returned (jj us)∧aX w w' (fun _ _=>False)∧eH S w' (grown s w w') e.r y us
def Tk (bx ag:Bx S.C):Prop:= ∀ i,ag i=bx i∨(ag i=some .dead∧live S bx i)∨ ∃ e l,bx i=some (.arr e l)∧ag i=some (.bw e l)
theorem Tk.refl (bx:Bx S.C):Tk S bx bx:=fun _=> .inl rfl
theorem Tk.trans {bx ag gK:Bx S.C} (h:Tk S bx ag) (h':Tk S ag gK):Tk S bx gK:=by
  intro i
  rcases h' i with e | ⟨e,l⟩ | ⟨e,l,h1,h2⟩
  · rw [e]; exact h i
  · rcases h i with e' | ⟨e',l'⟩ | ⟨e',l',h1,h2⟩
    · exact .inr (.inl ⟨e,(dF S e').1 l⟩)
    · exact .inr (.inl ⟨e,l'⟩)
    · exact .inr (.inl ⟨e,by unfold live; rw [h1]; trivial⟩)
  · rcases h i with e' | ⟨e',l'⟩ | ⟨e',l',h3,h4⟩
    · exact .inr (.inr ⟨e,l,e'▸h1,h2⟩)
    · rw [e'] at h1; cases h1
    · rw [h4] at h1; cases h1
def bW (w0:World) (M0 s0:St) (eI bx:Bx S.C) (μ:Nat→Loc) (w:World):St:=
  fun b o=>b<w.heap.size∧(s0 b o∨M0 b o∨w0.heap.size≤b)∧ ∀ i,live S eI i→(∃ e l,bx i=some (.bw e l))∨ ¬ (μ i).aD b o
theorem k7 (w0:World) (M0 s0:St) (eI bx:Bx S.C) (μ:Nat→Loc) (w:World):bI w (aE S w0 M0 s0 eI μ w) w (bW S w0 M0 s0 eI bx μ w):=
  fun b o ⟨h1,h2,h3⟩=>⟨⟨h1,h2,fun i hi=> .inr (h3 i hi)⟩,rfl⟩
theorem rT {w0:World} {M0 s0:St} {eI bx ag:Bx S.C} {μ:Nat→Loc} {w:World} (h:Tk S bx ag):bI w (bW S w0 M0 s0 eI bx μ w) w (bW S w0 M0 s0 eI ag μ w):=
  fun b o ⟨h1,h2,h3⟩=>⟨⟨h1,h2,fun i hi=>(h3 i hi).imp (fun ⟨e,l,hb⟩=>by
    rcases h i with e' | ⟨_,l'⟩ | ⟨e',l',h1,_⟩
    · exact ⟨e,l,e'.trans hb⟩
    · unfold live at l'; rw [hb] at l'; exact l'.elim
    · rw [hb] at h1; cases h1) id⟩,rfl⟩
variable {P S}
theorem fy.mono {w w':World} {s s':St} (hl:bI w s w' s'): ∀ (ts:List Ty) (x:an S.C ts) (vs:List Value),fy S w s ts x vs→fy S w' s' ts x vs
  | [],_,_,h=>h
  | _::ts,_,_,⟨v,r,h1,h2,h3⟩=>⟨v,r,h1,h2.mono S hl,fy.mono hl ts _ _ h3⟩
theorem dB {t u:Ty} {x:t.den S.C} {y:u.den S.C} (h:dL S t u x=some y): ∃ e:t=u,e▸x=y:=by
  unfold dL at h
  split at h
  · rename_i e; exact ⟨e,Option.some.inj h⟩
  · cases h
theorem aB.jG {t:Ty} {v:Value} (h:isAgg v=bg t) (ht:bg t=false):v.cells.toList= [v]:=by
  rw [ht] at h
  cases v <;> first | rfl | simp [isAgg] at h
theorem Tk.Ij {bx:Bx S.C} {b:Nat} {e:Ty} {l:List (e.den S.C)} (h:bx b=some (.arr e l)):Tk S bx (aq bx b (some (.bw e l))):=fun i=>by
  by_cases hi:i=b
  · subst hi; exact .inr (.inr ⟨e,l,h,aO _ _ _⟩)
  · exact .inl (aZ _ _ hi)
theorem Tk.rY {bx:Bx S.C} {b:Nat} (h:live S bx b):Tk S bx (aq bx b (some .dead)):=fun i=>by
  by_cases hi:i=b
  · subst hi; exact .inr (.inl ⟨aO _ _ _,h⟩)
  · exact .inl (aZ _ _ hi)
theorem Tk.cg (bx:Bx S.C) (v:V S.C):Tk S bx (av bx (cg S bx v)):=by
  cases v with
  | aM b=>
    unfold Sy.cg
    dsimp only
    split
    · rename_i e l hb; exact Tk.Ij hb
    · exact Tk.refl S bx
  | _=>exact Tk.refl S bx
theorem gG (bx:Bx S.C) (us vs:aH S.C):av bx (us++vs)=av (av bx us) vs:=by
  induction us generalizing bx with
  | nil=>rfl
  | cons u us ih=>exact ih _
theorem EF (bx ag:Bx S.C) (h: ∀ i,ag i=bx i∨ ∃ e l,bx i=some (.arr e l)∧ag i=some (.bw e l)) (v:V S.C):
    (∀ i,av ag (cg S bx v) i=bx i∨ ∃ e l,bx i=some (.arr e l)∧av ag (cg S bx v) i=some (.bw e l))∧Tk S ag (av ag (cg S bx v)):=by
  have mC:(∀ i,av ag [] i=bx i∨ ∃ e l,bx i=some (.arr e l)∧av ag [] i=some (.bw e l))∧Tk S ag (av ag []):=⟨h,Tk.refl S ag⟩
  cases v with
  | aM b=>
    unfold Sy.cg
    dsimp only
    split
    · rename_i e l hb
      refine ⟨fun i=> ?_,fun i=> ?_⟩ <;>
      · show _∨_
        by_cases hi:i=b
        · subst hi
          have e1:av ag [(i, .bw e l)] i=some (.bw e l):=aO _ _ _
          first
          | exact .inr ⟨e,l,hb,e1⟩
          | (rcases h i with h1 | ⟨e',l',h1,h2⟩
             · exact .inr (.inr ⟨e,l,h1.trans hb,e1⟩)
             · rw [hb] at h1
               cases h1
               exact .inl (e1.trans h2.symm))
        · have e1:av ag [(b, .bw e l)] i=ag i:=aZ _ _ hi
          first
          | (rw [e1]; exact h i)
          | exact .inl e1
    · exact mC
  | _=>exact mC
theorem tH (bx:Bx S.C): ∀ (vs:List (V S.C)) (ag:Bx S.C),(∀ i,ag i=bx i∨ ∃ e l,bx i=some (.arr e l)∧ag i=some (.bw e l))→
    (∀ i,av ag (vs.flatMap (cg S bx)) i=bx i∨ ∃ e l,bx i=some (.arr e l)∧av ag (vs.flatMap (cg S bx)) i=some (.bw e l))∧Tk S ag (av ag (vs.flatMap (cg S bx)))
  | [],ag,h=>⟨h,Tk.refl S ag⟩
  | v::vs,ag,h=>by
    simp only [List.flatMap_cons,gG]
    obtain ⟨h1,h2⟩:=EF bx ag h v
    obtain ⟨h3,h4⟩:=tH bx vs _ h1
    exact ⟨h3,h2.trans S h4⟩
end
end Go.Sy
namespace Go.Sy
section
variable {P:Program} {S:aP}
variable {w0:World} {M0 s0:St} {dq:List Deferred} {env:Env S.C} {a:Act} {w:World} {μ:Nat→Loc}
theorem Tk.di {bx ag:Bx S.C} (h:Tk S bx ag) {i:Nat} (hl:live S ag i):ag i=bx i:=by
 rcases h i with e | ⟨e,_⟩ | ⟨e,l,_,e'⟩
 · exact e
 · unfold live at hl; rw [e] at hl; exact hl.elim
 · unfold live at hl; rw [e'] at hl; exact hl.elim
theorem zZ (h:Inv P S w0 M0 s0 dq env a w μ) {bx:Bx S.C} (hk:Tk S env.bx bx) {b:Nat} {e:Ty} {l:List (e.den S.C)} (hb:bx b=some (.bw e l)) {v:Value}
 (hv:bq P S w (aE S w0 M0 s0 env.bx μ w) μ env.bx (.aM b) v): ∃ n,aB S w (bW S w0 M0 s0 env.bx bx μ w) n (.sl e) l [v]:=by
 have hl:=k7 S w0 M0 s0 env.bx bx μ w
 have key:(∃ n, ∀ (i:Nat) (x:e.den S.C),l[i]? =some x→ ∃ ds,ds.length=Ty.sz S e∧At w (bW S w0 M0 s0 env.bx bx μ w) (μ b).b ((μ b).o+i*Ty.sz S e) ds∧aB S w (bW S w0 M0 s0 env.bx bx μ w) n e x ds)→
  (∃ a cap,v= .slice a l.length cap∧mL (μ b) a l.length cap (Ty.sz S e))→ ∃ n,aB S w (bW S w0 M0 s0 env.bx bx μ w) n (.sl e) l [v]:=by
  rintro ⟨n,hel⟩ ⟨a,cap,rfl,ha⟩
  refine ⟨n+1,a,cap,rfl,ha.fits, ?_⟩
  by_cases hn:(μ b).nil=true
  · exact .inl (by have :=ha.isNil hn; have :=ha.iO; have :=ha.fits; show l.length=0; omega)
  · refine .inr ⟨(μ b).b,(μ b).o,by rw [ha.addr]; simp [hn],fun i x hi=> ?_⟩
    exact hel i x hi
 have bound:(∀ (i:Nat) (x:e.den S.C),l[i]? =some x→ ∃ ds,ds.length=Ty.sz S e∧At w (bW S w0 M0 s0 env.bx bx μ w) (μ b).b ((μ b).o+i*Ty.sz S e) ds∧ ∃ n,aB S w (bW S w0 M0 s0 env.bx bx μ w) n e x ds)→
  ∃ n, ∀ (i:Nat) (x:e.den S.C),l[i]? =some x→ ∃ ds,ds.length=Ty.sz S e∧At w (bW S w0 M0 s0 env.bx bx μ w) (μ b).b ((μ b).o+i*Ty.sz S e) ds∧aB S w (bW S w0 M0 s0 env.bx bx μ w) n e x ds:=by
  intro hall
  have : ∀ m,m≤l.length→ ∃ n, ∀ (i:Nat) (x:e.den S.C),i<m→l[i]? =some x→ ∃ ds,ds.length=Ty.sz S e∧At w (bW S w0 M0 s0 env.bx bx μ w) (μ b).b ((μ b).o+i*Ty.sz S e) ds∧aB S w (bW S w0 M0 s0 env.bx bx μ w) n e x ds:=by
   intro m
   induction m with
   | zero=>exact fun _=>⟨0,fun i x hi=>by omega⟩
   | succ m ih=>
    intro hm
    obtain ⟨n,hn⟩:=ih (by omega)
    obtain ⟨ds,h1,h2,n',h3⟩:=hall m l[m] (by simp)
    refine ⟨max n n',fun i x hi hx=> ?_⟩
    by_cases e:i=m
    · subst e
      have :x=l[i]:=by simpa [List.getElem?_eq_getElem (show i<l.length by omega)] using hx.symm
      subst this
      exact ⟨ds,h1,h2,h3.up S (by omega)⟩
    · obtain ⟨ds,h1,h2,h3⟩:=hn i x (by omega) hx
      exact ⟨ds,h1,h2,h3.up S (by omega)⟩
  obtain ⟨n,hn⟩:=this l.length (Nat.le_refl _)
  exact ⟨n,fun i x hx=>hn i x (List.getElem?_eq_some_iff.1 hx).1 hx⟩
 rcases hk b with e1 | ⟨e1,_⟩ | ⟨e',l',e1,e2⟩
 · rw [hb] at e1
   obtain ⟨_,_,h3⟩:=h.bL b _ e1.symm
   refine key (bound fun i x hi=> ?_) (hv.2 e l (.inr e1.symm))
   obtain ⟨ds,d1,d2,n,d3⟩:=h3 i x hi
   exact ⟨ds,d1,d2.later hl,n,d3.mono S hl (Nat.le_refl _)⟩
 · rw [hb] at e1; cases e1
 · rw [hb] at e2
   cases e2
   have bN:live S env.bx b:=by unfold live; rw [e1]; trivial
   obtain ⟨g1,g2,g3,g4,h3⟩:=h.bL b _ e1
   refine key (bound fun i x hi=> ?_) (hv.2 e l (.inl e1))
   obtain ⟨ds,d1,d2,n,d3⟩:=h3 i x hi
   refine ⟨ds,d1,fun j u hj=>⟨d2 j u hj, ?_⟩,n,d3.mono S hl (Nat.le_refl _)⟩
   have hj':=(List.getElem?_eq_some_iff.1 hj).1
   have qK:=(List.getElem?_eq_some_iff.1 hi).1
   have f_:(μ b).aD (μ b).b ((μ b).o+i*Ty.sz S e+j):=by
    refine ⟨rfl,by omega, ?_⟩
    have :(i+1)*Ty.sz S e≤(μ b).cap*Ty.sz S e:=Nat.mul_le_mul_right _ (by omega)
    rw [Nat.add_mul,Nat.one_mul] at this
    omega
   refine ⟨(jV P S (h.bL b) bN f_).1,(h.own b bN _ _ f_).elim (fun h=> .inr (.inr h)) (fun h=> .inr (.inl h)),fun k hk'=> ?_⟩
   by_cases ek:k=b
   · subst ek; exact .inl ⟨e,l,hb⟩
   · exact .inr fun hf=>h.cM k b ek hk' bN _ _ hf f_
theorem zg (h:Inv P S w0 M0 s0 dq env a w μ) {bx ag:Bx S.C} (hk:Tk S env.bx bx) (hk':Tk S bx ag) {t:Ty} (ht:bg t=false) {V:V S.C} {v:Value} {x:t.den S.C}
 (hf: ∀ b e (l:List (e.den S.C)),V= .aM b→bx b=some (.arr e l)→ag b=some (.bw e l))
 (hv:bq P S w (aE S w0 M0 s0 env.bx μ w) μ env.bx V v) (hx:cA S bx t V=some x): ∃ n,aB S w (bW S w0 M0 s0 env.bx ag μ w) n t x [v]:=by
 have hl:=k7 S w0 M0 s0 env.bx ag μ w
 have hd: ∀ (u:Ty) (y:u.den S.C),bU S w (aE S w0 M0 s0 env.bx μ w) u y v→dL S u t y=some x→ ∃ n,aB S w (bW S w0 M0 s0 env.bx ag μ w) n t x [v]:=by
  intro u y hr hc
  obtain ⟨rfl,rfl⟩:=dB hc
  obtain ⟨h1,n,hn⟩:=hr
  rw [aB.jG h1 ht] at hn
  exact ⟨n,hn.mono S hl (Nat.le_refl _)⟩
 cases V with
 | d u y=>exact hd u y hv hx
 | pr p i=>
  obtain ⟨rfl,rfl⟩:=dB hx
  cases hv
  exact ⟨1,rfl⟩
 | aW b e l=>exact hd (.sl e) l hv.1 hx
 | b8=>
  cases t with
  | sl e=>
   cases hx
   cases hv
   exact ⟨1,none,0,rfl,Nat.le_refl _, .inl rfl⟩
  | _=>cases hx
 | aM b=>
  have ok: ∀ (e:Ty) (l:List (e.den S.C)),ag b=some (.bw e l)→dL S (.sl e) t l=some x→ ∃ n,aB S w (bW S w0 M0 s0 env.bx ag μ w) n t x [v]:=by
   intro e l hb hc
   obtain ⟨rfl,rfl⟩:=dB hc
   exact zZ h (hk.trans S hk') hb hv
  simp only [cA] at hx
  split at hx
  · rename_i e l hb; exact ok e l (hf b e l rfl hb) hx
  · rename_i e l hb
    refine ok e l ?_ hx
    rcases hk' b with e1 | ⟨_,e1⟩ | ⟨_,_,e1,_⟩
    · exact e1.trans hb
    · unfold live at e1; rw [hb] at e1; exact e1.elim
    · rw [hb] at e1; cases e1
  · cases hx
 | _=>cases hx
theorem H6 (h:Inv P S w0 M0 s0 dq env a w μ) {bx ag:Bx S.C} (hk:Tk S env.bx bx) (hk':Tk S bx ag): ∀ (ts:List Ty) (hts:ts.all (fun t=> !bg t)=true) {vs:List (V S.C)} {cs:List Value} {x:an S.C ts},
 (∀ V ∈ vs.take ts.length, ∀ b e (l:List (e.den S.C)),V= .aM b→bx b=some (.arr e l)→ag b=some (.bw e l))→
 aF P S w (aE S w0 M0 s0 env.bx μ w) μ env.bx vs cs→fQ S bx ts vs=some x→
 ∃ n,bn S (fun t x cs=>aB S w (bW S w0 M0 s0 env.bx ag μ w) n t x cs) ts x (cs.take ts.length)
 | [],_,_,cs,_,_,_,_=>⟨0,by simp [bn]⟩
 | t::ts,hts,[],_,_,_,_,hx=>by simp [fQ] at hx
 | t::ts,hts,V::vs,cs,x,hf,⟨c,r,hcs,hv,hr⟩,hx=>by
  simp only [List.all_cons,Bool.and_eq_true,Bool.not_eq_true'] at hts
  simp only [fQ] at hx
  obtain ⟨y,hy,hx⟩:=Option.bind_eq_some_iff.1 hx
  obtain ⟨z,hz,hx⟩:=Option.bind_eq_some_iff.1 hx
  cases hx
  obtain ⟨n,hn⟩:=zg h hk hk' hts.1 (hf V (by simp)) hv hy
  obtain ⟨m,hm⟩:=H6 h hk hk' ts hts.2 (fun V hV=>hf V (by simp [hV])) hr hz
  refine ⟨max n m,c,r.take ts.length,by simp [hcs], ?_, ?_⟩
  · rw [show an.head (an.cons y z)=y from by cases ts <;> rfl]
    exact hn.up S (by omega)
  · rw [show an.tail (an.cons y z)=z from by cases ts <;> rfl]
    exact bn.mono S (fun t x cs hr=>hr.up S (by omega)) _ _ _ hm
theorem AQ (hS:cz S) (h:Inv P S w0 M0 s0 dq env a w μ) {bx ag:Bx S.C} (hk:Tk S env.bx bx) (hk':Tk S bx ag) {t:Ty} {vs:List (V S.C)} {cs:List Value} {x:t.den S.C}
 (hf: ∀ V ∈ vs.take (Ty.sz S t), ∀ b e (l:List (e.den S.C)),V= .aM b→bx b=some (.arr e l)→ag b=some (.bw e l))
 (hv:aF P S w (aE S w0 M0 s0 env.bx μ w) μ env.bx vs cs) (hx:ga S bx t vs=some x):
 ∃ n,aB S w (bW S w0 M0 s0 env.bx ag μ w) n t x (cs.take (Ty.sz S t)):=by
 have one:bg t=false→Ty.sz S t=1→(∃ V r,vs=V::r∧cA S bx t V=some x)→ ∃ n,aB S w (bW S w0 M0 s0 env.bx ag μ w) n t x (cs.take (Ty.sz S t)):=by
  rintro ht h1 ⟨V,vs',rfl,hx1⟩
  rw [h1]
  rw [h1] at hf
  obtain ⟨c,r,hcs,hv,hr⟩:=hv
  subst hcs
  exact zg h hk hk' ht (hf V (by simp)) hv hx1
 cases t with
 | st u=>
  simp only [ga] at hx
  obtain ⟨y,hy,hx⟩:=Option.bind_eq_some_iff.1 hx
  cases hx
  obtain ⟨n,hn⟩:=H6 h hk hk' (S.F u) (hS.flat u) hf hv hy
  refine ⟨n+1, ?_⟩
  show bn S _ (S.F u) (S.ex u (S.im u y)) _
  rw [hS.qx]
  exact hn
 | int k=>exact one rfl rfl (by cases vs with | nil=>cases hx | cons V r=>exact ⟨V,r,rfl,hx⟩)
 | bool=>exact one rfl rfl (by cases vs with | nil=>cases hx | cons V r=>exact ⟨V,r,rfl,hx⟩)
 | str=>exact one rfl rfl (by cases vs with | nil=>cases hx | cons V r=>exact ⟨V,r,rfl,hx⟩)
 | pt=>exact one rfl rfl (by cases vs with | nil=>cases hx | cons V r=>exact ⟨V,r,rfl,hx⟩)
 | sl e=>exact one rfl rfl (by cases vs with | nil=>cases hx | cons V r=>exact ⟨V,r,rfl,hx⟩)
theorem zX (bx eI:Bx S.C): ∀ (vs:List (V S.C)) (V:V S.C) (b:Nat) (e:Ty) (l:List (e.den S.C)),V ∈ vs→V= .aM b→bx b=some (.arr e l)→
 (∀ i,eI i=bx i∨ ∃ e l,bx i=some (.arr e l)∧eI i=some (.bw e l))→av eI (vs.flatMap (cg S bx)) b=some (.bw e l)
 | [],_,_,_,_,h,_,_,_=>by simp at h
 | W::vs,V,b,e,l,h,hV,hb,h0=>by
  simp only [List.flatMap_cons,gG]
  obtain ⟨h1,_⟩:=EF bx eI h0 W
  rcases List.mem_cons.1 h with rfl | h
  · subst hV
    have e1:av eI (cg S bx (.aM b)) b=some (.bw e l):=by
     simp only [Sy.cg,hb]
     exact aO _ _ _
    have :=(tH bx vs _ h1).1 b
    rcases this with e2 | ⟨e',l',e2,e3⟩
    · exfalso
      have :=(tH bx vs _ h1).2 b
      rw [e2,e1,hb] at this
      rcases this with h | ⟨h,_⟩ | ⟨_,_,h,_⟩ <;> cases h
    · rw [hb] at e2; cases e2; exact e3
  · exact zX bx _ vs V b e l h hV hb h1
theorem wD (hS:cz S) (h:Inv P S w0 M0 s0 dq env a w μ) {bx:Bx S.C} (hk:Tk S env.bx bx) {t:Ty} {V:V S.C} {v:Value} {x:t.den S.C}
 (hv:RV P S w (aE S w0 M0 s0 env.bx μ w) μ env.bx V v) (hx:datum S bx t V=some x):
 Tk S bx (av bx (cJ S bx V))∧bU S w (bW S w0 M0 s0 env.bx (av bx (cJ S bx V)) μ w) t x v:=by
 have hl:=k7 S w0 M0 s0 env.bx (av bx (cJ S bx V)) μ w
 have one: ∀ (W:Sy.V S.C),V=W→cJ S bx V=cg S bx W→bq P S w (aE S w0 M0 s0 env.bx μ w) μ env.bx W v→bg t=false→cA S bx t W=some x→
  Tk S bx (av bx (cJ S bx V))∧bU S w (bW S w0 M0 s0 env.bx (av bx (cJ S bx V)) μ w) t x v:=by
  intro W hW hfr hv ht hx
  have htk:Tk S bx (av bx (cJ S bx V)):=by rw [hfr]; exact Tk.cg bx W
  refine ⟨htk, ?_⟩
  obtain ⟨n,hn⟩:=zg h hk htk ht (fun b e l hm hb=>by
   rw [hfr]
   subst hm
   simp only [Sy.cg,hb]
   exact aO _ _ _) hv hx
  refine ⟨?_,n, ?_⟩
  · rw [ht]
    cases n with
    | zero=>exact hn.elim
    | succ n=>cases t with
     | int k=>simp [aB] at hn; subst hn; rfl
     | bool=>simp [aB] at hn; subst hn; rfl
     | str=>simp [aB] at hn; subst hn; rfl
     | pt=>simp [aB] at hn; subst hn; rfl
     | sl e=>obtain ⟨a,cap,h1,_⟩:=hn; simp at h1; subst h1; rfl
     | st u=>simp [bg] at ht
  · have :v.cells.toList= [v]:=by
     cases n with
     | zero=>exact hn.elim
     | succ n=>cases t with
      | int k=>simp [aB] at hn; subst hn; rfl
      | bool=>simp [aB] at hn; subst hn; rfl
      | str=>simp [aB] at hn; subst hn; rfl
      | pt=>simp [aB] at hn; subst hn; rfl
      | sl e=>obtain ⟨a,cap,h1,_⟩:=hn; simp at h1; subst h1; rfl
      | st u=>simp [bg] at ht
    rw [this]; exact hn
 cases V with
 | agg u vs=>
  obtain ⟨cs,rfl,hlen,_,hvs⟩:=hv
  cases t with
  | st u'=>
   simp only [datum] at hx
   split at hx
   · rename_i e
     subst e
     have hfz:=tH (S:=S) bx vs bx (fun i=> .inl rfl)
     obtain ⟨n,hn⟩:=AQ hS h hk hfz.2 (t:= .st u) (vs:=vs) (fun V hV b e l hm hb=>zX bx bx vs V b e l (List.mem_of_mem_take hV) hm hb (fun i=> .inl rfl)) hvs hx
     have hcl:=aF.length P S hvs
     refine ⟨hfz.2,rfl,n, ?_⟩
     rw [show Ty.sz S (.st u)=cs.toList.length from by show (S.F u).length=_; rw [hcl,hlen]] at hn
     rw [List.take_length] at hn
     exact hn
   · cases hx
  | _=>cases hx
 | d u y=>
  cases t with
  | st u'=>
   obtain ⟨rfl,rfl⟩:=dB (show dL S u (.st u') y=some x from hx)
   exact ⟨Tk.refl S bx,bU.mono S hl hv⟩
  | int k=>exact one _ rfl rfl hv rfl hx
  | bool=>exact one _ rfl rfl hv rfl hx
  | str=>exact one _ rfl rfl hv rfl hx
  | pt=>exact one _ rfl rfl hv rfl hx
  | sl e=>exact one _ rfl rfl hv rfl hx
 | gm vs=>cases t <;> simp [datum,cA] at hx
 | ey f vs=>cases t <;> simp [datum,cA] at hx
 | undef=>cases t <;> simp [datum,cA] at hx
 | skip=>cases t <;> simp [datum,cA] at hx
 | pre b n=>cases t <;> simp [datum,cA] at hx
 | split b c=>cases t <;> simp [datum,cA] at hx
 | jY c=>cases t <;> simp [datum,cA] at hx
 | win b i n=>cases t <;> simp [datum,cA] at hx
 | pr p i=>cases t with
  | st u'=>cases hx
  | _=>exact one _ rfl rfl hv rfl hx
 | aW b e l=>cases t with
  | st u'=>cases hx
  | _=>exact one _ rfl rfl hv rfl hx
 | aM b=>cases t with
  | st u'=>cases hx
  | _=>exact one _ rfl rfl hv rfl hx
 | ptr b o=>cases t <;> simp [datum,cA] at hx
 | bX b n=>cases t <;> simp [datum,cA] at hx
 | err b=>cases t <;> simp [datum,cA] at hx
 | dY b i o=>cases t <;> simp [datum,cA] at hx
 | cN t' y=>cases t <;> simp [datum,cA] at hx
 | nil=>cases t <;> simp [datum,cA] at hx
 | b8=>cases t with
  | st u'=>cases hx
  | _=>exact one _ rfl rfl hv rfl hx
 | fv a r g=>cases t <;> simp [datum,cA] at hx
end
end Go.Sy
namespace Go.Sy
section
variable {P:Program} {S:aP}
variable {w0:World} {M0 s0:St} {dq:List Deferred} {env:Env S.C} {a:Act} {w:World} {μ:Nat→Loc}
def bT (S:aP) (env:Env S.C) (μ:Nat→Loc) (bx ag:Bx S.C) (M:St):Prop:=
 ∀ b o,M b o→ ∃ i,live S env.bx i∧live S bx i∧ag i=some .dead∧(μ i).aD b o
theorem bT.none {bx ag:Bx S.C} {M:St} (h:fS M):bT S env μ bx ag M:=fun b o hm=>(h b o hm).elim
theorem ng {bx ag:Bx S.C} (h:Tk S bx ag) {i:Nat} (hd:bx i=some .dead):ag i=some .dead:=by
 rcases h i with e | ⟨e,_⟩ | ⟨e,l,e1,_⟩
 · exact e.trans hd
 · exact e
 · rw [hd] at e1; cases e1
theorem bT.later {bx ag gK:Bx S.C} {M:St} (h:bT S env μ bx ag M) (hk:Tk S ag gK):bT S env μ bx gK M:=
 fun b o hm=>let ⟨i,h1,h2,h3,h4⟩:=h b o hm; ⟨i,h1,h2,ng hk h3,h4⟩
theorem bT.D3 {bx ag gK:Bx S.C} {M:St} (h:bT S env μ ag gK M) (hk:Tk S bx ag):bT S env μ bx gK M:=
 fun b o hm=>let ⟨i,h1,h2,h3,h4⟩:=h b o hm; ⟨i,h1,(dF S (hk.di h2)).1 h2,h3,h4⟩
theorem bT.apart (h:Inv P S w0 M0 s0 dq env a w μ) {bx ag gK:Bx S.C} {M M':St} (h1:bT S env μ bx ag M) (h2:bT S env μ ag gK M'): ∀ b o,M b o→M' b o→False:=by
 intro b o hm hm'
 obtain ⟨i,a1,a2,a3,a4⟩:=h1 b o hm
 obtain ⟨j,b1,b2,b3,b4⟩:=h2 b o hm'
 refine h.cM i j (fun e=> ?_) a1 b1 b o a4 b4
 subst e
 unfold live at b2
 rw [a3] at b2
 exact b2
theorem bT.union {bx ag gK:Bx S.C} {M M':St} (h1:bT S env μ bx ag M) (h2:bT S env μ ag gK M') (hk:Tk S bx ag) (hk':Tk S ag gK):bT S env μ bx gK (fun b o=>M b o∨M' b o):=
 fun b o hm=>hm.elim (h1.later hk' b o) (h2.D3 hk b o)
theorem HK (hS:cz S) (h:Inv P S w0 M0 s0 dq env a w μ) {bx:Bx S.C} (hk:Tk S env.bx bx) {c:CK} {vs:List (V S.C)} {cs:List Value} {x:c.den S.C} {us:aH S.C}
 (hv:aF P S w (aE S w0 M0 s0 env.bx μ w) μ env.bx vs cs) (hx:dn S bx c vs=some (x,us)):
 Tk S bx (av bx us)∧ ∃ M,jy S w (bW S w0 M0 s0 env.bx (av bx us) μ w) M c x (cs.take (CK.sz S c))∧bT S env μ bx (av bx us) M∧(cs.take (CK.sz S c)).length=CK.sz S c:=by
 cases c with
 | data t=>
  simp only [dn] at hx
  obtain ⟨y,hy,hx⟩:=Option.bind_eq_some_iff.1 hx
  cases hx
  have hfz:=tH (S:=S) bx (vs.take (Ty.sz S t)) bx (fun i=> .inl rfl)
  obtain ⟨n,hn⟩:=AQ hS h hk hfz.2 (fun V hV b e l hm hb=>zX bx bx _ V b e l hV hm hb (fun i=> .inl rfl)) hv hy
  exact ⟨hfz.2,fun _ _=>False,⟨fun _ _ h=>h,n,hn⟩,bT.none (fun _ _ h=>h),hn.length⟩
 | aW e=>
  simp only [dn] at hx
  split at hx
  · rename_i b e' l r
    split at hx
    · rename_i hb
      obtain ⟨y,hy,hx⟩:=Option.bind_eq_some_iff.1 hx
      cases hx
      obtain ⟨he,rfl⟩:=dB hy
      cases he
      obtain ⟨c,r',rfl,hv1,fe⟩:=hv
      have hlb:live S bx b:=by unfold live; rw [hb]; trivial
      have hb0:env.bx b=some .tail:=(hk.di hlb).symm.trans hb
      have htk:Tk S bx (av bx [(b, .dead)]):=Tk.rY hlb
      obtain ⟨a',cap,rfl,t_⟩:=hv1.2 hb0
      obtain ⟨_,n,hn⟩:=hv1.1
      refine ⟨htk,(μ b).aD,⟨a',cap,μ b,rfl,⟨n,hn.mono S (k7 S w0 M0 s0 env.bx _ μ w) (Nat.le_refl _)⟩,t_,h.bL b _ hb0,fun _ _=>Iff.rfl⟩,fun b' o hm=>⟨b,(dF S (hk.di hlb)).1 hlb,hlb,aO _ _ _,hm⟩,rfl⟩
    · cases hx
  · rename_i r
    cases hx
    obtain ⟨c,r',rfl,hv1,fe⟩:=hv
    cases hv1
    exact ⟨Tk.refl S bx,fun _ _=>False,⟨none,0,⟨0,0,0,0,true⟩,rfl,⟨1,none,0,rfl,Nat.le_refl _, .inl rfl⟩, .inl ⟨rfl,rfl,rfl⟩,fun j hj=>absurd hj (Nat.not_lt_zero j),fun b o=>⟨fun h=>h.elim,fun h=>by have h1:=h.2.1; have h2:=h.2.2; simp at h2⟩⟩,bT.none (fun _ _ h=>h),rfl⟩
  · cases hx
 | aM e=>
  simp only [dn] at hx
  split at hx
  · rename_i b r
    split at hx
    · rename_i e' l hb
      obtain ⟨y,hy,hx⟩:=Option.bind_eq_some_iff.1 hx
      cases hx
      obtain ⟨he,rfl⟩:=dB hy
      cases he
      obtain ⟨c,r',rfl,hv1,fe⟩:=hv
      have hlb:live S bx b:=by unfold live; rw [hb]; trivial
      have hb0:env.bx b=some (.arr e l):=(hk.di hlb).symm.trans hb
      have htk:Tk S bx (av bx [(b, .dead)]):=Tk.rY hlb
      obtain ⟨a',cap,rfl,hao⟩:=hv1.2 e l (.inl hb0)
      obtain ⟨g1,g2,g3,g4,g5⟩:=h.bL b _ hb0
      refine ⟨htk,(μ b).aD,⟨a',cap,μ b,rfl,hao,g4,fun _ _=>Iff.rfl,fun i z hi=> ?_⟩,fun b' o hm=>⟨b,(dF S (hk.di hlb)).1 hlb,hlb,aO _ _ _,hm⟩,rfl⟩
      obtain ⟨ds,d1,d2,n,d3⟩:=g5 i z hi
      exact ⟨ds,d1,d2,n,d3.mono S (k7 S w0 M0 s0 env.bx _ μ w) (Nat.le_refl _)⟩
    · cases hx
  · rename_i b n r
    split at hx
    · rename_i e' l hb
      obtain ⟨y,hy,hx⟩:=Option.bind_eq_some_iff.1 hx
      cases hx
      obtain ⟨he,rfl⟩:=dB hy
      cases he
      obtain ⟨c,r',rfl,hv1,fe⟩:=hv
      have hlb:live S bx b:=by unfold live; rw [hb]; trivial
      have hb0:env.bx b=some (.arr e l):=(hk.di hlb).symm.trans hb
      have htk:Tk S bx (av bx [(b, .dead)]):=Tk.rY hlb
      obtain ⟨hn0,hnl,a',cap,rfl,hao⟩:=hv1.2 e l hb0
      obtain ⟨g1,g2,g3,g4,g5⟩:=h.bL b _ hb0
      have hlen:(List.take n.toNat l).length=n.toNat:=by rw [List.length_take]; omega
      refine ⟨htk,(μ b).aD,⟨a',cap,μ b, ?_, ?_,g4,fun _ _=>Iff.rfl,fun i z hi=> ?_⟩,fun b' o hm=>⟨b,(dF S (hk.di hlb)).1 hlb,hlb,aO _ _ _,hm⟩,rfl⟩
      · show [_]= [_]
        rw [hlen]
      · rw [hlen]; exact hao
      · have hi':l[i]? =some z:=by
         rw [List.getElem?_take] at hi
         split at hi
         · exact hi
         · cases hi
        obtain ⟨ds,d1,d2,n,d3⟩:=g5 i z hi'
        exact ⟨ds,d1,d2,n,d3.mono S (k7 S w0 M0 s0 env.bx _ μ w) (Nat.le_refl _)⟩
    · cases hx
  · rename_i r
    cases hx
    obtain ⟨c,r',rfl,hv1,fe⟩:=hv
    cases hv1
    exact ⟨Tk.refl S bx,fun _ _=>False,⟨none,0,⟨0,0,0,0,true⟩,rfl,⟨rfl,rfl,by simp,fun _=>rfl,Nat.le_refl _⟩,fun j hj=>absurd hj (Nat.not_lt_zero j),fun b o=>⟨fun h=>h.elim,fun h=>by have h1:=h.2.1; have h2:=h.2.2; simp at h2⟩,fun i x hi=>by simp at hi⟩,bT.none (fun _ _ h=>h),rfl⟩
  · cases hx
theorem HL (hS:cz S) (h:Inv P S w0 M0 s0 dq env a w μ): ∀ (ps:List CK) {bx:Bx S.C} (hk:Tk S env.bx bx) {vs:List (V S.C)} {cs:List Value} {x:bp S.C ps} {us:aH S.C},
 aF P S w (aE S w0 M0 s0 env.bx μ w) μ env.bx vs cs→cY S bx ps vs=some (x,us)→
 Tk S bx (av bx us)∧ ∃ M,fR S w (bW S w0 M0 s0 env.bx (av bx us) μ w) M ps x (cs.take (CK.bV S ps))∧bT S env μ bx (av bx us) M∧(cs.take (CK.bV S ps)).length=CK.bV S ps
 | [],bx,hk,vs,cs,x,us,hv,hx=>by
  cases hx
  exact ⟨Tk.refl S bx,fun _ _=>False,⟨fun _ _ h=>h,by simp [CK.bV]⟩,bT.none (fun _ _ h=>h),by simp [CK.bV]⟩
 | c::ps,bx,hk,vs,cs,x,us,hv,hx=>by
  simp only [cY] at hx
  obtain ⟨⟨y,u1⟩,hy,hx⟩:=Option.bind_eq_some_iff.1 hx
  obtain ⟨⟨z,u2⟩,hz,hx⟩:=Option.bind_eq_some_iff.1 hx
  cases hx
  obtain ⟨k1,M1,r1,f1,n1⟩:=HK hS h hk hv hy
  obtain ⟨k2,M2,r2,f2,n2⟩:=HL hS h ps (hk.trans S k1) (hv.drop P S (CK.sz S c)) hz
  dsimp only at *
  rw [gG]
  refine ⟨k1.trans S k2,fun b o=>M1 b o∨M2 b o,⟨M1,M2,cs.take (CK.sz S c),(cs.drop (CK.sz S c)).take (CK.bV S ps),⟨fun _ _=>Iff.rfl,bT.apart h f1 f2⟩, ?_,n1, ?_, ?_⟩,bT.union f1 f2 k1 k2, ?_⟩
  · rw [CK.bV,List.take_add]
  · rw [show bp.head (bp.cons y z)=y from by cases ps <;> rfl]
    exact r1.mono S (rT S k2)
  · rw [show bp.tail (bp.cons y z)=z from by cases ps <;> rfl]
    exact r2
  · rw [CK.bV,List.take_add,List.length_append,n1,n2]
theorem k8 {w:World} {b o n o' n':Nat} (h:w.there b o n) (h1:o≤o') (h2:o'+n'≤o+n):w.there b o' n':=fun j hj=>by
 have :=h (o' - o+j) (by omega)
 rw [show o+(o' - o+j)=o'+j from by omega] at this
 exact this
theorem GF {w:World} {b o:Nat} {cs:List Value} (h:w.rangeAt b o cs) (k:Nat):w.rangeAt b (o+k) (cs.drop k):=fun j v hj=>by
 rw [Nat.add_assoc]
 exact h (k+j) v (by simpa using hj)
theorem GI {w:World} {b o:Nat} {cs:List Value} (h:w.rangeAt b o cs) (k:Nat):w.rangeAt b o (cs.take k):=fun j v hj=>by
 rw [List.getElem?_take] at hj
 split at hj
 · exact h j v hj
 · cases hj
theorem Bf (hS:cz S) (h:Inv P S w0 M0 s0 dq env a w μ) {bx:Bx S.C} (hk:Tk S env.bx bx) {b off:Nat} {ws:List (V S.C)} (hb:bx b=some (.cells ws)) {ps:List CK} {x:bp S.C ps} {us:aH S.C} {v:Value}
 (hv:bq P S w (aE S w0 M0 s0 env.bx μ w) μ env.bx (.ptr b off) v) (hx:cY S (aq bx b (some .dead)) ps (ws.drop off)=some (x,us)):
 Tk S bx (av bx ((b, .dead)::us))∧ ∃ M,dy S w (bW S w0 M0 s0 env.bx (av bx ((b, .dead)::us)) μ w) M ps x v∧bT S env μ bx (av bx ((b, .dead)::us)) M:=by
 have hlb:live S bx b:=by unfold live; rw [hb]; trivial
 have hb0:env.bx b=some (.cells ws):=(hk.di hlb).symm.trans hb
 have hl0:live S env.bx b:=(dF S (hk.di hlb)).1 hlb
 have k1:Tk S bx (aq bx b (some .dead)):=Tk.rY hlb
 obtain ⟨g1,g2,g3,cs,g4,g5⟩:=h.bL b _ hb0
 obtain ⟨k2,M2,r2,f2,n2⟩:=HL hS h ps (hk.trans S k1) (g5.drop P S off) hx
 have uh:v=_:=hv
 subst uh
 have hlen:=aF.length P S g5
 have hsz:off+CK.bV S ps≤cs.length∨CK.bV S ps=0:=by
  rw [List.length_take,List.length_drop] at n2
  omega
 refine ⟨k1.trans S k2,fun b' o'=>(b'=(μ b).b∧(μ b).o+off≤o'∧o'<(μ b).o+off+((cs.drop off).take (CK.bV S ps)).length)∨M2 b' o',⟨_,_,(cs.drop off).take (CK.bV S ps),M2,rfl, ?_,GI (GF g4 off) _,⟨fun _ _=>Iff.rfl, ?_⟩,r2⟩, ?_⟩
 · rcases hsz with hsz | hsz
   · exact k8 g3 (by omega) (by rw [n2]; omega)
   · intro j hj; rw [n2,hsz] at hj; exact absurd hj (Nat.not_lt_zero _)
 · rintro b' o' ⟨rfl,h1,h2⟩ hm
   obtain ⟨i,a1,a2,a3,a4⟩:=f2 _ _ hm
   refine h.cM b i (fun e=> ?_) hl0 a1 _ _ ⟨rfl,by omega, ?_⟩ a4
   · subst e
     unfold live at a2
     rw [aO] at a2
     exact a2
   · rw [n2] at h2
     rcases hsz with hsz | hsz <;> omega
 · rintro b' o' (⟨rfl,h1,h2⟩ | hm)
   · refine ⟨b,hl0,hlb,ng k2 (aO _ _ _),rfl,by omega, ?_⟩
     rw [n2] at h2
     rcases hsz with hsz | hsz <;> omega
   · exact f2.D3 k1 _ _ hm
theorem Dr (hS:cz S) (h:Inv P S w0 M0 s0 dq env a w μ) {bx:Bx S.C} (hk:Tk S env.bx bx) {t:Ty} {V:V S.C} {v:Value} {x:t.den S.C}
 (hv:bq P S w (aE S w0 M0 s0 env.bx μ w) μ env.bx V v) (hx:ku S bx t V=some x):kn S w (bW S w0 M0 s0 env.bx bx μ w) t x v:=by
 have hl:=k7 S w0 M0 s0 env.bx bx μ w
 cases V with
 | ptr b off=>
  cases off with
  | succ n=>cases hx
  | zero=>
   simp only [ku] at hx
   split at hx
   · rename_i ws hb
     have hb0:env.bx b=some (.bG ws):=by
      rcases hk b with e | ⟨e,_⟩ | ⟨e,l,_,e1⟩
      · exact e.symm.trans hb
      · rw [hb] at e; cases e
      · rw [hb] at e1; cases e1
     obtain ⟨g1,cs,g2,g3⟩:=h.bL b _ hb0
     have uh:v=_:=hv
     subst uh
     cases hnm:ws.all (Gg S) with
     | false=>rw [hnm] at hx; cases hx
     | true=>
     rw [hnm] at hx
     obtain ⟨n,hn⟩:=AQ hS h hk (Tk.refl S bx) (t:=t) (vs:=ws) (fun V hV b' e l hm hb'=>by
      have :=(List.all_eq_true.1 hnm) V (List.mem_of_mem_take hV)
      subst hm
      cases this) g3 hx
     refine ⟨_,_,cs.take (Ty.sz S t),rfl,fun j u hj=> ?_,hn.length,n,hn⟩
     rw [List.getElem?_take] at hj
     split at hj
     · have :=(g2.later hl) j u hj
       simpa using this
     · cases hj
   · cases hx
 | cN u y=>
  obtain ⟨rfl,rfl⟩:=dB (show dL S u t y=some x from hx)
  exact kn.mono S hl hv
 | _=>cases hx
theorem zk (hS:cz S) (h:Inv P S w0 M0 s0 dq env a w μ) {bx:Bx S.C} (hk:Tk S env.bx bx): ∀ (ts:List Ty) {vs:List (V S.C)} {cs:List Value} {x:an S.C ts},
 aF P S w (aE S w0 M0 s0 env.bx μ w) μ env.bx vs cs→caps S bx ts vs=some x→fy S w (bW S w0 M0 s0 env.bx bx μ w) ts x cs
 | [],[],cs,x,hv,_=>hv
 | [],_::_,_,_,_,hx=>by cases hx
 | _::_,[],_,_,_,hx=>by cases hx
 | t::ts,V::vs,cs,x,⟨c,r,hcs,h1,h2⟩,hx=>by
  simp only [caps] at hx
  obtain ⟨y,hy,hx⟩:=Option.bind_eq_some_iff.1 hx
  obtain ⟨z,hz,hx⟩:=Option.bind_eq_some_iff.1 hx
  cases hx
  refine ⟨c,r,hcs, ?_, ?_⟩
  · rw [show an.head (an.cons y z)=y from by cases ts <;> rfl]
    exact Dr hS h hk h1 hy
  · rw [show an.tail (an.cons y z)=z from by cases ts <;> rfl]
    exact zk hS h hk ts h2 hz
theorem LX (hS:cz S) (h:Inv P S w0 M0 s0 dq env a w μ) {bx:Bx S.C} (hk:Tk S env.bx bx) {fs:List (fA S)} (lP: ∀ e ∈ fs,fB P S e) {A R:List Ty} {V:V S.C} {v:Value} {g:an S.C A→Option (an S.C R)}
 (hv:RV P S w (aE S w0 M0 s0 env.bx μ w) μ env.bx V v) (hx:oH S fs bx A R V=some g):ki P S w (bW S w0 M0 s0 env.bx bx μ w) A R g v:=by
 have hl:=k7 S w0 M0 s0 env.bx bx μ w
 cases V with
 | fv A' R' g'=>
  simp only [oH] at hx
  split at hx
  · rename_i e1
    split at hx
    · rename_i e2
      subst e1 e2
      cases hx
      exact ki.mono P S hl hv
    · cases hx
  · cases hx
 | ey f vs=>
  obtain ⟨cs,rfl,hvs⟩:=hv
  simp only [oH] at hx
  obtain ⟨e,he,hx1⟩:=List.exists_of_findSome?_eq_some hx
  clear hx
  split at hx1
  · rename_i ef
    split at hx1
    · rename_i e1
      split at hx1
      · rename_i e2
        obtain ⟨y,hy,hx2⟩:=Option.bind_eq_some_iff.1 hx1
        clear hx1
        obtain ⟨f',A',c',R',sp⟩:=e
        dsimp only at *
        subst ef e1 e2
        have hx3:=Option.some.inj hx2
        subst hx3
        have wW:=zk hS h hk _ hvs hy
        refine ⟨f', #[],cs,rfl,(lP _ he).1,fun w1 s1 bR z7 x args z hargs hg=> ?_⟩
        have :=(lP _ he).2 w1 s1 x y z args cs.toList z7 hargs (fy.mono bR _ _ _ wW) hg
        rw [show #[]++args.toArray++cs=(args++cs.toList).toArray from by simp]
        exact this
      · cases hx1
    · cases hx1
  · cases hx1
 | _=>cases hx
theorem HR (hS:cz S) (h:Inv P S w0 M0 s0 dq env a w μ) {bx:Bx S.C} (hk:Tk S env.bx bx) {ps:List CK} {b:Nat} {x:bp S.C ps} {us:aH S.C} (hx:eY S bx ps b=some (x,us)):
 Tk S bx (av bx us)∧ ∃ M,dy S w (bW S w0 M0 s0 env.bx (av bx us) μ w) M ps x (.pointer (some ⟨(μ b).b,(μ b).o,none⟩))∧bT S env μ bx (av bx us) M:=by
 unfold eY at hx
 split at hx
 · rename_i ws hb
   cases hw:Nat.beq ws.length (CK.bV S ps) with
   | false=>rw [hw] at hx; cases hx
   | true=>
    rw [hw,cond_true] at hx
    obtain ⟨⟨y,u'⟩,hy,hx⟩:=Option.bind_eq_some_iff.1 hx
    cases hx
    exact Bf hS h hk hb (show bq P S w (aE S w0 M0 s0 env.bx μ w) μ env.bx (.ptr b 0) _ from rfl) hy
 · cases hx
theorem RR (hS:cz S) (h:Inv P S w0 M0 s0 dq env a w μ) {bx:Bx S.C} (hk:Tk S env.bx bx) {fs:List (fA S)} (lP: ∀ e ∈ fs,fB P S e) {k:K} {V:V S.C} {v:Value} {x:k.den S.C} {us:aH S.C}
 (hv:RV P S w (aE S w0 M0 s0 env.bx μ w) μ env.bx V v) (hx:bQ S fs bx k V=some (x,us)):
 Tk S bx (av bx us)∧ ∃ M,kj P S w (bW S w0 M0 s0 env.bx (av bx us) μ w) M k x v∧bT S env μ bx (av bx us) M:=by
 have ck: ∀ (c:CK),(∀ t,c≠ .data t)→CK.sz S c=1→ ∀ (y:c.den S.C),dn S bx c [V]=some (y,us)→Tk S bx (av bx us)∧ ∃ M,(jy S w (bW S w0 M0 s0 env.bx (av bx us) μ w) M c y v.cells.toList∧isAgg v=false)∧bT S env μ bx (av bx us) M:=by
  intro c hc h1 y hy
  have hv1:bq P S w (aE S w0 M0 s0 env.bx μ w) μ env.bx V v:=by
   cases V with
   | agg u ws=>cases c <;> first | exact absurd rfl (hc _) | cases hy
   | gm ws=>cases c <;> first | exact absurd rfl (hc _) | cases hy
   | ey f ws=>cases c <;> first | exact absurd rfl (hc _) | cases hy
   | _=>exact hv
  obtain ⟨k1,M,r1,f1,n1⟩:=HK hS h hk (vs:= [V]) (cs:= [v]) ⟨v,[],rfl,hv1,rfl⟩ hy
  rw [h1] at r1
  have hag:isAgg v=false:=by
   cases c with
   | data t=>exact absurd rfl (hc t)
   | aW e=>obtain ⟨a',cap,L,he,_⟩:=r1; simp at he; subst he; rfl
   | aM e=>obtain ⟨a',cap,L,he,_⟩:=r1; simp at he; subst he; rfl
  refine ⟨k1,M,⟨?_,hag⟩,f1⟩
  rw [aB.jG (t:= .bool) (by rw [hag]; rfl) rfl]
  exact r1
 have obj: ∀ (ps:List CK) (b off:Nat) (ws:List (Sy.V S.C)) (y:bp S.C ps) (us':aH S.C),V= .ptr b off→bx b=some (.cells ws)→cY S (aq bx b (some .dead)) ps (ws.drop off)=some (y,us')→us=(b, .dead)::us'→
  Tk S bx (av bx us)∧ ∃ M,dy S w (bW S w0 M0 s0 env.bx (av bx us) μ w) M ps y v∧bT S env μ bx (av bx us) M:=by
  intro ps b off ws y us' hV hb hy hu
  subst hV hu
  exact Bf hS h hk hb hv hy
 cases k with
 | val c=>
  cases c with
  | data t=>
   simp only [bQ] at hx
   obtain ⟨y,hy,hx⟩:=Option.bind_eq_some_iff.1 hx
   cases hx
   obtain ⟨k1,r1⟩:=wD hS h hk hv hy
   exact ⟨k1,fun _ _=>False,⟨⟨fun _ _ h=>h,r1.2⟩,r1.1⟩,bT.none (fun _ _ h=>h)⟩
  | aW e=>exact ck (.aW e) (by simp) rfl x hx
  | aM e=>exact ck (.aM e) (by simp) rfl x hx
 | obj ps=>
  simp only [bQ] at hx
  split at hx
  · split at hx
    · rename_i b off _ ws hb
      cases hw:Nat.beq off 0&&Nat.beq ws.length (CK.bV S ps) with
      | false=>rw [hw] at hx; cases hx
      | true=>
       rw [hw,cond_true] at hx
       obtain ⟨⟨y,u'⟩,hy,hx⟩:=Option.bind_eq_some_iff.1 hx
       cases hx
       exact obj ps _ _ _ _ _ rfl hb hy rfl
    · cases hx
  · cases hx
 | opt ps=>
  simp only [bQ] at hx
  split at hx
  · cases hx
    exact ⟨Tk.refl S bx,fun _ _=>False,⟨fun _ _ h=>h,hv⟩,bT.none (fun _ _ h=>h)⟩
  · split at hx
    · rename_i b off _ ws hb
      cases hw:Nat.beq off 0&&Nat.beq ws.length (CK.bV S ps) with
      | false=>rw [hw] at hx; cases hx
      | true=>
       rw [hw,cond_true] at hx
       obtain ⟨⟨y,u'⟩,hy,hx⟩:=Option.bind_eq_some_iff.1 hx
       cases hx
       exact obj ps _ _ _ _ _ rfl hb hy rfl
    · cases hx
  · cases hx
 | bX ps=>
  simp only [bQ] at hx
  split at hx
  · split at hx
    · rename_i b n _ ws hb
      cases hw:Nat.beq n ws.length&&Nat.beq ws.length (CK.bV S ps) with
      | false=>rw [hw] at hx; cases hx
      | true=>
       rw [hw,cond_true] at hx
       rw [Bool.and_eq_true] at hw
       have w1:=Nat.eq_of_beq_eq_true hw.1
       have w2:=Nat.eq_of_beq_eq_true hw.2
       obtain ⟨⟨y,u'⟩,hy,hx⟩:=Option.bind_eq_some_iff.1 hx
       cases hx
       have hv:v= .slice (some ⟨(μ b).b,(μ b).o,none⟩) n n:=hv
       obtain ⟨k1,M,r1,f1⟩:=Bf hS h hk (v:= .pointer (some ⟨(μ b).b,(μ b).o,none⟩)) hb (show bq P S w (aE S w0 M0 s0 env.bx μ w) μ env.bx (.ptr b 0) _ from rfl) hy
       exact ⟨k1,M,⟨_,by rw [hv,w1,w2],r1⟩,f1⟩
    · cases hx
  · cases hx
 | err=>
  simp only [bQ] at hx
  split at hx
  · cases hx
    exact ⟨Tk.refl S bx,fun _ _=>False,⟨fun _ _ h=>h,hv⟩,bT.none (fun _ _ h=>h)⟩
  · cases hx
 | aV=>
  simp only [bQ] at hx
  split at hx
  · split at hx
    · split at hx
      · rename_i b off _ j hb _ l hj
        cases hw:Nat.beq off 0 with
        | false=>rw [hw] at hx; cases hx
        | true=>
         rw [hw] at hx
         cases hx
         have ho:=Nat.eq_of_beq_eq_true hw
         subst ho
         have hne:j≠b:=fun e=>by subst e; rw [hb] at hj; cases hj
         have lb:live S bx b:=by unfold live; rw [hb]; trivial
         have lj:live S bx j:=by unfold live; rw [hj]; trivial
         have hb0:env.bx b=some (.aV j):=(hk.di lb).symm.trans hb
         have hj0:env.bx j=some (.buf x):=(hk.di lj).symm.trans hj
         have FW:live S env.bx b:=(dF S (hk.di lb)).1 lb
         have F6:live S env.bx j:=(dF S (hk.di lj)).1 lj
         obtain ⟨g1,g2,g3,u,g4,g5⟩:=h.bL b _ hb0
         have gj:kg S w (μ j) x:=h.bL j _ hj0
         have hv:v= .pointer (some ⟨(μ b).b,(μ b).o+0,none⟩):=hv
         have k1:Tk S bx (aq bx b (some .dead)):=Tk.rY lb
         have ON:live S (aq bx b (some .dead)) j:=by unfold live; rw [aZ _ _ hne,hj]; trivial
         have k2:Tk S (aq bx b (some .dead)) (aq (aq bx b (some .dead)) j (some .dead)):=Tk.rY ON
         have fb: ∀ b' o',(Loc.mk (μ b).b 0 2 0 false).aD b' o'→(μ b).aD b' o':=fun b' o' ⟨q1,q2,q3⟩=>⟨q1,by omega,by have :o'<0+2:=q3; omega⟩
         refine ⟨k1.trans S k2,fun b' o'=>(Loc.mk (μ b).b 0 2 0 false).aD b' o'∨(μ j).aD b' o',⟨(μ b).b,μ j,by rw [hv,g1],g5 _ hj0▸g4,gj,fun _ _=>Iff.rfl,fun b' o' q1 q2=>h.cM j b hne F6 FW _ _ q2 (fb _ _ q1)⟩, ?_⟩
         rintro b' o' (q | q)
         · exact ⟨b,FW,lb,(aZ _ _ hne.symm).trans (aO _ _ _),fb _ _ q⟩
         · exact ⟨j,F6,lj,aO _ _ _,q⟩
      · cases hx
    · cases hx
  · cases hx
 | nil=>
  simp only [bQ] at hx
  split at hx
  · cases hx
    exact ⟨Tk.refl S bx,fun _ _=>False,⟨fun _ _ h=>h,hv⟩,bT.none (fun _ _ h=>h)⟩
  · cases hx
 | bJ t ps=>
  simp only [bQ] at hx
  split at hx
  · rename_i b c
    obtain ⟨⟨y,u1⟩,hy,hx⟩:=Option.bind_eq_some_iff.1 hx
    obtain ⟨⟨z,u2⟩,hz,hx⟩:=Option.bind_eq_some_iff.1 hx
    cases hx
    obtain ⟨kb,q,e1,e2,e3,e4⟩:=hv
    obtain ⟨k1,M1,r1,f1⟩:=HR hS h hk hy
    obtain ⟨k2,M2,r2,f2⟩:=HR hS h (hk.trans S k1) hz
    dsimp only at *
    rw [gG]
    rw [e3,e4] at r2
    exact ⟨k1.trans S k2,fun b o=>M1 b o∨M2 b o,⟨kb,q,⟨(μ c).b,(μ c).o,none⟩,M1,M2,e1,e2.later (k7 S _ _ _ _ _ _ _),⟨fun _ _=>Iff.rfl,bT.apart h f1 f2⟩,dy.mono S (rT S k2) r1,r2⟩,bT.union f1 f2 k1 k2⟩
  · cases hx
 | ro t=>
  simp only [bQ] at hx
  obtain ⟨y,hy,hx⟩:=Option.bind_eq_some_iff.1 hx
  cases hx
  have hv1:bq P S w (aE S w0 M0 s0 env.bx μ w) μ env.bx V v:=by
   cases V <;> first | exact hv | cases hy
  exact ⟨Tk.refl S bx,fun _ _=>False,⟨fun _ _ h=>h,Dr hS h hk hv1 hy⟩,bT.none (fun _ _ h=>h)⟩
 | fn A R=>
  simp only [bQ] at hx
  obtain ⟨y,hy,hx⟩:=Option.bind_eq_some_iff.1 hx
  cases hx
  exact ⟨Tk.refl S bx,fun _ _=>False,⟨fun _ _ h=>h,LX hS h hk lP hv hy⟩,bT.none (fun _ _ h=>h)⟩
def ep (P:Program) (S:aP) (w:World) (s:St) (μ:Nat→Loc) (bx:Bx S.C):List (V S.C)→List Value→Prop
 | [],cs=>cs= []
 | v::vs,cs=> ∃ c r,cs=c::r∧RV P S w s μ bx v c∧ep P S w s μ bx vs r
theorem vm (hS:cz S) (h:Inv P S w0 M0 s0 dq env a w μ) {fs:List (fA S)} (lP: ∀ e ∈ fs,fB P S e): ∀ (ks:List K) {bx:Bx S.C} (hk:Tk S env.bx bx) {vs:List (V S.C)} {cs:List Value} {x:Ks S.C ks} {us:aH S.C},
 ep P S w (aE S w0 M0 s0 env.bx μ w) μ env.bx vs cs→dx S fs bx ks vs=some (x,us)→
 Tk S bx (av bx us)∧ ∃ M,bM P S w (bW S w0 M0 s0 env.bx (av bx us) μ w) M ks x cs∧bT S env μ bx (av bx us) M
 | [],bx,hk,[],cs,x,us,hv,hx=>by
  cases hx
  exact ⟨Tk.refl S bx,fun _ _=>False,⟨fun _ _ h=>h,hv⟩,bT.none (fun _ _ h=>h)⟩
 | [],_,_,_::_,_,_,_,_,hx=>by cases hx
 | _::_,_,_,[],_,_,_,_,hx=>by cases hx
 | k::ks,bx,hk,V::vs,cs,x,us,⟨c,r,hcs,hv1,fe⟩,hx=>by
  simp only [dx] at hx
  obtain ⟨⟨y,u1⟩,hy,hx⟩:=Option.bind_eq_some_iff.1 hx
  obtain ⟨⟨z,u2⟩,hz,hx⟩:=Option.bind_eq_some_iff.1 hx
  cases hx
  obtain ⟨k1,M1,r1,f1⟩:=RR hS h hk lP hv1 hy
  obtain ⟨k2,M2,r2,f2⟩:=vm hS h lP ks (hk.trans S k1) fe hz
  dsimp only at *
  rw [gG]
  refine ⟨k1.trans S k2,fun b o=>M1 b o∨M2 b o,⟨M1,M2,c,r,⟨fun _ _=>Iff.rfl,bT.apart h f1 f2⟩,hcs, ?_, ?_⟩,bT.union f1 f2 k1 k2⟩
  · rw [show Ks.head (Ks.cons y z)=y from by cases ks <;> rfl]
    exact r1.mono P S (rT S k2)
  · rw [show Ks.tail (Ks.cons y z)=z from by cases ks <;> rfl]
    exact r2
end
end Go.Sy
namespace Go.Sy
theorem fT.left {M A B:St} (h:fT M A B) {b o:Nat} (ha:A b o):M b o:=(h.1 b o).2 (.inl ha)
theorem fT.right {M A B:St} (h:fT M A B) {b o:Nat} (ha:B b o):M b o:=(h.1 b o).2 (.inr ha)
section
variable {P:Program} {S:aP}
def Agree (us:aH S.C) (lam:Nat→Loc) (μ:Nat→Loc) (bx:Bx S.C):Prop:= ∀ u ∈ us,bx u.1=some u.2∧μ u.1=lam u.1
structure bO (P:Program) (S:aP) (w:World) (s:St) (I:Nat→Prop) (us:aH S.C) (lam:Nat→Loc) (M:St):Prop where
 eD: ∀ u ∈ us,I u.1
 one: ∀ u ∈ us, ∀ u' ∈ us,u.1=u'.1→u=u'
 rb: ∀ μ bx,Agree us lam μ bx→ ∀ u ∈ us,RB P S w s μ bx (lam u.1) u.2
 lv: ∀ bx:Bx S.C, ∀ u ∈ us,bx u.1=some u.2→live S bx u.1
 aD: ∀ b o,M b o↔ ∃ u ∈ us,(lam u.1).aD b o
 cM: ∀ u ∈ us, ∀ u' ∈ us,u.1≠u'.1→ ∀ b o,(lam u.1).aD b o→(lam u'.1).aD b o→False
 ref: ∀ u ∈ us, ∀ vs,(u.2= .cells vs∨u.2= .bG vs)→ ∀ v ∈ vs, ∀ j ∈ ax S v, ∃ u' ∈ us,u'.1=j
theorem bO.nil {w:World} {s:St} {I:Nat→Prop} {M:St} (h:fS M) (lam:Nat→Loc):bO P S w s I [] lam M:=
 ⟨by simp,by simp,by simp,by simp,fun b o=>⟨fun hm=>(h b o hm).elim,by simp⟩,by simp,by simp⟩
def both (us:aH S.C) (l1 l2:Nat→Loc):Nat→Loc:=fun i=>if i ∈ us.map (·.1) then l1 i else l2 i
theorem bO.both {w:World} {s:St} {I1 I2:Nat→Prop} {cR k9:aH S.C} {l1 l2:Nat→Loc} {M M1 M2:St} (h1:bO P S w s I1 cR l1 M1) (h2:bO P S w s I2 k9 l2 M2)
 (hI: ∀ i,I1 i→I2 i→False) (hM:fT M M1 M2):bO P S w s (fun i=>I1 i∨I2 i) (cR++k9) (both cR l1 l2) M∧
  (∀ μ bx,Agree (cR++k9) (Sy.both cR l1 l2) μ bx→Agree cR l1 μ bx∧Agree k9 l2 μ bx):=by
 have e1: ∀ u ∈ cR,Sy.both cR l1 l2 u.1=l1 u.1:=fun u hu=>if_pos (List.mem_map.2 ⟨u,hu,rfl⟩)
 have e2: ∀ u ∈ k9,Sy.both cR l1 l2 u.1=l2 u.1:=fun u hu=>if_neg fun hm=>by
  obtain ⟨u',aL,he⟩:=List.mem_map.1 hm
  exact hI u.1 (he▸h1.eD u' aL) (h2.eD u hu)
 have hag: ∀ μ bx,Agree (cR++k9) (Sy.both cR l1 l2) μ bx→Agree cR l1 μ bx∧Agree k9 l2 μ bx:=fun μ bx h=>
  ⟨fun u hu=>⟨(h u (by simp [hu])).1,(h u (by simp [hu])).2.trans (e1 u hu)⟩,fun u hu=>⟨(h u (by simp [hu])).1,(h u (by simp [hu])).2.trans (e2 u hu)⟩⟩
 refine ⟨⟨?_, ?_, ?_, ?_, ?_, ?_, ?_⟩,hag⟩
 · intro u hu
   rcases List.mem_append.1 hu with hu | hu
   · exact .inl (h1.eD u hu)
   · exact .inr (h2.eD u hu)
 · intro u hu u' aL he
   rcases List.mem_append.1 hu with hu | hu <;> rcases List.mem_append.1 aL with aL | aL
   · exact h1.one u hu u' aL he
   · exact (hI u.1 (h1.eD u hu) (he▸h2.eD u' aL)).elim
   · exact (hI u'.1 (h1.eD u' aL) (he▸h2.eD u hu)).elim
   · exact h2.one u hu u' aL he
 · intro μ bx ha u hu
   rcases List.mem_append.1 hu with hu | hu
   · rw [e1 u hu]; exact h1.rb μ bx (hag μ bx ha).1 u hu
   · rw [e2 u hu]; exact h2.rb μ bx (hag μ bx ha).2 u hu
 · intro bx u hu hb
   rcases List.mem_append.1 hu with hu | hu
   · exact h1.lv bx u hu hb
   · exact h2.lv bx u hu hb
 · intro b o
   rw [hM.1 b o,h1.aD,h2.aD]
   constructor
   · rintro (⟨u,hu,hf⟩ | ⟨u,hu,hf⟩)
     · exact ⟨u,by simp [hu],by rw [e1 u hu]; exact hf⟩
     · exact ⟨u,by simp [hu],by rw [e2 u hu]; exact hf⟩
   · rintro ⟨u,hu,hf⟩
     rcases List.mem_append.1 hu with hu | hu
     · rw [e1 u hu] at hf; exact .inl ⟨u,hu,hf⟩
     · rw [e2 u hu] at hf; exact .inr ⟨u,hu,hf⟩
 · intro u hu u' aL hne b o hf hf'
   rcases List.mem_append.1 hu with hu | hu <;> rcases List.mem_append.1 aL with aL | aL
   · rw [e1 u hu] at hf; rw [e1 u' aL] at hf'
     exact h1.cM u hu u' aL hne b o hf hf'
   · rw [e1 u hu] at hf; rw [e2 u' aL] at hf'
     exact hM.2 b o ((h1.aD b o).2 ⟨u,hu,hf⟩) ((h2.aD b o).2 ⟨u',aL,hf'⟩)
   · rw [e2 u hu] at hf; rw [e1 u' aL] at hf'
     exact hM.2 b o ((h1.aD b o).2 ⟨u',aL,hf'⟩) ((h2.aD b o).2 ⟨u,hu,hf⟩)
   · rw [e2 u hu] at hf; rw [e2 u' aL] at hf'
     exact h2.cM u hu u' aL hne b o hf hf'
 · intro u hu vs hvs v hv j hj
   rcases List.mem_append.1 hu with hu | hu
   · obtain ⟨u',aL,he⟩:=h1.ref u hu vs hvs v hv j hj
     exact ⟨u',by simp [aL],he⟩
   · obtain ⟨u',aL,he⟩:=h2.ref u hu vs hvs v hv j hj
     exact ⟨u',by simp [aL],he⟩
theorem bO.weaken {w:World} {s:St} {I I':Nat→Prop} {us:aH S.C} {lam:Nat→Loc} {M:St} (h:bO P S w s I us lam M) (hI: ∀ i,I i→I' i):bO P S w s I' us lam M:=
 ⟨fun u hu=>hI _ (h.eD u hu),h.one,h.rb,h.lv,h.aD,h.cM,h.ref⟩
theorem HW {w:World} {s:St} {n:Nat} (μ:Nat→Loc) (bx:Bx S.C): ∀ (ts:List Ty) (hts:ts.all (fun t=> !bg t)=true) (x:an S.C ts) (cs:List Value),
 bn S (fun t x cs=>aB S w s n t x cs) ts x cs→aF P S w s μ bx (n4 S ts x) cs∧(n4 S ts x).all (bE S)=true∧ ∀ v ∈ n4 S ts x,ax S v= []
 | [],_,x,cs,h=>⟨h,rfl,by simp [n4]⟩
 | t::ts,hts,x,cs,⟨c,r,hcs,h1,h2⟩=>by
  simp only [List.all_cons,Bool.and_eq_true,Bool.not_eq_true'] at hts
  obtain ⟨r1,r2,r3⟩:=HW μ bx ts hts.2 _ _ h2
  have hc:isAgg c=false:=by
   cases n with
   | zero=>exact h1.elim
   | succ n=>cases t with
    | int k=>simp [aB] at h1; subst h1; rfl
    | bool=>simp [aB] at h1; subst h1; rfl
    | str=>simp [aB] at h1; subst h1; rfl
    | pt=>simp [aB] at h1; subst h1; rfl
    | sl e=>obtain ⟨a,cap,h,_⟩:=h1; simp at h; subst h; rfl
    | st u=>simp [bg] at hts
  refine ⟨⟨c,r,hcs,⟨by rw [hc,hts.1],n, ?_⟩,r1⟩, ?_, ?_⟩
  · rw [aB.jG (t:=t) (by rw [hc,hts.1]) hts.1]
    exact h1
  · simp only [n4,List.all_cons,Bool.and_eq_true]
    exact ⟨by cases t <;> first | rfl | simp [bg] at hts,r2⟩
  · intro v hv
    simp only [n4,List.mem_cons] at hv
    rcases hv with rfl | hv
    · rfl
    · exact r3 v hv
theorem kz (hS:cz S) {w:World} {s:St} {n:Nat} (μ:Nat→Loc) (bx:Bx S.C) {t:Ty} {x:t.den S.C} {cs:List Value} (h:aB S w s n t x cs):
 aF P S w s μ bx (gO S t x) cs∧(gO S t x).all (bE S)=true∧ ∀ v ∈ gO S t x,ax S v= []:=by
 have one:bg t=false→gO S t x= [.d t x]→aF P S w s μ bx (gO S t x) cs∧(gO S t x).all (bE S)=true∧ ∀ v ∈ gO S t x,ax S v= []:=by
  intro ht he
  rw [he]
  have hl:=h.length S
  rw [show Ty.sz S t=1 from by cases t <;> first | rfl | simp [bg] at ht] at hl
  obtain ⟨c,rfl⟩:=List.length_eq_one_iff.1 hl
  have hc:isAgg c=false:=by
   cases n with
   | zero=>exact h.elim
   | succ n=>cases t with
    | int k=>simp [aB] at h; subst h; rfl
    | bool=>simp [aB] at h; subst h; rfl
    | str=>simp [aB] at h; subst h; rfl
    | pt=>simp [aB] at h; subst h; rfl
    | sl e=>obtain ⟨a,cap,h,_⟩:=h; simp at h; subst h; rfl
    | st u=>simp [bg] at ht
  refine ⟨⟨c,[],rfl,⟨by rw [hc,ht],n, ?_⟩,rfl⟩, ?_, ?_⟩
  · rw [aB.jG (t:=t) (by rw [hc,ht]) ht]
    exact h
  · cases t <;> first | rfl | simp [bg] at ht
  · intro v hv
    simp at hv
    subst hv
    rfl
 cases t with
 | st u=>
  cases n with
  | zero=>exact h.elim
  | succ n=>exact HW μ bx (S.F u) (hS.flat u) _ _ h
 | int k=>exact one rfl rfl
 | bool=>exact one rfl rfl
 | str=>exact one rfl rfl
 | pt=>exact one rfl rfl
 | sl e=>exact one rfl rfl
theorem xz (hS:cz S) {w:World} {s M:St} (id:Nat) {c:CK} {x:c.den S.C} {cs:List Value} (h:jy S w s M c x cs):
 id≤(bS S id c x).2.2∧ ∃ lam,bO P S w s (fun i=>id≤i∧i<(bS S id c x).2.2) (bS S id c x).2.1 lam M∧
  (bS S id c x).1.all (bE S)=true∧(∀ v ∈ (bS S id c x).1, ∀ j ∈ ax S v, ∃ u ∈ (bS S id c x).2.1,u.1=j)∧
  ∀ μ bx,Agree (bS S id c x).2.1 lam μ bx→aF P S w s μ bx (bS S id c x).1 cs:=by
 cases c with
 | data t=>
  obtain ⟨hM,n,hn⟩:=h
  have ho:=fun μ bx=>kz (P:=P) hS μ bx hn
  refine ⟨Nat.le_refl _,fun _=>⟨0,0,0,0,true⟩,bO.nil hM _,(ho (fun _=>⟨0,0,0,0,true⟩) (fun _=>none)).2.1, ?_,fun μ bx _=>(ho μ bx).1⟩
  intro v hv j hj
  rw [(ho (fun _=>⟨0,0,0,0,true⟩) (fun _=>none)).2.2 v hv] at hj
  simp at hj
 | aW e=>
  obtain ⟨a,cap,L,rfl,⟨n,hn⟩,t_,b7,hM⟩:=h
  refine ⟨Nat.le_succ _,fun _=>L,⟨?_, ?_, ?_, ?_, ?_, ?_, ?_⟩,rfl, ?_, ?_⟩
  · intro u hu; simp [bS] at hu; subst hu; simp [bS]
  · intro u hu u' aL _; simp [bS] at hu aL; rw [hu,aL]
  · intro μ bx ha u hu; simp [bS] at hu; subst hu; exact b7
  · intro bx u hu hb; simp [bS] at hu; subst hu; unfold live; rw [hb]; trivial
  · intro b o; rw [hM]; simp [bS]
  · intro u hu u' aL hne; simp [bS] at hu aL; subst hu aL; exact absurd rfl hne
  · intro u hu vs hvs; simp [bS] at hu; subst hu; rcases hvs with hvs | hvs <;> cases hvs
  · intro v hv j hj; simp [bS] at hv; subst hv; simp [ax] at hj; subst hj; exact ⟨(j, .tail),by simp [bS],rfl⟩
  · intro μ bx ha
    refine ⟨_,[],rfl,⟨⟨rfl,n,hn⟩,fun _=>⟨a,cap,rfl, ?_⟩⟩,rfl⟩
    rw [(ha (id, .tail) (by simp [bS])).2]
    exact t_
 | aM e=>
  obtain ⟨a,cap,L,rfl,hao,b7,hM,hel⟩:=h
  refine ⟨Nat.le_succ _,fun _=>L,⟨?_, ?_, ?_, ?_, ?_, ?_, ?_⟩,rfl, ?_, ?_⟩
  · intro u hu; simp [bS] at hu; subst hu; simp [bS]
  · intro u hu u' aL _; simp [bS] at hu aL; rw [hu,aL]
  · intro μ bx ha u hu; simp [bS] at hu; subst hu
    exact ⟨hao.cells,hao.isNil,by have :=hao.fits; have :=hao.iO; omega,b7,hel⟩
  · intro bx u hu hb; simp [bS] at hu; subst hu; unfold live; rw [hb]; trivial
  · intro b o; rw [hM]; simp [bS]
  · intro u hu u' aL hne; simp [bS] at hu aL; subst hu aL; exact absurd rfl hne
  · intro u hu vs hvs; simp [bS] at hu; subst hu; rcases hvs with hvs | hvs <;> cases hvs
  · intro v hv j hj; simp [bS] at hv; subst hv; simp [ax] at hj; subst hj; exact ⟨(j, .arr e x),by simp [bS],rfl⟩
  · intro μ bx ha
    refine ⟨_,[],rfl,⟨⟨_,_,_,rfl⟩,fun e' l' hb=> ?_⟩,rfl⟩
    obtain ⟨h1,h2⟩:=ha (id, .arr e x) (by simp [bS])
    dsimp only at h1 h2
    rcases hb with hb | hb
    · rw [h1] at hb
      cases hb
      exact ⟨a,cap,rfl,by rw [h2]; exact hao⟩
    · rw [h1] at hb; cases hb
theorem Ba (hS:cz S) {w:World} {s:St} : ∀ (cs:List CK) {M:St} (id:Nat) {x:bp S.C cs} {vs:List Value},fR S w s M cs x vs→
 id≤(bh S id cs x).2.2∧ ∃ lam,bO P S w s (fun i=>id≤i∧i<(bh S id cs x).2.2) (bh S id cs x).2.1 lam M∧
  (bh S id cs x).1.all (bE S)=true∧(∀ v ∈ (bh S id cs x).1, ∀ j ∈ ax S v, ∃ u ∈ (bh S id cs x).2.1,u.1=j)∧
  ∀ μ bx,Agree (bh S id cs x).2.1 lam μ bx→aF P S w s μ bx (bh S id cs x).1 vs
 | [],M,id,x,vs,h=>⟨Nat.le_refl _,fun _=>⟨0,0,0,0,true⟩,bO.nil h.1 _,rfl,by simp [bh],fun _ _ _=>h.2⟩
 | c::cs,M,id,x,vs,⟨M1,M2,v1,v2,hM,hvs,_,h1,h2⟩=>by
  obtain ⟨uy,l1,g1,s1,r1,l7⟩:=xz (P:=P) hS id h1
  obtain ⟨A2,l2,g2,s2,r2,l8⟩:=Ba hS cs (bS S id c (bp.head x)).2.2 h2
  obtain ⟨g,hag⟩:=bO.both g1 g2 (fun i hi hi'=>by omega) hM
  refine ⟨Nat.le_trans uy A2,_,g.weaken (fun i hi=> ?_), ?_, ?_, ?_⟩
  · show id≤i∧i<(bh S (bS S id c (bp.head x)).2.2 cs (bp.tail x)).2.2
    rcases hi with hi | hi
    · exact ⟨hi.1,Nat.lt_of_lt_of_le hi.2 A2⟩
    · exact ⟨Nat.le_trans uy hi.1,hi.2⟩
  · show ((bS S id c (bp.head x)).1++(bh S (bS S id c (bp.head x)).2.2 cs (bp.tail x)).1).all (bE S)=true
    rw [List.all_append,s1,s2]; rfl
  · intro v hv j hj
    rcases List.mem_append.1 hv with hv | hv
    · obtain ⟨u,hu,he⟩:=r1 v hv j hj
      exact ⟨u,List.mem_append.2 (.inl hu),he⟩
    · obtain ⟨u,hu,he⟩:=r2 v hv j hj
      exact ⟨u,List.mem_append.2 (.inr hu),he⟩
  · intro μ bx ha
    obtain ⟨a1,a2⟩:=hag μ bx ha
    rw [hvs]
    exact aF.append P S (l7 μ bx a1) (l8 μ bx a2)
end
end Go.Sy
namespace Go.Sy
section
variable {P:Program} {S:aP}
theorem rZ: ∀ (us:aH S.C) (bx:Bx S.C) {i:Nat},(∀ u ∈ us,u.1≠i)→av bx us i=bx i
 | [],_,_,_=>rfl
 | u::us,bx,i,h=>(rZ us _ fun u' aL=>h u' (by simp [aL])).trans (aZ _ _ (Ne.symm (h u (by simp))))
theorem yM: ∀ (us:aH S.C) (bx:Bx S.C),(∀ u ∈ us, ∀ u' ∈ us,u.1=u'.1→u=u')→ ∀ u ∈ us,av bx us u.1=some u.2
 | [],_,_,_,h=>by simp at h
 | v::us,bx,h1,u,hu=>by
  by_cases e: ∃ u' ∈ us,u'.1=u.1
  · obtain ⟨u',aL,e⟩:=e
    have :u'=u:=h1 u' (by simp [aL]) u hu e
    subst this
    exact yM us _ (fun a ha b hb=>h1 a (by simp [ha]) b (by simp [hb])) u' aL
  · rcases List.mem_cons.1 hu with rfl | hu
    · show av (aq bx u.1 (some u.2)) us u.1=some u.2
      rw [rZ us _ fun u' aL he=>e ⟨u',aL,he⟩,aO]
    · exact absurd ⟨u,hu,rfl⟩ e
theorem mW {v c:Value} (h:v.cells.toList= [c]) (ha:isAgg v=false):v=c:=by
 rw [aB.jG (t:= .bool) ha rfl] at h
 simpa using h
theorem o_ (cs:List CK): ∀ (id:Nat) (x:bp S.C cs) (n:Nat),(bh S id cs x).2.2+n=id+cs.foldl oneMore n:=by
 induction cs with
 | nil=>intro id x n; rfl
 | cons c cs ih=>
  intro id x n
  have :=ih (bS S id c (bp.head x)).2.2 (bp.tail x)
  simp only [bh,List.foldl_cons]
  cases c with
  | data t=>exact this n
  | aW e=>have :=this (n+1); simp only [bS,oneMore] at this ⊢; omega
  | aM e=>have :=this (n+1); simp only [bS,oneMore] at this ⊢; omega
theorem ko {w:World} {s:St} {μ:Nat→Loc} {bx:Bx S.C} {V:V S.C} {v:Value} (h:bq P S w s μ bx V v):RV P S w s μ bx V v:=by
 cases V <;> first | exact h | exact (h:False).elim
theorem qS (hS:cz S) {w:World} {s M:St} (id:Nat) {cs:List CK} {x:bp S.C cs} {v:Value} (h:dy S w s M cs x v):
 ∃ lam,bO P S w s (fun i=>id≤i∧i<(bh S (id+1) cs x).2.2) ((id, .cells (bh S (id+1) cs x).1)::(bh S (id+1) cs x).2.1) lam M∧
  id<(bh S (id+1) cs x).2.2∧
  ∀ μ bx,Agree ((id, .cells (bh S (id+1) cs x).1)::(bh S (id+1) cs x).2.1) lam μ bx→bq P S w s μ bx (.ptr id 0) v:=by
 obtain ⟨b,o,ds,M',rfl,b7,iW,hM,hcs⟩:=h
 obtain ⟨le,l2,g2,s2,r2,l8⟩:=Ba (P:=P) hS cs (id+1) hcs
 have hne: ∀ u ∈ (bh S (id+1) cs x).2.1,u.1≠id:=fun u hu e=>by have :=(g2.eD u hu).1; omega
 let lam:Nat→Loc:=fun i=>if i=id then ⟨b,o,ds.length,0,false⟩ else l2 i
 have e1:lam id=⟨b,o,ds.length,0,false⟩:=if_pos rfl
 have e2: ∀ u ∈ (bh S (id+1) cs x).2.1,lam u.1=l2 u.1:=fun u hu=>if_neg (hne u hu)
 have hag: ∀ μ bx,Agree ((id, .cells (bh S (id+1) cs x).1)::(bh S (id+1) cs x).2.1) lam μ bx→Agree (bh S (id+1) cs x).2.1 l2 μ bx:=
  fun μ bx h u hu=>⟨(h u (by simp [hu])).1,(h u (by simp [hu])).2.trans (e2 u hu)⟩
 refine ⟨lam,⟨?_, ?_, ?_, ?_, ?_, ?_, ?_⟩,by omega, ?_⟩
 · intro u hu
   rcases List.mem_cons.1 hu with rfl | hu
   · exact ⟨Nat.le_refl _,by show id<_; omega⟩
   · have :=g2.eD u hu; omega
 · intro u hu u' aL he
   rcases List.mem_cons.1 hu with rfl | hu <;> rcases List.mem_cons.1 aL with rfl | aL
   · rfl
   · exact absurd he.symm (hne u' aL)
   · exact absurd he (hne u hu)
   · exact g2.one u hu u' aL he
 · intro μ bx ha u hu
   rcases List.mem_cons.1 hu with rfl | hu
   · show RB P S w s μ bx (lam id) (.cells _)
     rw [e1]
     have hr:=l8 μ bx (hag μ bx ha)
     exact ⟨s2,(aF.length P S hr),b7,ds,iW,hr⟩
   · rw [e2 u hu]
     exact g2.rb μ bx (hag μ bx ha) u hu
 · intro bx u hu hb
   rcases List.mem_cons.1 hu with rfl | hu
   · unfold live; rw [hb]; trivial
   · exact g2.lv bx u hu hb
 · intro b' o'
   rw [hM.1 b' o',g2.aD]
   constructor
   · rintro (h | ⟨u,hu,hf⟩)
     · refine ⟨_,List.mem_cons_self, ?_⟩
       show (lam id).aD b' o'
       rw [e1]; exact h
     · exact ⟨u,by simp [hu],by rw [e2 u hu]; exact hf⟩
   · rintro ⟨u,hu,hf⟩
     rcases List.mem_cons.1 hu with rfl | hu
     · have hf:(lam id).aD b' o':=hf
       rw [e1] at hf; exact .inl hf
     · rw [e2 u hu] at hf; exact .inr ⟨u,hu,hf⟩
 · intro u hu u' aL hn b' o' hf hf'
   rcases List.mem_cons.1 hu with rfl | hu <;> rcases List.mem_cons.1 aL with rfl | aL
   · exact hn rfl
   · have hf:(lam id).aD b' o':=hf
     rw [e1] at hf; rw [e2 u' aL] at hf'
     exact hM.2 b' o' hf ((g2.aD b' o').2 ⟨u',aL,hf'⟩)
   · have hf':(lam id).aD b' o':=hf'
     rw [e1] at hf'; rw [e2 u hu] at hf
     exact hM.2 b' o' hf' ((g2.aD b' o').2 ⟨u,hu,hf⟩)
   · rw [e2 u hu] at hf; rw [e2 u' aL] at hf'
     exact g2.cM u hu u' aL hn b' o' hf hf'
 · intro u hu vs hvs v hv j hj
   rcases List.mem_cons.1 hu with rfl | hu
   · rcases hvs with hvs | hvs
     · cases hvs
       obtain ⟨u',aL,he⟩:=r2 v hv j hj
       exact ⟨u',by simp [aL],he⟩
     · cases hvs
   · obtain ⟨u',aL,he⟩:=g2.ref u hu vs hvs v hv j hj
     exact ⟨u',by simp [aL],he⟩
 · intro μ bx ha
   have :=(ha (id, .cells (bh S (id+1) cs x).1) (by simp)).2
   dsimp only at this
   show _=_
   rw [this,e1]
   rfl
theorem zh {w:World} {s M:St} (i j:Nat) (hne:j≠i) (L:Loc) (h0:L.o=0) (h2:L.n=2) {x:List UInt8} {v:Value} (hv:v= .pointer (some ⟨L.b,L.o,none⟩)) (h:lq S w M x v):
 ∃ lam,lam i=L∧bO P S w s (fun k=>k=i∨k=j) [(i, .aV j),(j, .buf x)] lam M:=by
 obtain ⟨b,R,hb,hh,hr,hM⟩:=h
 rw [hb] at hv
 have hb':b=L.b:=by
  simp only [Value.pointer.injEq,Option.some.injEq,Addr.mk.injEq] at hv
  exact hv.1
 subst hb'
 let lam:Nat→Loc:=fun k=>if k=i then L else R
 have e1:lam i=L:=if_pos rfl
 have e2:lam j=R:=if_neg hne
 have fL: ∀ b' o',(Loc.mk L.b 0 2 0 false).aD b' o'↔L.aD b' o':=fun b' o'=>by
  unfold Loc.aD
  show b'=L.b∧0≤o'∧o'<0+2↔b'=L.b∧L.o≤o'∧o'<L.o+L.n
  rw [h0,h2]
 refine ⟨lam,e1,⟨?_, ?_, ?_, ?_, ?_, ?_, ?_⟩⟩
 · intro u hu
   simp only [List.mem_cons,List.not_mem_nil,or_false] at hu
   rcases hu with rfl | rfl
   · exact .inl rfl
   · exact .inr rfl
 · intro u hu u' aL he
   simp only [List.mem_cons,List.not_mem_nil,or_false] at hu aL
   rcases hu with rfl | rfl <;> rcases aL with rfl | rfl
   · rfl
   · exact absurd he.symm hne
   · exact absurd he hne
   · rfl
 · intro μ bx ha u hu
   have a1:=ha (i, .aV j) (by simp)
   have a2:=ha (j, .buf x) (by simp)
   simp only [List.mem_cons,List.not_mem_nil,or_false] at hu
   rcases hu with rfl | rfl
   · show RB P S w s μ bx (lam i) (.aV j)
     rw [e1]
     refine ⟨h0,h2,by rw [a2.1]; simp,_,hh,fun l hl=> ?_⟩
     rw [a2.1] at hl
     cases hl
     rw [a2.2,e2]
   · show RB P S w s μ bx (lam j) (.buf x)
     rw [e2]
     exact hr
 · intro bx u hu hb
   simp only [List.mem_cons,List.not_mem_nil,or_false] at hu
   rcases hu with rfl | rfl <;> · unfold live; rw [hb]; trivial
 · intro b' o'
   rw [hM.1 b' o',fL]
   constructor
   · rintro (h | h)
     · exact ⟨(i, .aV j),by simp,by show (lam i).aD b' o'; rw [e1]; exact h⟩
     · exact ⟨(j, .buf x),by simp,by show (lam j).aD b' o'; rw [e2]; exact h⟩
   · rintro ⟨u,hu,hf⟩
     simp only [List.mem_cons,List.not_mem_nil,or_false] at hu
     rcases hu with rfl | rfl
     · have hf:(lam i).aD b' o':=hf
       rw [e1] at hf; exact .inl hf
     · have hf:(lam j).aD b' o':=hf
       rw [e2] at hf; exact .inr hf
 · intro u hu u' aL hn b' o' hf hf'
   simp only [List.mem_cons,List.not_mem_nil,or_false] at hu aL
   rcases hu with rfl | rfl <;> rcases aL with rfl | rfl
   · exact hn rfl
   · have hf:(lam i).aD b' o':=hf
     have hf':(lam j).aD b' o':=hf'
     rw [e1] at hf; rw [e2] at hf'
     exact hM.2 b' o' ((fL _ _).2 hf) hf'
   · have hf':(lam i).aD b' o':=hf'
     have hf:(lam j).aD b' o':=hf
     rw [e1] at hf'; rw [e2] at hf
     exact hM.2 b' o' ((fL _ _).2 hf') hf
   · exact hn rfl
 · intro u hu vs hvs
   simp only [List.mem_cons,List.not_mem_nil,or_false] at hu
   rcases hu with rfl | rfl <;> rcases hvs with hvs | hvs <;> cases hvs
theorem L8 (hS:cz S) {w:World} {s M:St} (id:Nat) {k:K} (hk:(match k with | .opt _=>false | _=>true)=true) {x:k.den S.C} {v:Value} (h:kj P S w s M k x v):
 ∃ lam,bO P S w s (fun i=>id≤i∧i<id+lR k) (dS S id k x).2 lam M∧(∀ j ∈ az S (dS S id k x).1, ∃ u ∈ (dS S id k x).2,u.1=j)∧
  ∀ μ bx,Agree (dS S id k x).2 lam μ bx→RV P S w s μ bx (dS S id k x).1 v:=by
 cases k with
 | val c=>
  obtain ⟨h1,h2⟩:=h
  obtain ⟨le,lam,g,s1,r1,rv⟩:=xz (P:=P) hS id h1
  cases c with
  | data t=>
   obtain ⟨hM,n,hn⟩:=h1
   exact ⟨fun _=>⟨0,0,0,0,true⟩,bO.nil hM _,by simp [dS,az,ax],fun μ bx _=>⟨h2,n,hn⟩⟩
  | aW e=>
   refine ⟨lam,g,fun j hj=>r1 (.aW id e x) (by simp [bS]) j hj,fun μ bx ha=> ?_⟩
   obtain ⟨c,r,hc,hv,hr⟩:=rv μ bx ha
   cases hr
   rw [mW hc h2]
   exact ko hv
  | aM e=>
   refine ⟨lam,g,fun j hj=>r1 (.aM id) (by simp [bS]) j hj,fun μ bx ha=> ?_⟩
   obtain ⟨c,r,hc,hv,hr⟩:=rv μ bx ha
   cases hr
   rw [mW hc h2]
   exact ko hv
 | obj cs=>
  obtain ⟨lam,g,le,rv⟩:=qS (P:=P) hS id h
  refine ⟨lam,g.weaken fun i hi=> ?_,fun j hj=>⟨(id, .cells (bh S (id+1) cs x).1),by simp [dS],by simp [dS,az,ax] at hj; exact hj.symm⟩,fun μ bx ha=>ko (rv μ bx ha)⟩
  have :=o_ cs (id+1) x 0
  simp only [lR]
  omega
 | opt cs=>cases hk
 | bJ t cs=>
  obtain ⟨b0,o0,p,M1,M2,hv,cF,hM,h1,h2⟩:=h
  obtain ⟨l1,g1,uy,l7⟩:=qS (P:=P) hS id h1
  obtain ⟨l2,g2,A2,l8⟩:=qS (P:=P) hS (id+1) h2
  have hz:=o_ cs (id+1+1) x.2 0
  obtain ⟨g,hag⟩:=bO.both g1 g2 (fun i q1 q2=>by
   have PC:i<id+1:=q1.2
   omega) hM
  refine ⟨_,g.weaken fun i hi=> ?_,fun j hj=> ?_,fun μ bx ha=> ?_⟩
  · simp only [lR]
    rcases hi with hi | hi
    · have PC:i<id+1:=hi.2
      omega
    · omega
  · have hj:j ∈ [id+1,id]:=hj
    simp only [List.mem_cons,List.not_mem_nil,or_false] at hj
    rcases hj with rfl | rfl
    · exact ⟨(id+1,_),List.mem_cons_of_mem _ (List.mem_cons_self),rfl⟩
    · exact ⟨(j,_),List.mem_cons_self,rfl⟩
  · obtain ⟨a1,a2⟩:=hag μ bx ha
    have e1:Value.pointer (some p)= .pointer (some ⟨(μ id).b,(μ id).o+0,none⟩):=l7 μ bx a1
    have e2:Value.pointer (some ⟨b0,o0+1,none⟩)= .pointer (some ⟨(μ (id+1)).b,(μ (id+1)).o+0,none⟩):=l8 μ bx a2
    cases e1
    simp only [Value.pointer.injEq,Option.some.injEq,Addr.mk.injEq] at e2
    exact ⟨b0,o0,hv,cF,e2.1.symm,by omega⟩
 | bX cs=>
  obtain ⟨p,hv,h⟩:=h
  obtain ⟨lam,g,le,rv⟩:=qS (P:=P) hS id h
  refine ⟨lam,g.weaken fun i hi=> ?_,fun j hj=>⟨(id, .cells (bh S (id+1) cs x).1),by simp [dS],by simp [dS,az,ax] at hj; exact hj.symm⟩,fun μ bx ha=>ko ?_⟩
  · have :=o_ cs (id+1) x 0
    simp only [lR]
    omega
  · have :Value.pointer (some p)= .pointer (some ⟨(μ id).b,(μ id).o+0,none⟩):=rv μ bx ha
    show v= .slice (some ⟨(μ id).b,(μ id).o,none⟩) (CK.bV S cs) (CK.bV S cs)
    rw [hv]
    cases this
    rfl
 | err=>exact ⟨fun _=>⟨0,0,0,0,true⟩,bO.nil h.1 _,by simp [dS,az,ax],fun μ bx _=>h.2⟩
 | aV=>
  have h:lq S w M x v:=h
  obtain ⟨b,R,hb,_⟩:=Iff.mp Iff.rfl h
  obtain ⟨lam,e,g⟩:=zh (P:=P) (s:=s) id (id+1) (by omega) ⟨b,0,2,0,false⟩ rfl rfl hb h
  refine ⟨lam,g.weaken fun i hi=> ?_,fun j hj=>⟨(id, .aV (id+1)),by simp [dS],by simp [dS,az,ax] at hj; exact hj.symm⟩,fun μ bx ha=>ko ?_⟩
  · simp only [lR]; omega
  · have a1:=(ha (id, .aV (id+1)) (by simp [dS])).2
    show v= .pointer (some ⟨(μ id).b,(μ id).o+0,none⟩)
    rw [hb,show μ id=lam id from a1,e]
 | nil=>exact ⟨fun _=>⟨0,0,0,0,true⟩,bO.nil h.1 _,by simp [dS,az,ax],fun μ bx _=>h.2⟩
 | ro t=>exact ⟨fun _=>⟨0,0,0,0,true⟩,bO.nil h.1 _,by simp [dS,az,ax],fun μ bx _=>h.2⟩
 | fn a r=>exact ⟨fun _=>⟨0,0,0,0,true⟩,bO.nil h.1 _,by simp [dS,az,ax],fun μ bx _=>h.2⟩
def sF (a:Act):List Nat→List Value→Prop
 | [],vs=>vs= []
 | t::sl,vs=> ∃ v r,vs=v::r∧a.tmps.getD t Go.undef=v∧sF a sl r
theorem D6 (hS:cz S) {w:World} {s:St} (a:Act): ∀ (ks:List K) (sl:List Nat) {M:St} {x:Ks S.C ks} {vs:List Value} (env:Env S.C),js sl ks=true→bM P S w s M ks x vs→sF a sl vs→
 ∃ us lam,bO P S w s (fun i=> ∃ t ∈ sl,16*t≤i∧i<16*t+16) us lam M∧(ew S ks sl x env).bx=av env.bx us∧
  (∀ t,t ∉ sl→(ew S ks sl x env).tm t=env.tm t)∧
  ∀ t ∈ sl,(∀ j ∈ az S ((ew S ks sl x env).tm t), ∃ u ∈ us,u.1=j)∧ ∀ μ bx,Agree us lam μ bx→RV P S w s μ bx ((ew S ks sl x env).tm t) (a.tmps.getD t Go.undef)
 | [],[],M,x,vs,env,_,h,_=>⟨[],fun _=>⟨0,0,0,0,true⟩,bO.nil h.1 _,rfl,fun _ _=>rfl,by simp⟩
 | [],_::_,_,_,_,_,h,_,_=>by cases h
 | _::_,[],_,_,_,_,h,_,_=>by cases h
 | k::ks,t::sl,M,x,vs,env,hok,⟨M1,M2,v,r,hM,hvs,h1,h2⟩,⟨v',r',ug,ht,eU⟩=>by
  simp only [js,Bool.and_eq_true,Bool.not_eq_true'] at hok
  obtain ⟨⟨⟨o1,o2⟩,o3⟩,o4⟩:=hok
  have ot:t ∉ sl:=by
   intro hm
   have :=List.contains_iff_mem.2 hm
   rw [o2] at this; cases this
  rw [hvs] at ug
  cases ug
  obtain ⟨l1,g1,r1,l7⟩:=L8 (P:=P) hS (16*t) o3 h1
  obtain ⟨k9,l2,g2,hb,hto,w8⟩:=D6 hS a ks sl (env.apply (some t) (dS S (16*t) k (Ks.head x)).1 (dS S (16*t) k (Ks.head x)).2) o4 h2 eU
  obtain ⟨g,hag⟩:=bO.both (g1.weaken (I':=fun i=>16*t≤i∧i<16*t+16) fun i hi=>⟨hi.1,by have :=Nat.le_of_ble_eq_true o1; omega⟩) g2 (fun i hi ⟨t',ht',h1,h2⟩=>ot (by
   have :t'=t:=by omega
   exact this▸ht')) hM
  refine ⟨_,_,g.weaken fun i hi=> ?_, ?_, ?_, ?_⟩
  · rcases hi with hi | ⟨t',ht',hi⟩
    · exact ⟨t,by simp,hi⟩
    · exact ⟨t',by simp [ht'],hi⟩
  · rw [gG]; exact hb
  · intro t' ht'
    have e1:=hto t' (fun h=>ht' (by simp [h]))
    rw [show (ew S (k::ks) (t::sl) x env).tm t'=_ from e1]
    exact aZ _ _ (fun h=>ht' (by simp [h]))
  · intro t' ht'
    by_cases e:t'=t
    · subst e
      have e1:=hto t' ot
      rw [show (ew S (k::ks) (t'::sl) x env).tm t'=_ from e1]
      rw [show (env.apply (some t') (dS S (16*t') k (Ks.head x)).1 (dS S (16*t') k (Ks.head x)).2).tm t'=(dS S (16*t') k (Ks.head x)).1 from aO _ _ _]
      refine ⟨fun j hj=> ?_,fun μ bx ha=> ?_⟩
      · obtain ⟨u,hu,he⟩:=r1 j hj
        exact ⟨u,List.mem_append.2 (.inl hu),he⟩
      · rw [ht]; exact l7 μ bx (hag μ bx ha).1
    · have Nz:t' ∈ sl:=by rcases List.mem_cons.1 ht' with h | h; exact absurd h e; exact h
      obtain ⟨h1,h2⟩:=w8 t' Nz
      refine ⟨fun j hj=> ?_,fun μ bx ha=>h2 μ bx (hag μ bx ha).2⟩
      obtain ⟨u,hu,he⟩:=h1 j hj
      exact ⟨u,List.mem_append.2 (.inr hu),he⟩
theorem D5: ∀ (ks:List K) (sl:List Nat) (x:Ks S.C ks) (env:Env S.C),(ew S ks sl x env).df=env.df
 | [],_,_,_=>rfl
 | _::_,[],_,_=>rfl
 | k::r,t::sl,x,env=>D5 r sl (Ks.tail x) _
theorem D7 (hS:cz S) {w0:World} {M0 s0:St} {dq:List Deferred} {w:World} {s M:St} {a:Act} {ks:List K} {sl:List Nat} {x:Ks S.C ks} {vs:List Value}
 (hok:js sl ks=true) (h:bM P S w s M ks x vs) (eU:sF a sl vs) (hs: ∀ b o,s b o→b<w.heap.size∧(s0 b o∨M0 b o∨w0.heap.size≤b)∧ ¬ M b o)
 (hM: ∀ b o,M b o→w0.heap.size≤b∨M0 b o) (hc:aX w0 w M0) {df:Bool} (hd:a.defers=cond df dq []) (hG:gp S w0 M0): ∃ μ,Inv P S w0 M0 s0 dq (ew S ks sl x (Env.none S df)) a w μ:=by
 obtain ⟨us,lam,g,hb,hto,w8⟩:=D6 (P:=P) hS a ks sl (Env.none S df) hok h eU
 have hin: ∀ i B,(ew S ks sl x (Env.none S df)).bx i=some B→(i,B) ∈ us:=by
  intro i B hi
  rw [hb] at hi
  by_cases e: ∃ u ∈ us,u.1=i
  · obtain ⟨u,hu,rfl⟩:=e
    rw [yM us _ g.one u hu] at hi
    cases hi
    exact hu
  · rw [rZ us _ fun u hu he=>e ⟨u,hu,he⟩] at hi
    cases hi
 have hag:Agree us lam lam (ew S ks sl x (Env.none S df)).bx:=fun u hu=>⟨by rw [hb]; exact yM us _ g.one u hu,rfl⟩
 have bN: ∀ i,live S (ew S ks sl x (Env.none S df)).bx i→ ∃ u ∈ us,u.1=i:=by
  intro i hi
  unfold live at hi
  cases e:(ew S ks sl x (Env.none S df)).bx i with
  | none=>rw [e] at hi; exact hi.elim
  | some B=>exact ⟨(i,B),hin i B e,rfl⟩
 have hl:bI w s w (aE S w0 M0 s0 (ew S ks sl x (Env.none S df)).bx lam w):=fun b o Nx=>by
  obtain ⟨h1,h2,h3⟩:=hs b o Nx
  refine ⟨⟨h1,h2,fun i hi hf=> ?_⟩,rfl⟩
  obtain ⟨u,hu,rfl⟩:=bN i hi
  exact h3 ((g.aD b o).2 ⟨u,hu,hf⟩)
 have b6: ∀ i B0,(ew S ks sl x (Env.none S df)).bx i=some B0→ ∃ B,(ew S ks sl x (Env.none S df)).bx i=some B∧cc S (lam i) (lam i) B0 B:=fun i B hi=>⟨B,hi,cc.refl S _ _⟩
 have qL: ∀ j,(∃ u ∈ us,u.1=j)→(ew S ks sl x (Env.none S df)).bx j≠none:=by
  rintro j ⟨u,hu,rfl⟩
  rw [(hag u hu).1]; simp
 refine ⟨lam,⟨fun t=> ?_,fun i B hi=> ?_,fun i j hij li lj b o fi fj=> ?_,fun i li b o fi=> ?_,fun t i hi=> ?_,fun i vs' hvs v hv j hj=> ?_,hc,by rw [D5]; exact hd,hG⟩⟩
 · by_cases ht:t ∈ sl
   · obtain ⟨h1,h2⟩:=w8 t ht
     exact RV.step P S hl b6 (fun i hi=>qL i (h1 i hi)) (h2 lam _ hag)
   · rw [hto t ht]; trivial
 · have hu:=hin i B hi
   have hr:=g.rb lam _ hag (i,B) hu
   cases B with
   | cells vs'=>
    obtain ⟨h1,h2,h3,cs,h4,h5⟩:=hr
    exact ⟨h1,h2,h3,cs,h4,aF.step P S hl b6 (fun v hv j hj=>qL j (g.ref _ hu vs' (.inl rfl) v hv j hj)) h5⟩
   | bG vs'=>
    obtain ⟨h1,cs,h4,h5⟩:=hr
    exact ⟨h1,cs,h4.later hl,aF.step P S hl b6 (fun v hv j hj=>qL j (g.ref _ hu vs' (.inr rfl) v hv j hj)) h5⟩
   | arr e l=>
    obtain ⟨h1,h2,h3,h4,h5⟩:=hr
    refine ⟨h1,h2,h3,h4,fun k y hk=> ?_⟩
    obtain ⟨ds,d1,d2,n,d3⟩:=h5 k y hk
    exact ⟨ds,d1,d2,n,d3.mono S hl (Nat.le_refl _)⟩
   | bw e l=>
    obtain ⟨h2,h3,h5⟩:=hr
    refine ⟨h2,h3,fun k y hk=> ?_⟩
    obtain ⟨ds,d1,d2,n,d3⟩:=h5 k y hk
    exact ⟨ds,d1,d2.later hl,n,d3.mono S hl (Nat.le_refl _)⟩
   | tail=>exact hr
   | dead=>trivial
   | aV j=>exact hr
   | buf l=>exact hr
 · obtain ⟨u,hu,rfl⟩:=bN i li
   obtain ⟨u',aL,rfl⟩:=bN j lj
   exact g.cM u hu u' aL hij b o fi fj
 · obtain ⟨u,hu,rfl⟩:=bN i li
   exact hM b o ((g.aD b o).2 ⟨u,hu,fi⟩)
 · by_cases ht:t ∈ sl
   · exact qL i ((w8 t ht).1 i hi)
   · rw [hto t ht] at hi
     simp [Env.none,az,ax] at hi
 · rcases hvs with hvs | hvs
   · exact qL j (g.ref _ (hin i _ hvs) vs' (.inl rfl) v hv j hj)
   · exact qL j (g.ref _ (hin i _ hvs) vs' (.inr rfl) v hv j hj)
end
end Go.Sy
namespace Go.Sy
def Tr.leaf {X:Type} :Tr X→X→Prop
 | .fail,_=>False
 | .ret y,x=>y=x
 | .ite p _ a b,x=>(p∧a.leaf x)∨(¬ p∧b.leaf x)
 | .bind _ m f,x=> ∃ y,m=some y∧(f y).leaf x
 | .opt _ m n s,x=>(m=none∧n.leaf x)∨ ∃ y,m=some y∧(s y).leaf x
theorem Tr.pV {X R:Type} : ∀ (t:Tr X) {k:X→Option R} {r:R},t.run k=some r→ ∃ x,t.leaf x∧k x=some r
 | .fail,_,_,h=>by cases h
 | .ret x,_,_,h=>⟨x,rfl,h⟩
 | .ite p i a b,k,r,h=>by
  by_cases hp:p
  · rw [Tr.run,if_pos hp] at h
    obtain ⟨x,h1,h2⟩:=Tr.pV a h
    exact ⟨x, .inl ⟨hp,h1⟩,h2⟩
  · rw [Tr.run,if_neg hp] at h
    obtain ⟨x,h1,h2⟩:=Tr.pV b h
    exact ⟨x, .inr ⟨hp,h1⟩,h2⟩
 | .bind _ m f,k,r,h=>by
  obtain ⟨y,hy,h⟩:=Option.bind_eq_some_iff.1 h
  obtain ⟨x,h1,h2⟩:=Tr.pV (f y) h
  exact ⟨x,⟨y,hy,h1⟩,h2⟩
 | .opt _ m n s,k,r,h=>by
  cases m with
  | none=>
   obtain ⟨x,h1,h2⟩:=Tr.pV n h
   exact ⟨x, .inl ⟨rfl,h1⟩,h2⟩
  | some y=>
   obtain ⟨x,h1,h2⟩:=Tr.pV (s y) h
   exact ⟨x, .inr ⟨y,rfl,h1⟩,h2⟩
theorem Tr.A3 {X:Type} : ∀ (gs:List Gd) {t:Tr X} {x:X},(Tr.gd gs t).leaf x→(∀ g ∈ gs,g.p)∧t.leaf x
 | [],_,_,h=>⟨by simp,h⟩
 | g::gs,t,x,h=>by
  rcases h with ⟨h1,h2⟩ | ⟨_,h2⟩
  · obtain ⟨h3,h4⟩:=Tr.A3 gs h2
    exact ⟨fun g' hg=>(List.mem_cons.1 hg).elim (fun e=>e▸h1) (h3 g'),h4⟩
  · exact h2.elim
section
variable {P:Program} {S:aP}
variable {w0:World} {M0 s0:St} {dq:List Deferred} {env:Env S.C} {a:Act} {w:World} {μ:Nat→Loc}
theorem Inv.tk (h:Inv P S w0 M0 s0 dq env a w μ) {ag:Bx S.C} (hk:Tk S env.bx ag):Inv P S w0 M0 s0 dq { env with bx:=ag } a w μ:=by
 have hf: ∀ i, ¬ ag i=env.bx i→live S ag i→False:=fun i hi hl=>hi (hk.di hl)
 refine h.step (T:=fun _ _=>False) (U:=fun i=> ¬ ag i=env.bx i) (aX.refl w _) (fun _ _ h=>h.elim) (fun i hi=>⟨Classical.not_not.1 hi,rfl⟩)
  (fun i hi hl=>(hf i hi hl).elim) (fun i B0 bD=> ?_) (fun i _ hi _ _ hl=>(hf i hi hl).elim) (fun i B hi hB=> ?_) (fun i vs hi hvs=> ?_)
 · rcases hk i with e | ⟨e,hl⟩ | ⟨e,l,e1,e2⟩
   · exact ⟨B0,e.trans bD,cc.refl S _ _⟩
   · refine ⟨_,e, ?_⟩
     cases B0 <;> rfl
   · rw [bD] at e1
     cases e1
     exact ⟨_,e2,rfl,rfl,rfl⟩
 · rcases hk i with e | ⟨e,_⟩ | ⟨e,l,e1,e2⟩
   · exact absurd e hi
   · rw [e] at hB; cases hB; trivial
   · rw [e2] at hB
     cases hB
     have bN:live S env.bx i:=by unfold live; rw [e1]; trivial
     obtain ⟨g1,g2,g3,g4,h3⟩:=h.bL i _ e1
     have hl:bI w (aE S w0 M0 s0 env.bx μ w) w (aE S w0 M0 s0 ag μ w):=h.later (T:=fun _ _=>False) (U:=fun i=> ¬ ag i=env.bx i) (aX.refl w _) (fun _ _ h=>h.elim) (fun i hi=>⟨Classical.not_not.1 hi,rfl⟩)
      (fun i hi hl=>(hf i hi hl).elim)
     refine ⟨g2,g3,fun k x tP=> ?_⟩
     obtain ⟨ds,d1,d2,n,d3⟩:=h3 k x tP
     refine ⟨ds,d1,fun j u hj=>⟨d2 j u hj, ?_⟩,n,d3.mono S hl (Nat.le_refl _)⟩
     have hj':=(List.getElem?_eq_some_iff.1 hj).1
     have qK:=(List.getElem?_eq_some_iff.1 tP).1
     have f_:(μ i).aD (μ i).b ((μ i).o+k*Ty.sz S e+j):=by
      refine ⟨rfl,by omega, ?_⟩
      have :(k+1)*Ty.sz S e≤(μ i).cap*Ty.sz S e:=Nat.mul_le_mul_right _ (by omega)
      rw [Nat.add_mul,Nat.one_mul] at this
      omega
     refine ⟨(jV P S (h.bL i) bN f_).1,(h.own i bN _ _ f_).elim (fun h=> .inr (.inr h)) (fun h=> .inr (.inl h)),fun j tO hf'=> ?_⟩
     have hj0:=(dF S (hk.di tO)).1 tO
     refine h.cM j i (fun e'=> ?_) hj0 bN _ _ hf' f_
     subst e'
     unfold live at tO
     rw [e2] at tO
     exact tO
 · rcases hk i with e | ⟨e,_⟩ | ⟨e,l,e1,e2⟩
   · exact absurd e hi
   · rcases hvs with hvs | hvs <;> · rw [e] at hvs; cases hvs
   · rcases hvs with hvs | hvs <;> · rw [e2] at hvs; cases hvs
theorem Inv.Bc (h:Inv P S w0 M0 s0 dq env a w μ) {w':World} (hw:aX w w' (fun _ _=>False)) {i:Nat} (hi:env.bx i=none) {B:cZ S.C} {L:Loc}
 (hf: ∀ b o,L.aD b o→w.heap.size≤b)
 (hb:bI w (aE S w0 M0 s0 env.bx μ w) w' (aE S w0 M0 s0 (aq env.bx i (some B)) (aq μ i L) w')→
  (∀ V v,RV P S w (aE S w0 M0 s0 env.bx μ w) μ env.bx V v→(∀ j ∈ az S V,env.bx j≠none)→RV P S w' (aE S w0 M0 s0 (aq env.bx i (some B)) (aq μ i L) w') (aq μ i L) (aq env.bx i (some B)) V v)→
  (∀ V v,bq P S w (aE S w0 M0 s0 env.bx μ w) μ env.bx V v→(∀ j ∈ ax S V,env.bx j≠none)→bq P S w' (aE S w0 M0 s0 (aq env.bx i (some B)) (aq μ i L) w') (aq μ i L) (aq env.bx i (some B)) V v)→
  RB P S w' (aE S w0 M0 s0 (aq env.bx i (some B)) (aq μ i L) w') (aq μ i L) (aq env.bx i (some B)) L B)
 (hr: ∀ vs,(B= .cells vs∨B= .bG vs)→ ∀ v ∈ vs, ∀ j ∈ ax S v,env.bx j≠none):
 Inv P S w0 M0 s0 dq { env with bx:=aq env.bx i (some B) } a w' (aq μ i L)∧
  bI w (aE S w0 M0 s0 env.bx μ w) w' (aE S w0 M0 s0 (aq env.bx i (some B)) (aq μ i L) w')∧
  (∀ V v,RV P S w (aE S w0 M0 s0 env.bx μ w) μ env.bx V v→(∀ j ∈ az S V,env.bx j≠none)→RV P S w' (aE S w0 M0 s0 (aq env.bx i (some B)) (aq μ i L) w') (aq μ i L) (aq env.bx i (some B)) V v):=by
 have hU: ∀ j, ¬ j=i→aq env.bx i (some B) j=env.bx j∧aq μ i L j=μ j:=fun j hj=>⟨aZ _ _ hj,aZ _ _ hj⟩
 have Fa: ∀ j,j=i→live S (aq env.bx i (some B)) j→ ∀ b o,(aq μ i L j).aD b o→w.heap.size≤b∨ ∃ k,k=i∧live S env.bx k∧(μ k).aD b o:=by
  rintro j rfl _ b o hfo
  rw [aO] at hfo
  exact .inl (hf b o hfo)
 have hc: ∀ j B0,env.bx j=some B0→ ∃ B',aq env.bx i (some B) j=some B'∧cc S (μ j) (aq μ i L j) B0 B':=by
  intro j B0 hj
  have :j≠i:=fun e=>by subst e; rw [hi] at hj; cases hj
  rw [aZ _ _ this,aZ _ _ this]
  exact ⟨B0,hj,cc.refl S _ _⟩
 have hl:=h.later (T:=fun _ _=>False) (U:=fun j=>j=i) hw (fun _ _ h=>h.elim) hU Fa
 have lM:=fun V v (hv:RV P S w (aE S w0 M0 s0 env.bx μ w) μ env.bx V v) hr=>RV.step P S hl hc hr hv
 have Mn:=fun V v (hv:bq P S w (aE S w0 M0 s0 env.bx μ w) μ env.bx V v) hr=>bq.step P S hl hc hr hv
 refine ⟨h.step (T:=fun _ _=>False) (U:=fun j=>j=i) hw (fun _ _ h=>h.elim) hU Fa hc ?_ ?_ ?_,hl,lM⟩
 · rintro j k rfl rfl hne; exact absurd rfl hne
 · rintro j B' rfl fH
   rw [aO] at fH
   cases fH
   rw [aO]
   exact hb hl lM Mn
 · rintro j vs rfl hvs v hv k hk
   rw [aO] at hvs
   have h0:=hr vs (by rcases hvs with hvs | hvs <;> · cases hvs; simp) v hv k hk
   obtain ⟨B0,bD⟩:=Option.ne_none_iff_exists'.1 h0
   obtain ⟨B',fH,_⟩:=hc k B0 bD
   rw [fH]; simp
theorem bk (h:Inv P S w0 M0 s0 dq env a w μ) {x:Operand} {V:V S.C} (hx:aN S env.tm x=some V):
 RV P S w (aE S w0 M0 s0 env.bx μ w) μ env.bx V (a.eval x)∧ ∀ i ∈ az S V,env.bx i≠none:=by
 cases x with
 | tmp t=>cases hx; exact ⟨h.gX t,h.ref t⟩
 | const v=>
  simp only [aN,DO] at hx
  split at hx <;> cases hx
  · exact ⟨⟨rfl,1,rfl⟩,by simp [az,ax]⟩
  · exact ⟨⟨rfl,1,rfl⟩,by simp [az,ax]⟩
  · rename_i s
    refine ⟨⟨rfl,1, ?_⟩,by simp [az,ax]⟩
    show [Value.string s]= [Value.string ⟨s.data.toList.toArray⟩]
    cases s; simp
  · exact ⟨rfl,by simp [az,ax]⟩
  · exact ⟨rfl,by simp [az,ax]⟩
 | func f=>cases hx; exact ⟨⟨#[],rfl,rfl⟩,by simp [az]⟩
 | global g=>cases hx
theorem wp_pure (h:Inv P S w0 M0 s0 dq env a w μ) {o:Oper} {K:Act→World→Prop} {Q:Exit→Act→World→Prop} {V:V S.C} {v:Value}
 (hrun:(execOp a.eval o).run P w= .ok (.value v) w) (hd: ∀ d,o.dst=some d→d<a.tmps.size)
 (hv:RV P S w (aE S w0 M0 s0 env.bx μ w) μ env.bx V v) (hr: ∀ i ∈ az S V,env.bx i≠none)
 (hK: ∀ a' w' μ',Inv P S w0 M0 s0 dq (env.apply o.dst V []) a' w' μ'→a'.tmps.size=a.tmps.size→K a' w'):o.wp P a w K Q:=by
 unfold Oper.wp
 rw [hrun]
 refine hK _ w μ (h.put hd hv hr) ?_
 cases o.dst <;> simp [Act.put]
theorem SX (h:Inv P S w0 M0 s0 dq env a w μ) {o:Oper} {K:Act→World→Prop} {Q:Exit→Act→World→Prop} {V:V S.C} {v:Value} {us:aH S.C}
 (hrun:(execOp a.eval o).run P w= .ok (.value v) w) (hd: ∀ d,o.dst=some d→d<a.tmps.size) (hk:Tk S env.bx (av env.bx us))
 (hv:Inv P S w0 M0 s0 dq { env with bx:=av env.bx us } a w μ→RV P S w (aE S w0 M0 s0 (av env.bx us) μ w) μ (av env.bx us) V v) (hr: ∀ i ∈ az S V,av env.bx us i≠none)
 (hK: ∀ a' w' μ',Inv P S w0 M0 s0 dq (env.apply o.dst V us) a' w' μ'→a'.tmps.size=a.tmps.size→K a' w'):o.wp P a w K Q:=by
 unfold Oper.wp
 rw [hrun]
 have hI:=h.tk hk
 refine hK _ w μ (hI.put hd (hv hI) hr) ?_
 cases o.dst <;> simp [Act.put]
theorem HH {ag:Bx S.C} (hk:Tk S env.bx ag):bI w (aE S w0 M0 s0 env.bx μ w) w (aE S w0 M0 s0 ag μ w):=fun b o ⟨h1,h2,h3⟩=>
 ⟨⟨h1,h2,fun i hi=>h3 i ((dF S (hk.di hi)).1 hi)⟩,rfl⟩
theorem n7 (h:Inv P S w0 M0 s0 dq env a w μ) {o:Oper} {K:Act→World→Prop} {Q:Exit→Act→World→Prop} {w':World} {V:V S.C} {v:Value} {i:Nat} {B:cZ S.C} {L:Loc}
 (hrun:(execOp a.eval o).run P w= .ok (.value v) w') (hd: ∀ d,o.dst=some d→d<a.tmps.size) (hw:aX w w' (fun _ _=>False)) (hi:env.bx i=none)
 (hf: ∀ b o,L.aD b o→w.heap.size≤b)
 (hb:bI w (aE S w0 M0 s0 env.bx μ w) w' (aE S w0 M0 s0 (aq env.bx i (some B)) (aq μ i L) w')→
  (∀ V v,RV P S w (aE S w0 M0 s0 env.bx μ w) μ env.bx V v→(∀ j ∈ az S V,env.bx j≠none)→RV P S w' (aE S w0 M0 s0 (aq env.bx i (some B)) (aq μ i L) w') (aq μ i L) (aq env.bx i (some B)) V v)→
  (∀ V v,bq P S w (aE S w0 M0 s0 env.bx μ w) μ env.bx V v→(∀ j ∈ ax S V,env.bx j≠none)→bq P S w' (aE S w0 M0 s0 (aq env.bx i (some B)) (aq μ i L) w') (aq μ i L) (aq env.bx i (some B)) V v)→
  RB P S w' (aE S w0 M0 s0 (aq env.bx i (some B)) (aq μ i L) w') (aq μ i L) (aq env.bx i (some B)) L B∧
  RV P S w' (aE S w0 M0 s0 (aq env.bx i (some B)) (aq μ i L) w') (aq μ i L) (aq env.bx i (some B)) V v)
 (hr: ∀ vs,(B= .cells vs∨B= .bG vs)→ ∀ v ∈ vs, ∀ j ∈ ax S v,env.bx j≠none) (hV: ∀ j ∈ az S V,j=i∨env.bx j≠none)
 (hK: ∀ a' w' μ',Inv P S w0 M0 s0 dq (env.apply o.dst V [(i,B)]) a' w' μ'→a'.tmps.size=a.tmps.size→K a' w'):o.wp P a w K Q:=by
 unfold Oper.wp
 rw [hrun]
 have uh:RV P S w' (aE S w0 M0 s0 (aq env.bx i (some B)) (aq μ i L) w') (aq μ i L) (aq env.bx i (some B)) V v:=by
  obtain ⟨_,hl,lM⟩:=h.Bc hw hi hf (fun h1 h2 h3=>(hb h1 h2 h3).1) hr
  refine (hb hl lM (fun V v hv hr=> ?_)).2
  refine bq.step P S hl (fun j B0 hj=> ?_) hr hv
  have :j≠i:=fun e=>by subst e; rw [hi] at hj; cases hj
  rw [aZ _ _ this,aZ _ _ this]
  exact ⟨B0,hj,cc.refl S _ _⟩
 obtain ⟨hI,_,_⟩:=h.Bc hw hi hf (fun h1 h2 h3=>(hb h1 h2 h3).1) hr
 refine hK _ w' _ (hI.put hd uh fun j hj=> ?_) ?_
 · rcases hV j hj with rfl | hj
   · show aq env.bx j (some B) j≠none
     rw [aO]; simp
   · by_cases e:j=i
     · subst e; exact absurd hi hj
     · show aq env.bx i (some B) j≠none
       rw [aZ _ _ e]; exact hj
 · cases o.dst <;> simp [Act.put]
end
end Go.Sy
namespace Go.Sy
section
variable (P:Program) (S:aP) (ai:Nat→Nat)
def sw:Ty→Value
 | .int k=> .int k 0
 | .bool=> .bool false
 | .str=> .string ⟨#[]⟩
 | .sl _=> .slice none 0 0
 | .pt=> .pointer none
 | .st _=> .bool false
def qc:Ty→List Value
 | .st u=>(S.F u).map sw
 | t=> [sw t]
def n_:(ts:List Ty)→an S.C ts
 | []=>()
 | t::ts=>an.cons (Ty.zero S t) (n_ ts)
def bP (t:Nat) (T:Ty):Prop:=
 (∃ i z,P.info? t=some i∧i.size=Ty.sz S T∧i.zero=some z∧isAgg z=bg T∧z.cells.toList=qc S T)∧
 match T with
 | .int k=>P.underlying t=some (.int k)
 | .bool=>P.underlying t=some .bool
 | .str=>P.underlying t=some .string
 | .pt=> ∃ e,P.underlying t=some (.pointer e)
 | .sl e=> ∃ te ie,P.underlying t=some (.slice te)∧S.ty te=some e∧P.info? te=some ie∧ie.bytes=ai t∧1≤ai t
 | .st u=>(S.ex u (S.z u)=n_ S (S.F u)∧(P.built t []).isSome=true)∧match S.ar t with
  | none=> ∃ fs,P.underlying t=some (.struct fs)∧
   ∀ f o T',S.dO u f=some (o,T')→ ∃ fd,fs[f]? =some fd∧fd.offset=o∧S.ty fd.type=some T'∧1≤Ty.sz S T'∧o+Ty.sz S T'≤(S.F u).length
  | some (n,e)=> ∃ te,P.underlying t=some (.array n te)∧S.ty te=some e∧((Ty.sz S e=1∧bg e=false∧S.F u=List.replicate n e)∨ ∃ w,e= .st w∧S.F u=(List.replicate n (S.F w)).flatten)∧ ∀ f o T',S.dO u f=some (o,T')→o=f*Ty.sz S e∧T'=e∧f<n
def sB (S:aP):List Field→List Ty→Nat→Prop
 | [],[],_=>True
 | fd::fs,T::ts,i=>fd.offset=i∧fd.name≠ "_" ∧S.ty fd.type=some T∧(match T with | .int _=>True | .bool=>True | .str=>True | _=>False)∧sB S fs ts (i+1)
 | _,_,_=>False
def sC (P:Program) (S:aP):List Field→List Ty→Nat→Prop
 | [],ts,_=>ts= []
 | fd::fs,ts,i=>fd.offset=i∧fd.name≠ "_" ∧
  ((∃ T r,ts=T::r∧S.ty fd.type=some T∧(match T with | .int _=>True | .bool=>True | .str=>True | _=>False)∧sC P S fs r (i+1))∨
   ∃ v r gs,ts=S.F v++r∧S.ty fd.type=some (.st v)∧P.underlying fd.type=some (.struct gs)∧P.stoodInHeld fd.type=false∧1≤(S.F v).length∧sB S gs.toList (S.F v) 0∧sC P S fs r (i+(S.F v).length))
def EqAt (P:Program) (S:aP) (t:Nat):Prop:=
 ∃ u,S.ty t=some (.st u)∧(∃ fs,P.underlying t=some (.struct fs)∧sC P S fs.toList (S.F u) 0)∧P.stoodInHeld t=false∧P.eqGuardType P.depth t=false
structure aU:Prop extends cz S where
 ty: ∀ t T,S.ty t=some T→bP P S ai t T
 pt: ∀ t,S.pt t=true→ ∃ e,P.underlying t=some (.pointer e)
 eq: ∀ t,S.eq t=true→EqAt P S t
 nu: ∀ t,S.nu t=true→ ∃ ms,P.underlying t=some (.interface ms)
 bt: ∀ p,S.bt=some p→p.1≠p.2∧ ∃ i z,P.info? p.1=some i∧i.zero=some z∧z.cells= #[.pointer none, .slice none 0 0]
variable {P S ai}
theorem aU.agg (h:aU P S ai) {t:Nat} {T:Ty} (ht:S.ty t=some T) (w:World):(Go.isAgg t).run P w= .ok (bg T) w:=by
 obtain ⟨_,h2⟩:=h.ty t T ht
 unfold Go.isAgg
 cases T with
 | int k=>simp [run_underlying h2,bg]
 | bool=>simp [run_underlying h2,bg]
 | str=>simp [run_underlying h2,bg]
 | pt=>obtain ⟨e,h2⟩:=h2; simp [run_underlying h2,bg]
 | sl e=>obtain ⟨te,ie,hu,_⟩:=h2; simp [run_underlying hu,bg]
 | st u=>
  obtain ⟨_,h2⟩:=h2
  cases ha:S.ar t with
  | none=>rw [ha] at h2; obtain ⟨fs,hu,_⟩:=h2; simp [run_underlying hu,bg]
  | some p=>rw [ha] at h2; obtain ⟨te,hu,_⟩:=h2; simp [run_underlying hu,bg]
theorem aU.size (h:aU P S ai) {t:Nat} {T:Ty} (ht:S.ty t=some T) (w:World):(Go.sizeOf t).run P w= .ok (Ty.sz S T) w:=by
 obtain ⟨⟨i,z,h1,h2,_⟩,_⟩:=h.ty t T ht
 simp [Go.sizeOf,typeInfo,h1,h2]
theorem aU.Ii (h:aU P S ai) {t:Nat} {T:Ty} (ht:S.ty t=some T): ∃ d,P.underlying t=some d:=by
 obtain ⟨_,h2⟩:=h.ty t T ht
 cases T with
 | int k=>exact ⟨_,h2⟩
 | bool=>exact ⟨_,h2⟩
 | str=>exact ⟨_,h2⟩
 | pt=>obtain ⟨e,h2⟩:=h2; exact ⟨_,h2⟩
 | sl e=>obtain ⟨te,ie,hu,_⟩:=h2; exact ⟨_,hu⟩
 | st u=>
  obtain ⟨_,h2⟩:=h2
  cases ha:S.ar t with
  | none=>rw [ha] at h2; obtain ⟨fs,hu,_⟩:=h2; exact ⟨_,hu⟩
  | some p=>rw [ha] at h2; obtain ⟨te,hu,_⟩:=h2; exact ⟨_,hu⟩
theorem dQ {bx:Bx S.C} {ids:List Nat} {i:Nat} {B:cZ S.C} (h:restrict S bx ids i=some B):bx i=some B:=by
 unfold restrict at h
 cases e:ids.contains i with
 | true=>rw [e] at h; exact h
 | false=>rw [e] at h; cases h
variable {w0:World} {M0 s0:St} {dq:List Deferred} {env:Env S.C} {a:Act} {w:World} {μ:Nat→Loc} {K:Act→World→Prop} {Q:Exit→Act→World→Prop} {o:Oper} {V:V S.C} {us:aH S.C}
def Goal (P:Program) (S:aP) (w0:World) (M0 s0:St) (dq:List Deferred) (env:Env S.C) (a:Act) (dst:Option Nat) (V:Sy.V S.C) (us:aH S.C) (K:Act→World→Prop):Prop:=
 ∀ a' w' μ',Inv P S w0 M0 s0 dq (env.apply dst V us) a' w' μ'→a'.tmps.size=a.tmps.size→K a' w'
theorem bl {V V':Sy.V S.C} {us us':aH S.C} (h:(aA S V us).leaf (V',us')):V'=V∧us'=us:=by
 have :(V,us)=(V',us'):=h
 cases this; exact ⟨rfl,rfl⟩
theorem Bb {nl:Bool} (h:Inv P S w0 M0 s0 dq env a w μ) (hd: ∀ d,o.dst=some d→d<a.tmps.size) {x:Operand} {B:Nat} (ho:execOp a.eval o=pure (.value (a.eval x)))
 (hnew: ∀ u ∈ us,B≤u.1→u.1<B+16→env.bx u.1=none)
 (hl:(match aN S env.tm x with
  | some .b8=>cond nl (aA S .b8 []) (match dR S o.type with
   | some e=>aA S (.aW B e []) [(B, .tail)]
   | none=> .fail)
  | some v=>aA S v []
  | none=> .fail).leaf (V,us)) (hK:Goal P S w0 M0 s0 dq env a o.dst V us K):o.wp P a w K Q:=by
 have hrun:(execOp a.eval o).run P w= .ok (.value (a.eval x)) w:=by rw [ho]; rfl
 split at hl
 · rename_i hx
   obtain ⟨hv,_⟩:=bk h hx
   cases nl with
   | true=>
    obtain ⟨rfl,rfl⟩:=bl hl
    exact wp_pure h hrun hd hv (by simp [az,ax]) hK
   | false=>
   rw [cond_false] at hl
   split at hl
   · rename_i e he
     obtain ⟨rfl,rfl⟩:=bl hl
     have hB:=hnew (B, .tail) (by simp) (Nat.le_refl _) (by show B<B+16; omega)
     have hv:a.eval x= .slice none 0 0:=hv
     refine n7 (i:=B) (B:= .tail) (L:=⟨0,0,0,0,true⟩) h hrun hd (aX.refl w _) hB (fun b o hf=> ?_) (fun _ _ _=>⟨fun j hj=>absurd hj (Nat.not_lt_zero j), ?_⟩) (by simp) (fun j hj=> .inl (by simpa [az,ax] using hj)) hK
     · have h1:=hf.2.1; have h2:=hf.2.2; simp at h2
     · rw [hv]
       refine ⟨⟨rfl,1,none,0,rfl,Nat.le_refl _, .inl rfl⟩,fun _=>⟨none,0,rfl, ?_⟩⟩
       rw [aO]
       exact .inl ⟨rfl,rfl,rfl⟩
   · exact hl.elim
 · rename_i v hne hx
   obtain ⟨rfl,rfl⟩:=bl hl
   obtain ⟨hv,hr⟩:=bk h hx
   exact wp_pure h hrun hd hv hr hK
 · exact hl.elim
theorem jz {w:World} {s:St} {k:IntKind} {n:Int} {v:Value} (h:bU S w s (.int k) n v):v= .int k n:=by
 obtain ⟨ha,m,hm⟩:=h
 cases m with
 | zero=>exact hm.elim
 | succ m=>exact mW hm ha
theorem oe {w:World} {s:St} {b:Bool} {v:Value} (h:bU S w s .bool b v):v= .bool b:=by
 obtain ⟨ha,m,hm⟩:=h
 cases m with
 | zero=>exact hm.elim
 | succ m=>exact mW hm ha
theorem kq {w:World} {s:St} {b:List UInt8} {v:Value} (h:bU S w s .str b v):v= .string ⟨b.toArray⟩:=by
 obtain ⟨ha,m,hm⟩:=h
 cases m with
 | zero=>exact hm.elim
 | succ m=>exact mW hm ha
theorem jA {w:World} {s:St} {e:Ty} {l:List (e.den S.C)} {v:Value} (h:bU S w s (.sl e) l v):
 ∃ a cap,v= .slice a l.length cap∧l.length≤cap∧(l.length=0∨ ∃ b o n,a=some ⟨b,o,none⟩∧sA S (fun t x cs=>aB S w s n t x cs) w s e b o l):=by
 obtain ⟨ha,m,hm⟩:=h
 cases m with
 | zero=>exact hm.elim
 | succ m=>
  obtain ⟨a,cap,h1,h2,h3⟩:=hm
  exact ⟨a,cap,mW h1 ha,h2,h3.imp id fun ⟨b,o,h4,h5⟩=>⟨b,o,m,h4,h5⟩⟩
theorem gy (w:World) (s:St) (k:IntKind) (n:Int):bU S w s (.int k) n (.int k n):=⟨rfl,1,rfl⟩
theorem lD (w:World) (s:St) (b:Bool):bU S w s .bool b (.bool b):=⟨rfl,1,rfl⟩
theorem vl (w:World) (s:St) (b:List UInt8):bU S w s .str b (.string ⟨b.toArray⟩):=⟨rfl,1,rfl⟩
theorem gR {w:World} {s:St} {bx:Bx S.C} {V:Sy.V S.C} {v:Value} {k:IntKind} {n:Int} (h:RV P S w s μ bx V v) (hi:V.int?=some (k,n)):v= .int k n:=by
 unfold Sy.V.int? at hi
 split at hi
 · cases hi; exact jz h
 · cases hi
theorem yF {w:World} {s:St} {bx:Bx S.C} {V:Sy.V S.C} {v:Value} {b:List UInt8} (h:RV P S w s μ bx V v) (hi:V.nZ=some b):v= .string ⟨b.toArray⟩:=by
 unfold Sy.V.nZ at hi
 split at hi
 · cases hi; exact kq h
 · cases hi
theorem Dn {w:World} {s:St} {bx:Bx S.C} {V:Sy.V S.C} {v:Value} {b:Bool} (h:RV P S w s μ bx V v) (hi:V.bool?=some b):v= .bool b:=by
 unfold Sy.V.bool? at hi
 split at hi
 · cases hi; exact oe h
 · cases hi; exact h
 · cases hi
theorem Eg (h:Inv P S w0 M0 s0 dq env a w μ) {x:Operand} {b:Bool} (hx:aN S env.tm x=some (.d .bool b)):a.eval x= .bool b:=
 oe (bk h hx).1
theorem Pv (h:Inv P S w0 M0 s0 dq env a w μ) (hd: ∀ d,o.dst=some d→d<a.tmps.size) {c x y:Operand} (ho:o.op= .pick c x y)
 (hl:(match aN S env.tm c with
  | some (.d .bool b)=>match (b:Bool) with
   | true=>match aN S env.tm x with
    | some v=>aA S v []
    | none=> .fail
   | false=>match aN S env.tm y with
    | some v=>aA S v []
    | none=> .fail
  | _=> .fail).leaf (V,us)) (hK:Goal P S w0 M0 s0 dq env a o.dst V us K):o.wp P a w K Q:=by
 split at hl
 · rename_i b hc
   have hb:=Eg h hc
   cases b with
   | true=>
    dsimp only at hl
    split at hl
    · rename_i v hx
      obtain ⟨rfl,rfl⟩:=bl hl
      obtain ⟨hv,hr⟩:=bk h hx
      exact wp_pure h (by simp [execOp,ho,hb,asBool]) hd hv hr hK
    · exact hl.elim
   | false=>
    dsimp only at hl
    split at hl
    · rename_i v hx
      obtain ⟨rfl,rfl⟩:=bl hl
      obtain ⟨hv,hr⟩:=bk h hx
      exact wp_pure h (by simp [execOp,ho,hb,asBool]) hd hv hr hK
    · exact hl.elim
 · exact hl.elim
end
end Go.Sy
namespace Go.Sy
section
variable {P:Program} {S:aP} {ai:Nat→Nat}
variable {w0:World} {M0 s0:St} {dq:List Deferred} {env:Env S.C} {a:Act} {w:World} {μ:Nat→Loc} {K:Act→World→Prop} {Q:Exit→Act→World→Prop} {o:Oper} {V:V S.C} {us:aH S.C}
theorem qj {α:Type} [BEq α] [LawfulBEq α] [DecidableEq α] (x y:α):(x == y)=decide (x=y):=by rw [Bool.eq_iff_iff]; simp
theorem eJ {gs:List Gd} {V':Sy.V S.C} {us':aH S.C} (h:(Tr.gd gs (aA S V' us')).leaf (V,us)):(∀ g ∈ gs,g.p)∧V=V'∧us=us':=by
 obtain ⟨h1,h2⟩:=Tr.A3 gs h
 exact ⟨h1,bl h2⟩
theorem JP {op:BinOp} {k k':IntKind} (hk:FJ op=true∨k=k') {x y:Int} {gs:List Gd} (h:arith S op k x y=some (gs,V)) (hg: ∀ g ∈ gs,g.p) (t:TypeId) (w:World):
 (∃ v,(binOp op t (.int k x) (.int k' y)).run P w= .ok v w∧ ∀ (w1:World) (s:St) (μ:Nat→Loc) (bx:Bx S.C),RV P S w1 s μ bx V v)∧az S V= []:=by
 cases op <;> simp only [arith] at h <;> cases h
 case add=>rcases hk with hk | rfl; cases hk; exact ⟨⟨_,by simp [binOp,Op.intArith],fun _ _ _ _=>gy ..⟩,rfl⟩
 case sub=>rcases hk with hk | rfl; cases hk; exact ⟨⟨_,by simp [binOp,Op.intArith],fun _ _ _ _=>gy ..⟩,rfl⟩
 case mul=>rcases hk with hk | rfl; cases hk; exact ⟨⟨_,by simp [binOp,Op.intArith],fun _ _ _ _=>gy ..⟩,rfl⟩
 case quo=>
  rcases hk with hk | rfl; cases hk
  have h0: ¬ y=0:=hg _ (List.mem_singleton.2 rfl)
  exact ⟨⟨_,by simp [binOp,Op.intDiv,h0],fun _ _ _ _=>gy ..⟩,rfl⟩
 case rem=>
  rcases hk with hk | rfl; cases hk
  have h0: ¬ y=0:=hg _ (List.mem_singleton.2 rfl)
  exact ⟨⟨_,by simp [binOp,Op.intDiv,h0],fun _ _ _ _=>gy ..⟩,rfl⟩
 case and=>rcases hk with hk | rfl; cases hk; exact ⟨⟨_,by simp [binOp,Op.intBits],fun _ _ _ _=>gy ..⟩,rfl⟩
 case shl=>
  have h0:0≤y:=hg _ (List.mem_singleton.2 rfl)
  have h0': ¬ y<0:=by omega
  exact ⟨⟨_,by simp [binOp,Op.shift,h0'],fun _ _ _ _=>gy ..⟩,rfl⟩
 case shr=>
  have h0:0≤y:=hg _ (List.mem_singleton.2 rfl)
  have h0': ¬ y<0:=by omega
  exact ⟨⟨_,by simp [binOp,Op.shift,h0'],fun _ _ _ _=>gy ..⟩,rfl⟩
 case eql=>rcases hk with hk | rfl; cases hk; exact ⟨⟨.bool (decide (x=y)),by simp [binOp,Op.intCmp,qj],fun _ _ _ _=>rfl⟩,rfl⟩
 case neq=>rcases hk with hk | rfl; cases hk; exact ⟨⟨.bool (decide (x≠y)),by simp [binOp,Op.intCmp,bne,qj],fun _ _ _ _=>rfl⟩,rfl⟩
 case lss=>rcases hk with hk | rfl; cases hk; exact ⟨⟨.bool (decide (x<y)),by simp [binOp,Op.intCmp],fun _ _ _ _=>rfl⟩,rfl⟩
 case leq=>rcases hk with hk | rfl; cases hk; exact ⟨⟨.bool (decide (x≤y)),by simp [binOp,Op.intCmp],fun _ _ _ _=>rfl⟩,rfl⟩
 case gtr=>rcases hk with hk | rfl; cases hk; exact ⟨⟨.bool (decide (y<x)),by simp [binOp,Op.intCmp],fun _ _ _ _=>rfl⟩,rfl⟩
 case geq=>rcases hk with hk | rfl; cases hk; exact ⟨⟨.bool (decide (y≤x)),by simp [binOp,Op.intCmp],fun _ _ _ _=>rfl⟩,rfl⟩
theorem RJ {op:BinOp} {x y:List UInt8} {gs:List Gd} (h:Ct S op x y=some (gs,V)) (hg: ∀ g ∈ gs,g.p) (t:TypeId) (w:World):
 (∃ v,(binOp op t (.string ⟨x.toArray⟩) (.string ⟨y.toArray⟩)).run P w= .ok v w∧ ∀ (w1:World) (s:St) (μ:Nat→Loc) (bx:Bx S.C),RV P S w1 s μ bx V v)∧az S V= []:=by
 cases op <;> simp only [Ct] at h <;> cases h
 case add=>
  have h0:x.length+y.length≤9223372036854775807:=hg _ (List.mem_singleton.2 rfl)
  refine ⟨⟨.string ⟨(x++y).toArray⟩, ?_,fun _ _ _ _=>vl ..⟩,rfl⟩
  have h1: ¬ (IntKind.i64.max<((ByteArray.size ⟨x.toArray⟩+ByteArray.size ⟨y.toArray⟩:Nat):Int)):=by
   show ¬ ((9223372036854775807:Int)<((x.toArray.size+y.toArray.size:Nat):Int))
   simp; omega
  have h2:(⟨x.toArray⟩:ByteArray)++⟨y.toArray⟩=⟨(x++y).toArray⟩:=by
   apply ByteArray.ext; simp
  simp only [binOp,Op.stringOp]
  rw [if_neg h1,h2]
  rfl
 case eql=>exact ⟨⟨.bool (decide (x=y)),by simp [binOp,Op.stringOp,qj],fun _ _ _ _=>rfl⟩,rfl⟩
 case neq=>exact ⟨⟨.bool (decide (x≠y)),by simp [binOp,Op.stringOp,qj],fun _ _ _ _=>rfl⟩,rfl⟩
def Bu:Value→Bool
 | .agg _ | .nilIface=>false
 | _=>true
theorem zH {op:BinOp} {t:TypeId} {x y:Operand} {v u:Value} (h:Bu v=true) (w:World):(eqGuard op t x y v u).run P w= .ok () w:=by
 unfold eqGuard
 cases v <;> first | (simp [Bu] at h; done) | (simp; done) | (simp; split <;> rfl)
theorem QX (d:Nat) {t:TypeId} (hu:P.underlying t=some .bool) (b c:Bool) (w:World):(Op.equalIn (d+1) t (.bool b) (.bool c)).run P w= .ok (b == c) w:=by
 unfold Op.equalIn
 simp [run_underlying hu]
theorem G6 {t:TypeId} (hu:P.underlying t=some .bool) (b c:Bool) (w:World):(Op.equal t (.bool b) (.bool c)).run P w= .ok (b == c) w:=QX 9999 hu b c w
theorem QY (d:Nat) {t e:TypeId} (hu:P.underlying t=some (.pointer e))  (w:World):(Op.equalIn (d+1) t (.pointer none) (.pointer none)).run P w= .ok true w:=by
 unfold Op.equalIn
 simp [run_underlying hu]
theorem G7 {t e:TypeId} (hu:P.underlying t=some (.pointer e))  (w:World):(Op.equal t (.pointer none) (.pointer none)).run P w= .ok true w:=QY 9999 hu w
theorem QZ (d:Nat) {t e:TypeId} (hu:P.underlying t=some (.pointer e)) (p:Addr) (w:World):(Op.equalIn (d+1) t (.pointer (some p)) (.pointer none)).run P w= .ok false w:=by
 unfold Op.equalIn
 simp [run_underlying hu]
theorem G8 {t e:TypeId} (hu:P.underlying t=some (.pointer e)) (p:Addr) (w:World):(Op.equal t (.pointer (some p)) (.pointer none)).run P w= .ok false w:=QZ 9999 hu p w
theorem J0 (hP:aU P S ai) (h:Inv P S w0 M0 s0 dq env a w μ) (hd: ∀ d,o.dst=some d→d<a.tmps.size) {op:BinOp} {t t':TypeId} {x y:Operand} (ho:o.op= .binOp op t x y t')
 (hl:(match aN S env.tm x,aN S env.tm y with
  | some p,some q=>match vU S op t p q with
   | some (gs,v)=>Tr.gd gs (aA S v [])
   | none=> .fail
  | _,_=> .fail).leaf (V,us)) (hK:Goal P S w0 M0 s0 dq env a o.dst V us K):o.wp P a w K Q:=by
 split at hl
 · rename_i p q hx hy
   split at hl
   · rename_i gs v hb
     obtain ⟨hg,rfl,rfl⟩:=eJ hl
     obtain ⟨hv1,_⟩:=bk h hx
     obtain ⟨fe,_⟩:=bk h hy
     have fin: ∀ (v1 v2:Value),a.eval x=v1→a.eval y=v2→Bu v1=true→
      ((∃ v,(binOp op t v1 v2).run P w= .ok v w∧ ∀ (w1:World) (s:St) (μ:Nat→Loc) (bx:Bx S.C),RV P S w1 s μ bx V v)∧az S V= [])→o.wp P a w K Q:=by
      rintro v1 v2 e1 e2 ha ⟨⟨v,hr,hv⟩,hid⟩
      refine wp_pure h (v:=v) ?_ hd (hv ..) (by simp [hid]) hK
      unfold execOp
      simp only [ho,e1,e2]
      simp [zH ha,hr]
     unfold vU at hb
     split at hb
     · rename_i k i k' j h1 h2
       split at hb
       · rename_i hk
         exact fin _ _ (gR hv1 h1) (gR fe h2) rfl (JP hk hb hg t w)
       · cases hb
     · split at hb
       · rename_i h1 h2
         exact fin _ _ (yF hv1 h1) (yF fe h2) rfl (RJ hb hg t w)
       · split at hb
         · rename_i b c h1 h2
           have e1:=Dn hv1 h1
           have e2:=Dn fe h2
           cases hty:S.ty t with
           | none=>rw [hty] at hb; cases hb
           | some T=>
            rw [hty] at hb
            cases T with
            | bool=>
             have hu:P.underlying t=some .bool:=(hP.ty t _ hty).2
             refine fin _ _ e1 e2 rfl ?_
             dsimp only [cond] at hb
             split at hb <;> cases hb
             · exact ⟨⟨.bool (decide (b=c)),by simp [binOp,G6 hu,qj],fun _ _ _ _=>rfl⟩,rfl⟩
             · exact ⟨⟨.bool (decide (b≠c)),by simp [binOp,G6 hu,qj],fun _ _ _ _=>rfl⟩,rfl⟩
            | _=>cases hb
         · cases Au:S.pt t with
           | false=>rw [Au] at hb; cases hb
           | true=>
            rw [Au] at hb
            obtain ⟨e,hu⟩:=hP.pt t Au
            dsimp only [cond] at hb
            split at hb
            · have e1:a.eval x= .pointer none:=hv1
              have e2:a.eval y= .pointer none:=fe
              refine fin _ _ e1 e2 rfl ?_
              split at hb <;> cases hb
              · exact ⟨⟨.bool true,by simp [binOp,G7 hu],fun _ _ _ _=>lD ..⟩,rfl⟩
              · exact ⟨⟨.bool false,by simp [binOp,G7 hu],fun _ _ _ _=>lD ..⟩,rfl⟩
            · rename_i b off
              have e2:a.eval y= .pointer none:=fe
              have e1:a.eval x=_:=hv1
              refine fin _ _ e1 e2 rfl ?_
              split at hb <;> cases hb
              · exact ⟨⟨.bool false,by simp [binOp,G8 hu],fun _ _ _ _=>lD ..⟩,rfl⟩
              · exact ⟨⟨.bool true,by simp [binOp,G8 hu],fun _ _ _ _=>lD ..⟩,rfl⟩
            · cases hb
   · exact hl.elim
 · exact hl.elim
end
end Go.Sy
namespace Go.Sy
section
variable {P:Program} {S:aP} {ai:Nat→Nat}
variable {w0:World} {M0 s0:St} {dq:List Deferred} {env:Env S.C} {a:Act} {w:World} {μ:Nat→Loc} {K:Act→World→Prop} {Q:Exit→Act→World→Prop} {o:Oper} {V:V S.C} {us:aH S.C}
theorem lH {t:Nat} {e:Ty} (h:dR S t=some e):S.ty t=some (.sl e):=by
 unfold dR at h
 split at h
 · rename_i e' he; cases h; exact he
 · cases h
theorem aU.sl (hP:aU P S ai) {t:Nat} {e:Ty} (h:S.ty t=some (.sl e)): ∃ te ie z,P.underlying t=some (.slice te)∧S.ty te=some e∧P.info? te=some ie∧ie.bytes=ai t∧1≤ai t∧ie.size=Ty.sz S e∧ie.zero=some z∧isAgg z=bg e∧z.cells.toList=qc S e:=by
 obtain ⟨_,te,ie,h1,h2,h3,h4,h5⟩:=hP.ty t _ h
 obtain ⟨⟨i,z,g1,g2,g3,g4,g5⟩,_⟩:=hP.ty te e h2
 rw [h3] at g1
 cases g1
 exact ⟨te,ie,z,h1,h2,h3,h4,h5,g2,g3,g4,g5⟩
theorem B7 (hP:aU P S ai) {t:Nat} {e:Ty} (ht:S.ty t=some (.sl e)) {b o' n cap:Nat} {k:IntKind} {i:Int} (h0:0≤i) (h1:i<(n:Int)) (w:World):
 (Instr.indexAt t (.slice (some ⟨b,o',none⟩) n cap) (.int k i)).run P w= .ok (.pointer (some ⟨b,o'+i.toNat*Ty.sz S e,none⟩)) w:=by
 obtain ⟨te,ie,z,hu,he,_⟩:=hP.sl ht
 simp [Instr.indexAt,asIntOf,run_underlying hu,h0,h1,hP.size he w,Addr.add_mid]
theorem qB {e:Ty} {l:List (e.den S.C)} {i:Int} (h0:0≤i) (h1:i<(l.length:Int)):l[i.toNat]? =some (fG S e l i):=by
 have :i.toNat<l.length:=by omega
 unfold fG
 rw [List.getD_eq_getElem?_getD,List.getElem?_eq_getElem this]
 rfl
theorem Gv {b:Nat} {i:Int} {p:Sy.V S.C×aH S.C} : ∀ (n j:Nat),(Bt S b i j n).leaf p→ ∃ k:Nat,i=(k:Int)∧p=(.ptr b k,[])
 | 0,_,h=>h.elim
 | n+1,j,h=>by
  rcases h with ⟨h1,h2⟩ | ⟨_,h2⟩
  · exact ⟨j,h1,h2.symm⟩
  · exact Gv n (j+1) h2
theorem NQ (hP:aU P S ai) (h:Inv P S w0 M0 s0 dq env a w μ) (hd: ∀ d,o.dst=some d→d<a.tmps.size) {t:TypeId} {x i:Operand} {ids:List Nat} (ho:o.op= .indexAddr t x i)
 (hl:(match dR S t,aN S env.tm x,aN S env.tm i with
  | some e,some v,some w=>match w.int? with
   | some (_,n)=>AR S e (restrict S env.bx ids) n v
   | none=> .fail
  | _,_,_=> .fail).leaf (V,us)) (hK:Goal P S w0 M0 s0 dq env a o.dst V us K):o.wp P a w K Q:=by
 split at hl
 · rename_i e v wv het hx hi
   have ht:=lH het
   obtain ⟨hv,cO⟩:=bk h hx
   obtain ⟨lQ,_⟩:=bk h hi
   split at hl
   · rename_i k n hn
     have hin:=gR lQ hn
     have data: ∀ (e':Ty) (l:List (e'.den S.C)),bU S w (aE S w0 M0 s0 env.bx μ w) (.sl e') l (a.eval x)→(if e'=e then Tr.gd (dD n l.length) (aA S (.cN e' (fG S e' l n)) []) else .fail).leaf (V,us)→o.wp P a w K Q:=by
      intro e' l hr bR
      clear hl
      split at bR
      · rename_i he
        subst he
        obtain ⟨hg,rfl,rfl⟩:=eJ bR
        have g0:0≤n:=hg ⟨0≤n,inferInstance⟩ (by simp [dD,gd])
        have g1:n<(l.length:Int):=hg ⟨n<(l.length:Int),inferInstance⟩ (by simp [dD,gd])
        obtain ⟨ad,cap,e1,e2,e3⟩:=jA hr
        rcases e3 with e3 | ⟨b,o',m,rfl,hel⟩
        · omega
        · obtain ⟨ds,d1,d2,d3⟩:=hel n.toNat _ (qB g0 g1)
          refine wp_pure (V:= .cN e' (fG S e' l n)) h (v:= .pointer (some ⟨b,o'+n.toNat*Ty.sz S e',none⟩)) ?_ hd ⟨b,_,ds,rfl,d2,d1,m,d3⟩ (by simp [az,ax]) hK
          unfold execOp
          simp only [ho,e1,hin]
          simp [B7 hP ht g0 g1]
      · exact bR.elim
     have own: ∀ (b:Nat) (e':Ty) (l:List (e'.den S.C)),v= .aM b→(env.bx b=some (.arr e' l)∨env.bx b=some (.bw e' l))→(if e'=e then Tr.gd (dD n l.length) (aA S (.dY b n 0) []) else .fail).leaf (V,us)→o.wp P a w K Q:=by
      intro b e' l AA hb bR
      clear hl
      split at bR
      · rename_i he
        subst he
        obtain ⟨hg,rfl,rfl⟩:=eJ bR
        have g0:0≤n:=hg ⟨0≤n,inferInstance⟩ (by simp [dD,gd])
        have g1:n<(l.length:Int):=hg ⟨n<(l.length:Int),inferInstance⟩ (by simp [dD,gd])
        subst AA
        obtain ⟨ad,cap,e1,hao⟩:=hv.2 e' l hb
        have Nq:(μ b).nil=false:=by
         cases jS:(μ b).nil with
         | false=>rfl
         | true=>have :=hao.isNil jS; have :=hao.iO; have :=hao.fits; omega
        have had:ad=some ⟨(μ b).b,(μ b).o,none⟩:=by rw [hao.addr,Nq]; rfl
        subst had
        refine wp_pure (V:= .dY b n 0) h (v:= .pointer (some ⟨(μ b).b,(μ b).o+n.toNat*Ty.sz S e',none⟩)) ?_ hd ⟨⟨_,rfl⟩,fun e'' l'' tK=> ?_⟩ (fun j hj=>cO j (by simpa [az,ax] using hj)) hK
        · unfold execOp
          simp only [ho,e1,hin]
          simp [B7 hP ht g0 g1]
        · have :(∃ h:e''=e',h▸l''=l):=by
           rcases hb with hb | hb <;> rcases tK with tK | tK <;> rw [hb] at tK <;> cases tK <;> exact ⟨rfl,rfl⟩
          obtain ⟨rfl,rfl⟩:=this
          exact ⟨g0,by show n.toNat<l''.length; have g1:n<(l''.length:Int):=g1; omega,rfl⟩
      · exact bR.elim
     unfold AR at hl
     split at hl
     · exact data _ _ hv hl
     · exact data _ _ hv.1 hl
     · rename_i b
       split at hl
       · rename_i hb; exact own _ _ _ rfl (.inl (dQ hb)) hl
       · rename_i hb; exact own _ _ _ rfl (.inr (dQ hb)) hl
       · exact hl.elim
     · rename_i b m
       split at hl
       · rename_i e1
         obtain ⟨hg,hl⟩:=Tr.A3 _ hl
         have g0:0≤n:=hg ⟨0≤n,inferInstance⟩ (by simp [dD,gd])
         have g1:n<(m:Int):=hg ⟨n<(m:Int),inferInstance⟩ (by simp [dD,gd])
         obtain ⟨j,hj,hp⟩:=Gv m 0 hl
         cases hp
         have hv:a.eval x= .slice (some ⟨(μ b).b,(μ b).o,none⟩) m m:=hv
         have e2:n.toNat=j:=by omega
         refine wp_pure (V:= .ptr b j) h (v:= .pointer (some ⟨(μ b).b,(μ b).o+j,none⟩)) ?_ hd rfl (fun j hj=>cO j (by simpa [az,ax] using hj)) hK
         unfold execOp
         simp only [ho,hv,hin]
         have :=B7 hP ht (b:=(μ b).b) (o':=(μ b).o) (n:=m) (cap:=m) (k:=k) g0 g1
         rw [e2,show j*Ty.sz S (.sl e1)=j from Nat.mul_one j] at this
         simp [this]
       · exact hl.elim
     · exact hl.elim
   · exact hl.elim
 · exact hl.elim
theorem NS (hP:aU P S ai) (h:Inv P S w0 M0 s0 dq env a w μ) (hd: ∀ d,o.dst=some d→d<a.tmps.size) {t:TypeId} {x i:Operand} (ho:o.op= .index t x i)
 (hl:(match aN S env.tm x,aN S env.tm i with
  | some v,some w=>match S.ty t,v.nZ,w.int? with
   | some .str,some s,some (_,n)=>Tr.gd (dD n s.length) (aA S (.d (.int .u8) (((s.getD n.toNat 0).toNat:Nat):Int)) [])
   | _,_,_=> .fail
  | _,_=> .fail).leaf (V,us)) (hK:Goal P S w0 M0 s0 dq env a o.dst V us K):o.wp P a w K Q:=by
 split at hl
 · rename_i v wv hx hi
   obtain ⟨hv,cO⟩:=bk h hx
   obtain ⟨lQ,_⟩:=bk h hi
   split at hl
   · rename_i s k n ht hs hn
     obtain ⟨hg,rfl,rfl⟩:=eJ hl
     have g0:0≤n:=hg ⟨0≤n,inferInstance⟩ (by simp [dD,gd])
     have g1:n<(s.length:Int):=hg ⟨n<(s.length:Int),inferInstance⟩ (by simp [dD,gd])
     have hu:P.underlying t=some .string:=(hP.ty t _ ht).2
     have hlt:n.toNat<s.length:=by omega
     refine wp_pure (V:= .d (.int .u8) (((s.getD n.toNat 0).toNat:Nat):Int)) h (v:= .int .u8 (((s.getD n.toNat 0).toNat:Nat):Int)) ?_ hd (gy ..) (by simp [az,ax]) hK
     unfold execOp
     simp only [ho,yF hv hs,gR lQ hn]
     have e1:(⟨s.toArray⟩:ByteArray)[n.toNat]? =some (s.getD n.toNat 0):=by
      rw [List.getD_eq_getElem?_getD,List.getElem?_eq_getElem hlt]
      show (if h:n.toNat<s.toArray.size then some _ else none)=_
      rw [dif_pos (by simpa using hlt)]
      rfl
     simp [Instr.index,asIntOf,run_underlying hu,g0,e1]
   · exact hl.elim
 · exact hl.elim
theorem LR (h:Inv P S w0 M0 s0 dq env a w μ) (hd: ∀ d,o.dst=some d→d<a.tmps.size) {x:Operand} {i:Nat} (ho:o.op= .extract x i)
 (hl:(match aN S env.tm x with
  | some (.gm vs)=>match vs[i]? with
   | some v=>aA S v []
   | none=> .fail
  | _=> .fail).leaf (V,us)) (hK:Goal P S w0 M0 s0 dq env a o.dst V us K):o.wp P a w K Q:=by
 split at hl
 · rename_i vs hx
   obtain ⟨⟨cs,hv,hvs⟩,cO⟩:=bk h hx
   split at hl
   · rename_i v hi
     obtain ⟨rfl,rfl⟩:=bl hl
     obtain ⟨c,hc,hr⟩:=aF.get P S i hvs hi
     refine wp_pure h (v:=c) ?_ hd (ko hr) (fun j hj=> ?_) hK
     · unfold execOp
       have :cs[i]? =some c:=by simpa using hc
       simp only [ho,hv]
       simp [Instr.extract,this]
     · refine cO j ?_
       simp only [az,List.mem_flatMap]
       refine ⟨V,List.mem_of_getElem? hi, ?_⟩
       cases V <;> first | exact hj | exact (hr:False).elim
   · exact hl.elim
 · exact hl.elim
theorem O5 (h:Inv P S w0 M0 s0 dq env a w μ) (hd: ∀ d,o.dst=some d→d<a.tmps.size) {x:Operand} (ho:o.op= .nilCheck x)
 (hl:(match aN S env.tm x with
  | some (.ptr b o)=>aA S (.ptr b o) []
  | some (.cN t x)=>aA S (.cN t x) []
  | some (.dY b i p)=>aA S (.dY b i p) []
  | some (.split b c)=>aA S (.split b c) []
  | _=> .fail).leaf (V,us)) (hK:Goal P S w0 M0 s0 dq env a o.dst V us K):o.wp P a w K Q:=by
 have fin: ∀ ad,a.eval x= .pointer (some ad)→aN S env.tm x=some V→us= []→o.wp P a w K Q:=by
  rintro ad he hx rfl
  obtain ⟨hv,hr⟩:=bk h hx
  refine wp_pure h (v:=a.eval x) ?_ hd hv hr hK
  unfold execOp
  simp only [ho,he]
  rfl
 split at hl
 · rename_i b off hx
   obtain ⟨rfl,rfl⟩:=bl hl
   have hv:a.eval x=_:=(bk h hx).1
   exact fin _ hv hx rfl
 · rename_i t y hx
   obtain ⟨rfl,rfl⟩:=bl hl
   obtain ⟨b,o',ds,hv,_⟩:=(bk h hx).1
   exact fin _ hv hx rfl
 · rename_i b i p hx
   obtain ⟨rfl,rfl⟩:=bl hl
   obtain ⟨⟨ad,hv⟩,_⟩:=(bk h hx).1
   exact fin _ hv hx rfl
 · rename_i b c hx
   obtain ⟨rfl,rfl⟩:=bl hl
   obtain ⟨k,q,hv,_⟩:=(bk h hx).1
   exact fin _ hv hx rfl
 · exact hl.elim
theorem SK (h:Inv P S w0 M0 s0 dq env a w μ) (hd: ∀ d,o.dst=some d→d<a.tmps.size) {op:UnOp} {t:TypeId} {x:Operand} (ho:o.op= .unOp op t x)
 (hl:(match op,aN S env.tm x with
  | .not,some (.pr p i)=>aA S (.pr (¬ p) (@instDecidableNot p i)) []
  | .not,some (.d .bool b)=>aA S (.d .bool (Bool.not b)) []
  | .neg,some v=>match v.int? with
   | some (k,n)=>aA S (.d (.int k) (k.wrap (0 - n))) []
   | none=> .fail
  | _,_=> .fail).leaf (V,us)) (hK:Goal P S w0 M0 s0 dq env a o.dst V us K):o.wp P a w K Q:=by
 split at hl
 · rename_i p i hx
   obtain ⟨rfl,rfl⟩:=bl hl
   have hv:a.eval x= .bool (decide p):=(bk h hx).1
   refine wp_pure h (v:= .bool (!decide p)) ?_ hd ?_ (by simp [az,ax]) hK
   · unfold execOp; simp only [ho,hv]; rfl
   · show Value.bool (!decide p)= .bool (decide (¬ p))
     simp
 · rename_i b hx
   obtain ⟨rfl,rfl⟩:=bl hl
   have hv:=oe (bk h hx).1
   refine wp_pure (V:= .d .bool (Bool.not b)) h (v:= .bool (Bool.not b)) ?_ hd (lD ..) (by simp [az,ax]) hK
   unfold execOp; simp only [ho,hv]; rfl
 · rename_i v hx
   split at hl
   · rename_i k n hn
     obtain ⟨rfl,rfl⟩:=bl hl
     have hv:=gR (bk h hx).1 hn
     refine wp_pure (V:= .d (.int k) (k.wrap (0 - n))) h (v:= .int k (k.wrap (0 - n))) ?_ hd (gy ..) (by simp [az,ax]) hK
     unfold execOp; simp only [ho,hv]; rfl
   · exact hl.elim
 · exact hl.elim
theorem foldl_push: ∀ (l:List Int) (r:ByteArray),l.foldl (fun r n=>r.push (UInt8.ofNat n.toNat)) r=⟨r.data++(bytesOf l).toArray⟩
 | [],r=>by simp [bytesOf]
 | n::l,r=>by
  rw [List.foldl_cons,foldl_push l]
  simp [bytesOf,ByteArray.push]
theorem QV {P:Program} {w:World} {s t te:TypeId} (q:List Int) (b o cap:Nat) (uf:P.underlying s=some (.slice te)) (Az:P.underlying te=some (.int .u8)) (qO:P.underlying t=some .string)
 (hc: ∀ j x,q[j]? =some x→w.cell? ⟨b,o+j,none⟩=some (.int .u8 x)):(convert s t (.slice (some ⟨b,o,none⟩) q.length cap)).run P w= .ok (.string ⟨(bytesOf q).toArray⟩) w:=by
 have hcells:(loadCells ⟨b,o,none⟩ q.length).run P w= .ok (q.map (Value.int .u8)).toArray w:=by
  have :=run_loadCells_list (P:=P) (w:=w) ⟨b,o,none⟩ (q.map (Value.int .u8)) (fun j v hj=>by
   rw [List.getElem?_map] at hj
   obtain ⟨x,hx,rfl⟩:=Option.map_eq_some_iff.1 hj
   rw [Addr.add_lit]; exact hc j x hx)
  rw [List.length_map] at this
  exact this
 have hrun:=run_bytesToString (P:=P) w ⟨b,o,none⟩ q.length cap q hcells
 rw [foldl_push] at hrun
 rw [run_convert_bytes_string w s t te (some ⟨b,o,none⟩) q.length cap uf Az qO,hrun]
 simp
theorem K5 (hP:aU P S ai) (h:Inv P S w0 M0 s0 dq env a w μ) (hd: ∀ d,o.dst=some d→d<a.tmps.size) {s t:TypeId} {x:Operand} {ids:List Nat} (ho:o.op= .convert s t x)
 (hl:(match S.ty s,S.ty t,aN S env.tm x with
  | some _,some (.int k),some v=>match v.int? with
   | some (_,n)=>aA S (.d (.int k) (k.wrap n)) []
   | none=> .fail
  | some T,some .str,some v=>match v.nZ with
   | some s=>aA S (.d .str s) []
   | none=>match T,v with
    | .sl (.int .u8), .aM b=>match restrict S env.bx ids b with
     | some (.arr (.int .u8) (n::l))=>aA S (.d .str (bytesOf (n::l))) []
     | _=> .fail
    | _,_=> .fail
  | _,_,_=> .fail).leaf (V,us)) (hK:Goal P S w0 M0 s0 dq env a o.dst V us K):o.wp P a w K Q:=by
 split at hl
 · rename_i T k v hs ht hx
   obtain ⟨d,hu⟩:=hP.Ii hs
   split at hl
   · rename_i k' n hn
     obtain ⟨rfl,rfl⟩:=bl hl
     have hv:=gR (bk h hx).1 hn
     have qO:P.underlying t=some (.int k):=(hP.ty t _ ht).2
     refine wp_pure (V:= .d (.int k) (k.wrap n)) h (v:= .int k (k.wrap n)) ?_ hd (gy ..) (by simp [az,ax]) hK
     unfold execOp
     simp only [ho,hv]
     simp [convert,run_underlying hu,run_underlying qO,Conv.intToInt]
   · exact hl.elim
 · rename_i T v hs ht hx
   obtain ⟨d,hu⟩:=hP.Ii hs
   have qO:P.underlying t=some .string:=(hP.ty t _ ht).2
   split at hl
   · rename_i b hn
     obtain ⟨rfl,rfl⟩:=bl hl
     have hv:=yF (bk h hx).1 hn
     refine wp_pure (V:= .d .str b) h (v:= .string ⟨b.toArray⟩) ?_ hd (vl ..) (by simp [az,ax]) hK
     unfold execOp
     simp only [ho,hv]
     simp [convert,run_underlying hu,run_underlying qO]
   · split at hl
     · rename_i b _
       split at hl
       · rename_i n l h_
         obtain ⟨rfl,rfl⟩:=bl hl
         have hb:=dQ h_
         obtain ⟨te,ie,uf,hte,_⟩:=(hP.ty s _ hs).2
         have Az:P.underlying te=some (.int .u8):=(hP.ty te _ hte).2
         obtain ⟨_,hv⟩:=(bk h hx).1
         obtain ⟨ad,cap,hv,hA⟩:=hv _ _ (.inl hb)
         have hR:=h.bL b _ hb
         have jS:(μ b).nil=false:=by
          cases hn:(μ b).nil with
          | false=>rfl
          | true=>
           have h1:=hA.isNil hn
           have h2:=hA.fits
           have h3:=hA.iO
           simp only [List.length_cons] at h2
           omega
         have had:ad=some ⟨(μ b).b,(μ b).o,none⟩:=by rw [hA.addr,jS]; rfl
         refine wp_pure (V:= .d .str (bytesOf (n::l))) h (v:= .string ⟨(bytesOf (n::l)).toArray⟩) ?_ hd (vl ..) (by simp [az,ax]) hK
         unfold execOp
         simp only [ho]
         rw [show a.eval x=_ from hv,had]
         have e:=QV (P:=P) (w:=w) (s:=s) (t:=t) (n::l) (μ b).b (μ b).o cap uf Az qO fun j x hx=>by
          obtain ⟨ds,hd1,MH,m,wX⟩:=hR.2.2.2.2 j x hx
          cases m with
          | zero=>exact wX.elim
          | succ m=>
           have wX:ds= [.int .u8 x]:=wX
           subst wX
           have :=MH 0 _ rfl
           rw [show Ty.sz S (.int .u8)=1 from rfl,Nat.mul_one,Nat.add_zero] at this
           exact this
         have e:(convert s t (.slice (some ⟨(μ b).b,(μ b).o,none⟩) (l.length+1) cap)).run P w=_:=e
         simp [e,Result.andThen]
       · exact hl.elim
     · exact hl.elim
 · exact hl.elim
end
end Go.Sy
namespace Go.Sy
section
variable {P:Program} {S:aP} {ai:Nat→Nat}
variable {w0:World} {M0 s0:St} {dq:List Deferred} {env:Env S.C} {a:Act} {w:World} {μ:Nat→Loc} {K:Act→World→Prop} {Q:Exit→Act→World→Prop} {o:Oper} {V:V S.C} {us:aH S.C}
theorem Dd {s:St} {bx:Bx S.C} {t:Ty} (ht:bg t=false) {V:Sy.V S.C} {v:Value} {x:t.den S.C} (hv:bq P S w s μ bx V v) (hx:cA S (fun _=>none) t V=some x): ∃ n,aB S w s n t x [v]:=by
 have hd: ∀ (u:Ty) (y:u.den S.C),bU S w s u y v→dL S u t y=some x→ ∃ n,aB S w s n t x [v]:=by
  intro u y hr hc
  obtain ⟨rfl,rfl⟩:=dB hc
  obtain ⟨h1,n,hn⟩:=hr
  rw [aB.jG h1 ht] at hn
  exact ⟨n,hn⟩
 cases V with
 | d u y=>exact hd u y hv hx
 | pr p i=>
  obtain ⟨rfl,rfl⟩:=dB hx
  cases hv
  exact ⟨1,rfl⟩
 | aW b e l=>exact hd (.sl e) l hv.1 hx
 | b8=>
  cases t with
  | sl e=>cases hx; cases hv; exact ⟨1,none,0,rfl,Nat.le_refl _, .inl rfl⟩
  | _=>cases hx
 | _=>cases hx
theorem HY {s:St} {bx:Bx S.C} : ∀ (ts:List Ty) (hts:ts.all (fun t=> !bg t)=true) {vs:List (Sy.V S.C)} {cs:List Value} {x:an S.C ts},
 aF P S w s μ bx vs cs→fQ S (fun _=>none) ts vs=some x→ ∃ n,bn S (fun t x cs=>aB S w s n t x cs) ts x (cs.take ts.length)
 | [],_,_,cs,_,_,_=>⟨0,by simp [bn]⟩
 | t::ts,hts,[],_,_,_,hx=>by simp [fQ] at hx
 | t::ts,hts,V::vs,cs,x,⟨c,r,hcs,hv,hr⟩,hx=>by
  simp only [List.all_cons,Bool.and_eq_true,Bool.not_eq_true'] at hts
  simp only [fQ] at hx
  obtain ⟨y,hy,hx⟩:=Option.bind_eq_some_iff.1 hx
  obtain ⟨z,hz,hx⟩:=Option.bind_eq_some_iff.1 hx
  cases hx
  obtain ⟨n,hn⟩:=Dd hts.1 hv hy
  obtain ⟨m,hm⟩:=HY ts hts.2 hr hz
  refine ⟨max n m,c,r.take ts.length,by simp [hcs], ?_, ?_⟩
  · rw [show an.head (an.cons y z)=y from by cases ts <;> rfl]
    exact hn.up S (by omega)
  · rw [show an.tail (an.cons y z)=z from by cases ts <;> rfl]
    exact bn.mono S (fun t x cs hr=>hr.up S (by omega)) _ _ _ hm
theorem FI (hS:cz S) {s:St} {bx:Bx S.C} {t:Ty} {vs:List (Sy.V S.C)} {cs:List Value} {x:t.den S.C}
 (hv:aF P S w s μ bx vs cs) (hx:ga S (fun _=>none) t vs=some x): ∃ n,aB S w s n t x (cs.take (Ty.sz S t)):=by
 have one:bg t=false→Ty.sz S t=1→(∃ V r,vs=V::r∧cA S (fun _=>none) t V=some x)→ ∃ n,aB S w s n t x (cs.take (Ty.sz S t)):=by
  rintro ht h1 ⟨V,vs',rfl,hx1⟩
  rw [h1]
  obtain ⟨c,r,hcs,hv,hr⟩:=hv
  subst hcs
  exact Dd ht hv hx1
 cases t with
 | st u=>
  simp only [ga] at hx
  obtain ⟨y,hy,hx⟩:=Option.bind_eq_some_iff.1 hx
  cases hx
  obtain ⟨n,hn⟩:=HY (S.F u) (hS.flat u) hv hy
  refine ⟨n+1, ?_⟩
  show bn S _ (S.F u) (S.ex u (S.im u y)) _
  rw [hS.qx]
  exact hn
 | int k=>exact one rfl rfl (by cases vs with | nil=>cases hx | cons V r=>exact ⟨V,r,rfl,hx⟩)
 | bool=>exact one rfl rfl (by cases vs with | nil=>cases hx | cons V r=>exact ⟨V,r,rfl,hx⟩)
 | str=>exact one rfl rfl (by cases vs with | nil=>cases hx | cons V r=>exact ⟨V,r,rfl,hx⟩)
 | pt=>exact one rfl rfl (by cases vs with | nil=>cases hx | cons V r=>exact ⟨V,r,rfl,hx⟩)
 | sl e=>exact one rfl rfl (by cases vs with | nil=>cases hx | cons V r=>exact ⟨V,r,rfl,hx⟩)
theorem Bq (P:Program) (hS:cz S) {s:St} {n:Nat} {e:Ty} {x:e.den S.C} {cs:List Value} (h:aB S w s n e x cs) {off:Nat} {t:Ty} {y:t.den S.C} (hy:partOf S e x off t=some y):
 ∃ m,aB S w s m t y ((cs.drop off).take (Ty.sz S t)):=by
 have he:=(kz (P:=P) hS (fun _=>⟨0,0,0,0,true⟩) (fun _=>none) h).1
 exact FI (P:=P) hS (he.drop P S off) hy
theorem At.part {s:St} {b o':Nat} {cs:List Value} (h:At w s b o' cs) (off n:Nat):At w s b (o'+off) ((cs.drop off).take n):=fun j v hj=>by
 rw [List.getElem?_take] at hj
 split at hj
 · rw [Nat.add_assoc]; exact h (off+j) v (by simpa using hj)
 · cases hj
theorem BI {b o':Nat} {cs:List Value} (h:w.rangeAt b o' cs) (off n:Nat):w.rangeAt b (o'+off) ((cs.drop off).take n):=GI (GF h off) n
theorem At.range {s:St} {b o':Nat} {cs:List Value} (h:At w s b o' cs):w.rangeAt b o' cs:=fun j v hj=>(h j v hj).1
def dU (T:Ty) (ds:List Value):Value:=match T with
 | .st _=> .agg ds.toArray
 | _=>ds.headD Go.undef
theorem run_load (hP:aU P S ai) {t:Nat} {T:Ty} (ht:S.ty t=some T) {b o':Nat} {ds:List Value} (hr:w.rangeAt b o' ds) (hl:ds.length=Ty.sz S T):
 (Instr.loadAt t (.pointer (some ⟨b,o',none⟩))).run P w= .ok (dU T ds) w:=by
 have one:bg T=false→Ty.sz S T=1→dU T ds=ds.headD Go.undef→(Instr.loadAt t (.pointer (some ⟨b,o',none⟩))).run P w= .ok (dU T ds) w:=by
  intro h1 h2 h3
  rw [h2] at hl
  obtain ⟨c,rfl⟩:=List.length_eq_one_iff.1 hl
  have hc:=hr 0 c rfl
  rw [h3]
  have hag:=hP.agg ht w
  rw [h1] at hag
  simp [Instr.loadAt,Instr.sureAddr,loadVar,hag]
  have :w.cell? ⟨b,o',none⟩=some c:=hc
  simp [this]
 cases T with
 | st u=>
  obtain ⟨⟨i,z,h1,h2,_⟩,_,h3⟩:=hP.ty t _ ht
  cases ha:S.ar t with
  | none=>rw [ha] at h3; obtain ⟨fs,hu,_⟩:=h3; exact run_loadAt_mid w b o' t ds (.struct fs) hr hu rfl (by rw [h1]; simp [h2,hl])
  | some p=>rw [ha] at h3; obtain ⟨te,hu,_⟩:=h3; exact run_loadAt_mid w b o' t ds (.array p.1 te) hr hu rfl (by rw [h1]; simp [h2,hl])
 | int k=>exact one rfl rfl rfl
 | bool=>exact one rfl rfl rfl
 | str=>exact one rfl rfl rfl
 | pt=>exact one rfl rfl rfl
 | sl e=>exact one rfl rfl rfl
theorem xB {s:St} {n:Nat} {T:Ty} {x:T.den S.C} {ds:List Value} (h:aB S w s n T x ds):bU S w s T x (dU T ds):=by
 have hl:=h.length S
 have one:bg T=false→Ty.sz S T=1→dU T ds=ds.headD Go.undef→bU S w s T x (dU T ds):=by
  intro h1 h2 h3
  rw [h2] at hl
  obtain ⟨c,rfl⟩:=List.length_eq_one_iff.1 hl
  rw [h3]
  have hc:isAgg c=false:=by
   cases n with
   | zero=>exact h.elim
   | succ n=>cases T with
    | int k=>simp [aB] at h; subst h; rfl
    | bool=>simp [aB] at h; subst h; rfl
    | str=>simp [aB] at h; subst h; rfl
    | pt=>simp [aB] at h; subst h; rfl
    | sl e=>obtain ⟨a,cap,h,_⟩:=h; simp at h; subst h; rfl
    | st u=>simp [bg] at h1
  refine ⟨by rw [h1]; exact hc,n, ?_⟩
  show aB S w s n T x c.cells.toList
  rw [aB.jG (t:=T) (by rw [hc,h1]) h1]
  exact h
 cases T with
 | st u=>exact ⟨rfl,n,by simpa [dU,Value.cells] using h⟩
 | int k=>exact one rfl rfl rfl
 | bool=>exact one rfl rfl rfl
 | str=>exact one rfl rfl rfl
 | pt=>exact one rfl rfl rfl
 | sl e=>exact one rfl rfl rfl
theorem OO (hP:aU P S ai) (h:Inv P S w0 M0 s0 dq env a w μ) (hd: ∀ d,o.dst=some d→d<a.tmps.size) {t:TypeId} {x:Operand} {ids:List Nat} (ho:o.op= .load t x)
 (hl:(match S.ty t,aN S env.tm x with
  | some T,some v=>A9 S T (restrict S env.bx ids) v
  | _,_=> .fail).leaf (V,us)) (hK:Goal P S w0 M0 s0 dq env a o.dst V us K):o.wp P a w K Q:=by
 split at hl
 · rename_i T v ht hx
   obtain ⟨hv,cO⟩:=bk h hx
   have fin: ∀ (b o':Nat) (ds:List Value) (V':Sy.V S.C),a.eval x= .pointer (some ⟨b,o',none⟩)→w.rangeAt b o' ds→ds.length=Ty.sz S T→V=V'→us= []→
    RV P S w (aE S w0 M0 s0 env.bx μ w) μ env.bx V' (dU T ds)→(∀ i ∈ az S V',env.bx i≠none)→o.wp P a w K Q:=by
    rintro b o' ds V' he hr hlen rfl rfl cB eK
    refine wp_pure (V:=V) h (v:=dU T ds) ?_ hd cB eK hK
    unfold execOp
    simp only [ho,he]
    simp [run_load hP ht hr hlen]
   have Dt: ∀ (b off:Nat) (vs:List (Sy.V S.C)) (cs:List Value),v= .ptr b off→vs.all (bE S)=true→w.rangeAt (μ b).b (μ b).o cs→aF P S w (aE S w0 M0 s0 env.bx μ w) μ env.bx vs cs→
    (∀ v ∈ vs, ∀ j ∈ ax S v,env.bx j≠none)→
    (match T with
     | .st u=>cond (Nat.ble (off+(S.F u).length) vs.length) (aA S (.agg u ((vs.drop off).take (S.F u).length)) []) .fail
     | _=>match vs[off]? with
      | some v=>aA S v []
      | none=> .fail).leaf (V,us)→o.wp P a w K Q:=by
    intro b off vs cs AA nq iW cB FA bR
    clear hl
    subst AA
    have dh:a.eval x=_:=hv
    have hlen:=aF.length P S cB
    have scalar:bg T=false→Ty.sz S T=1→(∀ ds,dU T ds=ds.headD Go.undef)→(match vs[off]? with | some v=>aA S v [] | none=> .fail:Rt S).leaf (V,us)→o.wp P a w K Q:=by
     intro h1 h2 h3 tQ
     split at tQ
     · rename_i v hi
       obtain ⟨e1,e2⟩:=bl tQ
       obtain ⟨c,hc,hr⟩:=aF.get P S off cB hi
       refine fin _ _ [c] v dh (fun j u hj=> ?_) (by rw [h2]; rfl) e1 e2 (by rw [h3]; exact ko hr) (fun j hj=>FA v (List.mem_of_getElem? hi) j ?_)
       · cases j with
         | zero=>simp at hj; subst hj; exact iW off c hc
         | succ j=>simp at hj
       · cases v <;> first | exact hj | exact (hr:False).elim
     · exact tQ.elim
    cases T with
    | st u=>
     dsimp only at bR
     cases hb:Nat.ble (off+(S.F u).length) vs.length with
     | false=>rw [hb] at bR; exact bR.elim
     | true=>
      rw [hb] at bR
      obtain ⟨e1,e2⟩:=bl bR
      have hle:=Nat.le_of_ble_eq_true hb
      refine fin _ _ ((cs.drop off).take (S.F u).length) _ dh (BI iW off _) ?_ e1 e2 ?_ ?_
      · rw [List.length_take,List.length_drop]; show min _ _=(S.F u).length; omega
      · refine ⟨((cs.drop off).take (S.F u).length).toArray,rfl, ?_, ?_, ?_⟩
        · rw [List.length_take,List.length_drop]; omega
        · rw [List.all_eq_true] at nq ⊢
          exact fun v hv=>nq v (List.mem_of_mem_drop (List.mem_of_mem_take hv))
        · simpa using (cB.drop P S off).take P S (S.F u).length
      · intro j hj
        simp only [az,List.mem_flatMap] at hj
        obtain ⟨v,hv,hj⟩:=hj
        exact FA v (List.mem_of_mem_drop (List.mem_of_mem_take hv)) j hj
    | int k=>exact scalar rfl rfl (fun _=>rfl) bR
    | bool=>exact scalar rfl rfl (fun _=>rfl) bR
    | str=>exact scalar rfl rfl (fun _=>rfl) bR
    | pt=>exact scalar rfl rfl (fun _=>rfl) bR
    | sl e=>exact scalar rfl rfl (fun _=>rfl) bR
   unfold A9 at hl
   split at hl
   · rename_i b off
     split at hl
     · rename_i vs hb
       have hb:=dQ hb
       obtain ⟨h1,h2,h3,cs,h4,h5⟩:=h.bL b _ hb
       exact Dt b off vs cs rfl h1 h4 h5 (h.jh b vs (.inl hb)) hl
     · rename_i vs hb
       have hb:=dQ hb
       obtain ⟨h1,cs,h4,h5⟩:=h.bL b _ hb
       exact Dt b off vs cs rfl h1 h4.range h5 (h.jh b vs (.inr hb)) hl
     · exact hl.elim
   · rename_i u y
     obtain ⟨b,o',ds,he,cF,hlen,n,hr⟩:=hv
     split at hl
     · rename_i y' hc
       obtain ⟨rfl,rfl⟩:=dB hc
       obtain ⟨e1,e2⟩:=bl hl
       exact fin b o' ds _ he cF.range hlen e1 e2 (xB hr) (by simp [az,ax])
     · exact hl.elim
   · rename_i c
     obtain ⟨kb,q,he,cF⟩:=hv
     split at hl
     · obtain ⟨e1,e2⟩:=bl hl
       refine fin kb q [.pointer (some ⟨(μ c).b,(μ c).o,none⟩)] _ he cF.range rfl e1 e2 rfl (fun j hj=>cO j (by simpa [az,ax] using hj))
     · exact hl.elim
   · rename_i b i off
     have D2: ∀ (e:Ty) (l:List (e.den S.C)),(env.bx b=some (.arr e l)∨env.bx b=some (.bw e l))→
      (∀ i x,l[i]? =some x→ ∃ ds,ds.length=Ty.sz S e∧w.rangeAt (μ b).b ((μ b).o+i*Ty.sz S e) ds∧ ∃ n,aB S w (aE S w0 M0 s0 env.bx μ w) n e x ds)→
      (match partOf S e (fG S e l i) off T with
       | some y=>aA S (.d T y) []
       | none=> .fail:Rt S).leaf (V,us)→o.wp P a w K Q:=by
      intro e l hb hel bR
      obtain ⟨g0,g1,he⟩:=hv.2 e l hb
      split at bR
      · rename_i y hy
        obtain ⟨e1,e2⟩:=bl bR
        obtain ⟨ds,d1,d2,n,d3⟩:=hel i.toNat _ (qB g0 (by omega))
        obtain ⟨m,hm⟩:=Bq P hP.tocz d3 hy
        exact fin _ _ _ _ he (BI d2 off (Ty.sz S T)) (hm.length S) e1 e2 (xB hm) (by simp [az,ax])
      · exact bR.elim
     split at hl
     · rename_i e l hb
       have hb:=dQ hb
       exact D2 e l (.inl hb) (h.bL b _ hb).2.2.2.2 hl
     · rename_i e l hb
       have hb:=dQ hb
       refine D2 e l (.inr hb) (fun i x hi=> ?_) hl
       obtain ⟨ds,d1,d2,d3⟩:=(h.bL b _ hb).2.2 i x hi
       exact ⟨ds,d1,d2.range,d3⟩
     · exact hl.elim
   · exact hl.elim
 · exact hl.elim
end
end Go.Sy
namespace Go.Sy
section
variable {P:Program} {S:aP} {ai:Nat→Nat}
variable {w0:World} {M0 s0:St} {dq:List Deferred} {env:Env S.C} {a:Act} {w:World} {μ:Nat→Loc} {K:Act→World→Prop} {Q:Exit→Act→World→Prop} {o:Oper} {V:V S.C} {us:aH S.C}
theorem RF {t u:Nat} (h:iH S t=some u):S.ar t=none∧S.ty t=some (.st u):=by
 unfold iH at h
 cases ha:S.ar t with
 | some p=>rw [ha] at h; cases h
 | none=>
  rw [ha] at h
  refine ⟨rfl, ?_⟩
  dsimp only at h
  split at h
  · rename_i u' hu; cases h; exact hu
  · cases h
theorem aU.dO (hP:aU P S ai) {t u:Nat} (ht:iH S t=some u) {f o':Nat} {T:Ty} (hf:S.dO u f=some (o',T)):
 ∃ fs fd,P.underlying t=some (.struct fs)∧fs[f]? =some fd∧fd.offset=o'∧S.ty fd.type=some T∧1≤Ty.sz S T∧o'+Ty.sz S T≤(S.F u).length:=by
 obtain ⟨ha,ht⟩:=RF ht
 obtain ⟨_,_,h⟩:=hP.ty t _ ht
 rw [ha] at h
 obtain ⟨fs,hu,hfl⟩:=h
 obtain ⟨fd,h1,h2,h3,h4,h5⟩:=hfl f o' T hf
 exact ⟨fs,fd,hu,h1,h2,h3,h4,h5⟩
theorem Q3 (hP:aU P S ai) {t u:Nat} (ht:iH S t=some u) {f o':Nat} {T:Ty} (hf:S.dO u f=some (o',T)) (ad:Addr) (w:World):
 (Instr.fieldAt t (.pointer (some ad)) f).run P w= .ok (.pointer (some (ad.add o'))) w:=by
 obtain ⟨fs,fd,hu,h1,h2,h3,h4,_⟩:=hP.dO ht hf
 have hn: ¬ Ty.sz S T=0:=by omega
 simp [Instr.fieldAt,run_underlying hu,h1,Instr.sureAddr,fieldPlace,hP.size h3,hn,h2]
theorem LU (hP:aU P S ai) (h:Inv P S w0 M0 s0 dq env a w μ) (hd: ∀ d,o.dst=some d→d<a.tmps.size) {t:TypeId} {x:Operand} {f:Nat} (ho:o.op= .fieldAddr t x f)
 (hl:(match aN S env.tm x with
  | some v=>zT S t f v
  | none=> .fail).leaf (V,us)) (hK:Goal P S w0 M0 s0 dq env a o.dst V us K):o.wp P a w K Q:=by
 split at hl
 · rename_i v hx
   obtain ⟨hv,cO⟩:=bk h hx
   have fin: ∀ (ad:Addr) (u iY:Nat) (T:Ty),a.eval x= .pointer (some ad)→iH S t=some u→S.dO u f=some (iY,T)→us= []→
    RV P S w (aE S w0 M0 s0 env.bx μ w) μ env.bx V (.pointer (some (ad.add iY)))→(∀ i ∈ az S V,env.bx i≠none)→o.wp P a w K Q:=by
    rintro ad u iY T he ht hf rfl cB eK
    refine wp_pure (V:=V) h ?_ hd cB eK hK
    unfold execOp
    simp only [ho,he]
    simp [Q3 hP ht hf]
   unfold zT at hl
   split at hl
   · rename_i b off
     split at hl
     · rename_i u ht
       split at hl
       · rename_i o' T hf
         obtain ⟨e1,e2⟩:=bl hl
         subst e1
         refine fin _ u o' T hv ht hf e2 ?_ (fun i hi=>cO i hi)
         show Value.pointer _=_
         rw [Addr.add_mid,Nat.add_assoc]
       · exact hl.elim
     · exact hl.elim
   · rename_i u y
     split at hl
     · rename_i u' ht
       cases hb:Nat.beq u u' with
       | false=>rw [hb] at hl; exact hl.elim
       | true=>
       rw [hb] at hl
       obtain rfl:=Nat.eq_of_beq_eq_true hb
       dsimp only [cond] at hl
       split at hl
       · rename_i o' T hf
         split at hl
         · rename_i z hz
           obtain ⟨e1,e2⟩:=bl hl
           subst e1
           obtain ⟨b,iY,ds,he,cF,hlen,n,hr⟩:=hv
           obtain ⟨m,hm⟩:=Bq P hP.tocz hr hz
           exact fin _ u o' T he ht hf e2 ⟨b,_,_,by rw [Addr.add_mid],cF.part o' _,hm.length S,m,hm⟩ (by simp [az,ax])
         · exact hl.elim
       · exact hl.elim
     · exact hl.elim
   · rename_i b i off
     split at hl
     · rename_i u ht
       split at hl
       · rename_i o' T hf
         obtain ⟨e1,e2⟩:=bl hl
         subst e1
         obtain ⟨⟨ad,he⟩,fe⟩:=hv
         refine fin _ u o' T he ht hf e2 ⟨⟨_,rfl⟩,fun e' l' hb'=> ?_⟩ (fun i hi=>cO i hi)
         obtain ⟨L2,L3,he'⟩:=fe e' l' hb'
         refine ⟨L2,L3, ?_⟩
         rw [he'] at he
         cases he
         rw [Addr.add_mid,Nat.add_assoc]
       · exact hl.elim
     · exact hl.elim
   · rename_i b c
     obtain ⟨kb,q,he,cF,eT,fZ⟩:=hv
     split at hl
     · rename_i u ht
       split at hl
       · rename_i o' T hf
         split at hl
         · obtain ⟨e1,e2⟩:=bl hl
           subst e1
           exact fin _ u 0 T he ht hf e2 ⟨kb,q,rfl,cF⟩ (fun i hi=>cO i (by simp [az,ax] at hi ⊢; exact .inr hi))
         · rename_i iY
           obtain ⟨e1,e2⟩:=bl hl
           subst e1
           refine fin _ u (iY+1) T he ht hf e2 ?_ (fun i hi=>cO i (by simp [az,ax] at hi ⊢; exact .inl hi))
           show Value.pointer _=_
           rw [Addr.add_mid,eT,fZ,Nat.add_assoc,Nat.add_comm 1 iY]
       · exact hl.elim
     · exact hl.elim
   · exact hl.elim
 · exact hl.elim
theorem l6 (hP:aU P S ai) {t:Nat} {T:Ty} (ht:S.ty t=some T) {cs:Array Value} {off:Nat} (hle:off+Ty.sz S T≤cs.size) (w:World):
 (part t cs off).run P w= .ok (dU T ((cs.toList.drop off).take (Ty.sz S T))) w:=by
 have one:bg T=false→Ty.sz S T=1→(∀ ds,dU T ds=ds.headD Go.undef)→(part t cs off).run P w= .ok (dU T ((cs.toList.drop off).take (Ty.sz S T))) w:=by
  intro h1 h2 h3
  have hag:=hP.agg ht w
  rw [h1] at hag
  rw [h2] at hle
  have hlt:off<cs.size:=by omega
  unfold part
  simp [hag,hlt]
  rw [h3,h2,List.drop_eq_getElem_cons (by simpa using hlt)]
  simp
 cases T with
 | st u=>
  have hag:=hP.agg ht w
  have hsz:=hP.size ht w
  unfold part
  simp only [Sem.run_bind,hag,hsz,bg,Result.andThen_ok,if_true,Sem.run_pure]
  congr 2
  show _=((cs.toList.drop off).take (Ty.sz S (.st u))).toArray
  apply Array.ext'
  simp [Array.toList_extract,List.extract_eq_take_drop]
 | int k=>exact one rfl rfl (fun _=>rfl)
 | bool=>exact one rfl rfl (fun _=>rfl)
 | str=>exact one rfl rfl (fun _=>rfl)
 | pt=>exact one rfl rfl (fun _=>rfl)
 | sl e=>exact one rfl rfl (fun _=>rfl)
theorem LV (hP:aU P S ai) (h:Inv P S w0 M0 s0 dq env a w μ) (hd: ∀ d,o.dst=some d→d<a.tmps.size) {t:TypeId} {x:Operand} {f:Nat} (ho:o.op= .field t x f)
 (hl:(match iH S t,aN S env.tm x with
  | some u,some (.d (.st u') y)=>cond (Nat.beq u u') (match S.dO u' f with
   | some (o,w)=>match partOf S (.st u') y o w with
    | some z=>aA S (.d w z) []
    | none=> .fail
   | none=> .fail) .fail
  | some u,some (.agg u' vs)=>cond (Nat.beq u u'&&vs.length == (S.F u).length) (match S.dO u f with
   | some (o, .st w)=>aA S (.agg w ((vs.drop o).take (S.F w).length)) []
   | some (o,_)=>match vs[o]? with
    | some v=>aA S v []
    | none=> .fail
   | none=> .fail) .fail
  | _,_=> .fail).leaf (V,us)) (hK:Goal P S w0 M0 s0 dq env a o.dst V us K):o.wp P a w K Q:=by
 have fin: ∀ (u iY:Nat) (T:Ty) (cs:Array Value),a.eval x= .agg cs→cs.size=(S.F u).length→iH S t=some u→S.dO u f=some (iY,T)→us= []→
  RV P S w (aE S w0 M0 s0 env.bx μ w) μ env.bx V (dU T ((cs.toList.drop iY).take (Ty.sz S T)))→(∀ i ∈ az S V,env.bx i≠none)→o.wp P a w K Q:=by
  rintro u iY T cs he hsz ht hf rfl cB eK
  obtain ⟨fs,fd,hu,h1,h2,h3,h4,h5⟩:=hP.dO ht hf
  refine wp_pure (V:=V) h ?_ hd cB eK hK
  unfold execOp
  simp only [ho,he]
  simp [Instr.field,run_underlying hu,h1,asAgg,h2,l6 hP h3 (cs:=cs) (off:=iY) (by omega)]
 split at hl
 · rename_i u u' y ht hx
   obtain ⟨hv,cO⟩:=bk h hx
   cases hb:Nat.beq u u' with
   | false=>rw [hb] at hl; exact hl.elim
   | true=>
    rw [hb] at hl
    obtain rfl:=Nat.eq_of_beq_eq_true hb
    dsimp only [cond] at hl
    split at hl
    · rename_i o' T hf
      split at hl
      · rename_i z hz
        obtain ⟨e1,e2⟩:=bl hl
        subst e1
        obtain ⟨ha,n,hr⟩:=hv
        have : ∃ cs,a.eval x= .agg cs:=by
         cases e:a.eval x <;> rw [e] at ha <;> first | exact ⟨_,rfl⟩ | (simp [Go.Sy.isAgg,bg] at ha)
        obtain ⟨cs,he⟩:=this
        rw [he] at hr
        obtain ⟨m,hm⟩:=Bq P hP.tocz hr hz
        exact fin u o' T cs he (by have :=hr.length S; simpa [Value.cells,Ty.sz] using this) ht hf e2 (xB hm) (by simp [az,ax])
      · exact hl.elim
    · exact hl.elim
 · rename_i u u' vs ht hx
   obtain ⟨⟨cs,he,hlen,nq,hvs⟩,cO⟩:=bk h hx
   cases hb:(Nat.beq u u'&&vs.length == (S.F u).length) with
   | false=>rw [hb] at hl; exact hl.elim
   | true=>
    rw [hb] at hl
    rw [Bool.and_eq_true] at hb
    obtain rfl:=Nat.eq_of_beq_eq_true hb.1
    have hcl:=aF.length P S hvs
    have hsz:cs.size=(S.F u).length:=by rw [← hlen, ← hcl]; simp
    dsimp only [cond] at hl
    split at hl
    · rename_i o' vq hf
      obtain ⟨e1,e2⟩:=bl hl
      subst e1
      obtain ⟨fs,fd,hu,h1,h2,h3,h4,h5⟩:=hP.dO ht hf
      refine fin u o' _ cs he hsz ht hf e2 ⟨_,rfl, ?_, ?_, ?_⟩ (fun i hi=> ?_)
      · rw [List.length_take,List.length_drop]
        have :Ty.sz S (.st vq)=(S.F vq).length:=rfl
        omega
      · rw [List.all_eq_true] at nq ⊢
        exact fun v hv=>nq v (List.mem_of_mem_drop (List.mem_of_mem_take hv))
      · have :=(hvs.drop P S o').take P S (S.F vq).length
        simpa [Ty.sz] using this
      · simp only [az,List.mem_flatMap] at hi
        obtain ⟨v,hv,hi⟩:=hi
        exact cO i (by simp only [az,List.mem_flatMap]; exact ⟨v,List.mem_of_mem_drop (List.mem_of_mem_take hv),hi⟩)
    · rename_i o' T hne hf
      split at hl
      · rename_i v hi
        obtain ⟨e1,e2⟩:=bl hl
        subst e1
        obtain ⟨c,hc,hr⟩:=aF.get P S o' hvs hi
        have hT:bg T=false:=by
         cases T with
         | st vq=>exact absurd rfl (hne vq)
         | _=>rfl
        have hmk:dU T ((cs.toList.drop o').take (Ty.sz S T))=c:=by
         have h1:Ty.sz S T=1:=by cases T <;> first | rfl | simp [bg] at hT
         have hlt:=(List.getElem?_eq_some_iff.1 hc).1
         have o6:=(List.getElem?_eq_some_iff.1 hc).2
         rw [h1,List.drop_eq_getElem_cons hlt]
         cases T <;> first | (simp [dU,o6]; done) | simp [bg] at hT
        refine fin u o' T cs he hsz ht hf e2 (by rw [hmk]; exact ko hr) (fun i hi'=> ?_)
        refine cO i ?_
        simp only [az,List.mem_flatMap]
        refine ⟨V,List.mem_of_getElem? hi, ?_⟩
        cases V <;> first | exact hi' | exact (hr:False).elim
      · exact hl.elim
    · exact hl.elim
 · exact hl.elim
end
end Go.Sy
namespace Go.Sy
section
variable {P:Program} {S:aP} {ai:Nat→Nat}
variable {w0:World} {M0 s0:St} {dq:List Deferred} {env:Env S.C} {a:Act} {w:World} {μ:Nat→Loc} {K:Act→World→Prop} {Q:Exit→Act→World→Prop} {o:Oper} {V:V S.C} {us:aH S.C}
theorem LQ (s:List UInt8) (i j:Nat):(⟨s.toArray⟩:ByteArray).extract i j=⟨((s.take j).drop i).toArray⟩:=by
 apply ByteArray.ext
 apply Array.ext'
 rw [Lib.extract_data]
 simp [List.drop_take]
theorem Hw (s:List UInt8):ByteArray.size ⟨s.toArray⟩=s.length:=by show s.toArray.size=_; simp
theorem pU {k:IntKind} {i:Int} {y:Nat} (code:BoundsCode) (h0:0≤i) (h1:i≤(y:Int)) (w:World):(Instr.sliceBound (.int k i) y code).run P w= .ok i.toNat w:=by
 simp [Instr.sliceBound,asIntOf,h0,h1]
theorem Gm (h:Inv P S w0 M0 s0 dq env a w μ) {x:Option Operand} {l:Option (Sy.V S.C)} (hx:gS S env.tm x=some l):
 (x=none∧l=none)∨ ∃ y v,x=some y∧l=some v∧RV P S w (aE S w0 M0 s0 env.bx μ w) μ env.bx v (a.eval y):=by
 cases x with
 | none=>cases hx; exact .inl ⟨rfl,rfl⟩
 | some y=>
  simp only [gS] at hx
  obtain ⟨v,hv,hx⟩:=Option.bind_eq_some_iff.1 hx
  cases hx
  exact .inr ⟨y,v,rfl,rfl,(bk h hv).1⟩
theorem pg {s:St} {bx:Bx S.C} {V:Sy.V S.C} {v:Value} {n:Int} (h:RV P S w s μ bx V v) (hi:lS S V=some n): ∃ k,v= .int k n:=by
 unfold lS at hi
 cases e:V.int? with
 | none=>rw [e] at hi; cases hi
 | some p=>
  rw [e] at hi
  cases hi
  exact ⟨p.1,gR h e⟩
theorem oz (h:Inv P S w0 M0 s0 dq env a w μ) {lo hi:Option Operand} {l hh:Option (Sy.V S.C)} (hlo:gS S env.tm lo=some l) (hhi:gS S env.tm hi=some hh) {n cap:Nat} (hcap:n≤cap)
 {gs:List Gd} {i j:Int} (hb:bounds S n l hh=some (gs,i,j)) (hg: ∀ g ∈ gs,g.p) (NW:Bool):
 (Instr.sliceBounds NW n cap (lo.map a.eval) (hi.map a.eval) none).run P w= .ok (i.toNat,j.toNat,cap) w∧0≤i∧i≤j∧j≤(n:Int)∧(hh=none→j=n):=by
 rcases Gm h hlo with ⟨rfl,rfl⟩ | ⟨x,v,rfl,rfl,hv⟩ <;> rcases Gm h hhi with ⟨rfl,rfl⟩ | ⟨y,u,rfl,rfl,hu⟩
 · cases hb
   exact ⟨by simp [Instr.sliceBounds],by omega,by omega,by omega,fun _=>rfl⟩
 · simp only [bounds] at hb
   obtain ⟨m,hm,hb⟩:=Option.bind_eq_some_iff.1 hb
   cases hb
   obtain ⟨k,hk⟩:=pg hu hm
   have g0:0≤j:=hg ⟨0≤j,inferInstance⟩ (by simp [gd])
   have g1:j≤(n:Int):=hg ⟨j≤(n:Int),inferInstance⟩ (by simp [gd])
   refine ⟨?_,by omega,by omega,g1,fun h=>by cases h⟩
   simp only [Option.map,hk,Instr.sliceBounds]
   simp [pU (P:=P) _ g0 (show j≤(cap:Int) by omega)]
 · simp only [bounds] at hb
   obtain ⟨m,hm,hb⟩:=Option.bind_eq_some_iff.1 hb
   cases hb
   obtain ⟨k,hk⟩:=pg hv hm
   have g0:0≤i:=hg ⟨0≤i,inferInstance⟩ (by simp [gd])
   have g1:i≤(n:Int):=hg ⟨i≤(n:Int),inferInstance⟩ (by simp [gd])
   refine ⟨?_,g0,g1,by omega,fun _=>rfl⟩
   simp only [Option.map,hk,Instr.sliceBounds]
   simp [pU (P:=P) _ g0 g1]
 · simp only [bounds] at hb
   obtain ⟨m,hm,hb⟩:=Option.bind_eq_some_iff.1 hb
   obtain ⟨p,hp,hb⟩:=Option.bind_eq_some_iff.1 hb
   cases hb
   obtain ⟨k,hk⟩:=pg hv hm
   obtain ⟨k',hk'⟩:=pg hu hp
   have g0:0≤j:=hg ⟨0≤j,inferInstance⟩ (by simp [gd])
   have g1:j≤(n:Int):=hg ⟨j≤(n:Int),inferInstance⟩ (by simp [gd])
   have g2:0≤i:=hg ⟨0≤i,inferInstance⟩ (by simp [gd])
   have g3:i≤j:=hg ⟨i≤j,inferInstance⟩ (by simp [gd])
   refine ⟨?_,g2,g3,g1,fun h=>by cases h⟩
   simp only [Option.map,hk,hk',Instr.sliceBounds]
   simp [pU (P:=P) _ g0 (show j≤(cap:Int) by omega),pU (P:=P) .sliceB g2 (show i≤(j.toNat:Int) by omega)]
def jt (ad:Option Addr) (cap lo sz:Nat):Option Addr:=if cap=lo then ad else ad.map (·.add (lo*sz))
theorem Q8 (hP:aU P S ai) {t:Nat} {e:Ty} (ht:S.ty t=some (.sl e)) {ad:Option Addr} {n cap i j:Nat} {lo hi:Option Value}
 (hb:(Instr.sliceBounds true n cap lo hi none).run P w= .ok (i,j,cap) w):(Instr.sliceAt t (.slice ad n cap) lo hi none).run P w= .ok (.slice (jt ad cap i (Ty.sz S e)) (j - i) (cap - i)) w:=by
 obtain ⟨te,ie,z,hu,he,_⟩:=hP.sl ht
 simp [Instr.sliceAt,Instr.slice,run_underlying hu,hb,hP.size he,jt]
theorem zx {α:Type} (l:List α) {i j:Int} {hh:Option (Sy.V S.C)} (h0:0≤i) (h1:i≤j) (h2:j≤(l.length:Int)) (hn:hh=none→j=(l.length:Int)):
 hJ S l i j hh=(l.take j.toNat).drop i.toNat:=by
 cases hh with
 | none=>
  have :=hn rfl
  show l.drop i.toNat=_
  rw [this,show ((l.length:Int)).toNat=l.length from by omega,List.take_length]
 | some v=>rfl
theorem Pw {R:(t:Ty)→t.den S.C→List Value→Prop} {s:St} {e:Ty} {b o':Nat} {l:List (e.den S.C)} (h:sA S R w s e b o' l) (i j:Nat):sA S R w s e b (o'+i*Ty.sz S e) ((l.take j).drop i):=fun k x hk=>by
 have hk':l[i+k]? =some x:=by
  rw [List.getElem?_drop,List.getElem?_take] at hk
  split at hk
  · exact hk
  · cases hk
 obtain ⟨ds,d1,d2,d3⟩:=h (i+k) x hk'
 refine ⟨ds,d1, ?_,d3⟩
 rw [show o'+i*Ty.sz S e+k*Ty.sz S e=o'+(i+k)*Ty.sz S e from by rw [Nat.add_mul]; omega]
 exact d2
theorem Cw {s:St} {e:Ty} {l:List (e.den S.C)} {ad:Option Addr} {cap:Nat} (h:bU S w s (.sl e) l (.slice ad l.length cap)) {i j:Nat} (h1:i≤j) (h2:j≤l.length):
 bU S w s (.sl e) ((l.take j).drop i) (.slice (jt ad cap i (Ty.sz S e)) (j - i) (cap - i)):=by
 obtain ⟨ox,cap',he,hle,hel⟩:=jA h
 cases he
 have hlen:((l.take j).drop i).length=j - i:=by rw [List.length_drop,List.length_take]; omega
 rcases hel with hel | ⟨b,o',n,rfl,hel⟩
 · exact ⟨rfl,1,_,_,by rw [hlen]; rfl,by rw [hlen]; omega, .inl (by rw [hlen]; omega)⟩
 · by_cases hc:cap=i
   · exact ⟨rfl,1,_,_,by rw [hlen]; rfl,by rw [hlen]; omega, .inl (by rw [hlen]; omega)⟩
   · refine ⟨rfl,n+1,_,_,by rw [hlen]; rfl,by rw [hlen]; omega, .inr ⟨b,o'+i*Ty.sz S e, ?_,Pw hel i j⟩⟩
     rw [jt,if_neg hc]
     simp [Addr.add_mid]
theorem Q_ {t:Nat} (hu:P.underlying t=some .string) (s:List UInt8) {i j:Nat} {lo hi:Option Value}
 (hb:(Instr.sliceBounds false s.length s.length lo hi none).run P w= .ok (i,j,s.length) w):(Instr.sliceAt t (.string ⟨s.toArray⟩) lo hi none).run P w= .ok (.string ⟨((s.take j).drop i).toArray⟩) w:=by
 have e1:=LQ s i j
 have hsz:=Hw s
 simp [Instr.sliceAt,Instr.slice,run_underlying hu,hsz,hb,e1]
theorem Kc {n:Nat} {hh:Option (Sy.V S.C)} {gs:List Gd} {i j:Int} (hb:bounds S n none hh=some (gs,i,j)):i=0:=by
 cases hh with
 | none=>cases hb; rfl
 | some u=>
  simp only [bounds] at hb
  obtain ⟨m,hm,hb⟩:=Option.bind_eq_some_iff.1 hb
  cases hb; rfl
theorem Cy {s':St} {bx:Bx S.C} {k:Nat} {e:Ty} {l:List (e.den S.C)} (hb:bx k=some (.arr e l)) {ad:Option Addr} {n cap:Nat} (ha:mL (μ k) ad n cap (Ty.sz S e)) {N:Nat} {lo hh:Option (Sy.V S.C)} {gs:List Gd} {i j:Int}
 (hbd:bounds S N lo hh=some (gs,i,j)) (h0:0≤i) (h1:i≤j) (h2:j≤(l.length:Int)) (h3:j≤(cap:Int)):
 RV P S w s' μ bx (mF S k i j lo) (.slice (jt ad cap i.toNat (Ty.sz S e)) (j.toNat - i.toNat) (cap - i.toNat)):=by
 have hn: ∀ e' (l':List (e'.den S.C)),bx k=some (.arr e' l')→e'=e∧l'.length=l.length∧Ty.sz S e'=Ty.sz S e:=by
  intro e' l' h
  rw [hb] at h
  cases h
  exact ⟨rfl,rfl,rfl⟩
 cases lo with
 | none=>
  have :=Kc hbd
  subst this
  refine ⟨⟨_,_,_,rfl⟩,fun e' l' hb'=> ?_⟩
  obtain ⟨_,q2,q3⟩:=hn e' l' hb'
  rw [q2,q3]
  have hs:jt ad cap 0 (Ty.sz S e)=ad:=by
   unfold jt
   split
   · rfl
   · rw [ha.addr]
     split
     · rfl
     · simp [Addr.add_mid]
  refine ⟨h1,by omega,ad,cap, ?_,ha.addr,ha.iO,ha.cells,ha.isNil,by omega⟩
  rw [show (0:Int).toNat=0 from rfl,hs]; rfl
 | some u=>
  refine ⟨⟨_,_,_,rfl⟩,fun e' l' hb'=> ?_⟩
  obtain ⟨_,q2,q3⟩:=hn e' l' hb'
  rw [q2,q3]
  refine ⟨h0,by omega,by omega,_,_,by rw [show (j - i).toNat=j.toNat - i.toNat from by omega],by omega, ?_⟩
  by_cases hz:(j - i).toNat=0
  · exact .inl hz
  · refine .inr ?_
    have jS:(μ k).nil=false:=by
     cases hn:(μ k).nil with
     | false=>rfl
     | true=>have :=ha.isNil hn; have :=ha.iO; omega
    unfold jt
    rw [if_neg (by omega),ha.addr,jS]
    simp [Addr.add_mid]
theorem RC (hP:aU P S ai) (h:Inv P S w0 M0 s0 dq env a w μ) (hd: ∀ d,o.dst=some d→d<a.tmps.size) {t:TypeId} {x:Operand} {lo hi:Option Operand} {ids:List Nat} {vw:Bool} (ho:o.op= .slice t x lo hi none)
 (hl:(match S.ty t,aN S env.tm x,gS S env.tm lo,gS S env.tm hi with
  | some T,some v,some l,some h=>Co S vw T (restrict S env.bx ids) l h v
  | _,_,_,_=> .fail).leaf (V,us)) (hK:Goal P S w0 M0 s0 dq env a o.dst V us K):o.wp P a w K Q:=by
 split at hl
 · rename_i T v l hh ht hx hlo hhi
   obtain ⟨hv,cO⟩:=bk h hx
   have run: ∀ (e:Ty) (ad:Option Addr) (n cap i j:Nat),S.ty t=some (.sl e)→a.eval x= .slice ad n cap→(Instr.sliceBounds true n cap (lo.map a.eval) (hi.map a.eval) none).run P w= .ok (i,j,cap) w→
    (execOp a.eval o).run P w= .ok (.value (.slice (jt ad cap i (Ty.sz S e)) (j - i) (cap - i))) w:=by
    intro e ad n cap i j ht he hb
    unfold execOp
    simp only [ho,he]
    simp [Q8 hP ht hb]
   have data: ∀ (e:Ty) (s:List (e.den S.C)),bU S w (aE S w0 M0 s0 env.bx μ w) (.sl e) s (a.eval x)→(if T= .sl e then match bounds S s.length l hh with
    | some (gs,a,b)=>Tr.gd gs (aA S (.d (.sl e) (hJ S s a b hh)) [])
    | none=> .fail else .fail:Rt S).leaf (V,us)→o.wp P a w K Q:=by
    intro e s hr bR
    clear hl
    split at bR
    · rename_i hT
      subst hT
      split at bR
      · rename_i gs i j hb
        obtain ⟨hg,rfl,rfl⟩:=eJ bR
        obtain ⟨ad,cap,he,hcap,_⟩:=jA hr
        obtain ⟨b1,b2,b3,b4,b5⟩:=oz h hlo hhi hcap hb hg true
        rw [he] at hr
        refine wp_pure (V:= .d (.sl e) (hJ S s i j hh)) h (run e ad _ cap _ _ ht he b1) hd ?_ (by simp [az,ax]) hK
        show bU S w _ (.sl e) (hJ S s i j hh) _
        rw [zx s b2 b3 b4 b5]
        exact Cw hr (by omega) (by omega)
      · exact bR.elim
    · exact bR.elim
   unfold Co at hl
   split at hl
   · rename_i s
     split at hl
     · rename_i hT
       subst hT
       split at hl
       · rename_i gs i j hb
         obtain ⟨hg,rfl,rfl⟩:=eJ hl
         have he:=kq hv
         obtain ⟨b1,b2,b3,b4,b5⟩:=oz h hlo hhi (Nat.le_refl _) hb hg false
         have hu:P.underlying t=some .string:=(hP.ty t _ ht).2
         refine wp_pure (V:= .d .str (hJ S s i j hh)) h (v:= .string ⟨((List.take j.toNat s).drop i.toNat).toArray⟩) ?_ hd ?_ (by simp [az,ax]) hK
         · unfold execOp
           simp only [ho,he]
           rw [Sem.run_bind,show Option.map a.eval none=none from rfl,Q_ hu s b1]
           rfl
         · show bU S w _ .str (hJ S s i j hh) _
           rw [zx s b2 b3 b4 b5]
           exact vl ..
       · exact hl.elim
     · exact hl.elim
   · exact data _ _ hv hl
   · rename_i k e s
     split at hl
     · rename_i hT
       subst hT
       split at hl
       · rename_i gs i j hb
         obtain ⟨hg,rfl,rfl⟩:=eJ hl
         obtain ⟨ad,cap,he,hcap,_⟩:=jA hv.1
         obtain ⟨b1,b2,b3,b4,b5⟩:=oz h hlo hhi hcap hb hg true
         have hr:=hv.1
         rw [he] at hr
         have hsub:=Cw hr (show i.toNat≤j.toNat by omega) (by omega)
         cases hh with
         | some dh=>
          refine wp_pure (V:= .d (.sl e) (cut s i j)) h (run e ad _ cap _ _ ht he b1) hd hsub (by simp [az,ax]) hK
         | none=>
          have hj:=b5 rfl
          have E0:cutFrom s i=(s.take j.toNat).drop i.toNat:=by
           show s.drop i.toNat=_
           rw [hj,show ((s.length:Int)).toNat=s.length from by omega,List.take_length]
          refine wp_pure (V:= .aW k e (cutFrom s i)) h (run e ad _ cap _ _ ht he b1) hd ⟨by rw [E0]; exact hsub,fun hb'=> ?_⟩ (fun i hi=>cO i hi) hK
          have hlen:(cutFrom s i).length=j.toNat - i.toNat:=by rw [E0,List.length_drop,List.length_take]; omega
          obtain ⟨ox,cap',he',t_⟩:=hv.2 hb'
          rw [he] at he'
          cases he'
          refine ⟨_,_,by rw [hlen], ?_⟩
          rw [hlen]
          rcases t_ with ⟨rfl,rfl,hn⟩ | ⟨b,o',rfl,t1,t2⟩
          · exact .inl ⟨by unfold jt; split <;> rfl,by omega,hn⟩
          · by_cases hc:cap=i.toNat
            · refine .inr ⟨b,o',by rw [jt,if_pos hc], ?_,fun hlt=>by omega⟩
              rw [t1]; congr 1; omega
            · refine .inr ⟨b,o'+i.toNat*Ty.sz S e,by rw [jt,if_neg hc]; simp [Addr.add_mid], ?_,fun hlt=> ?_⟩
              · rw [t1]; congr 1; omega
              · obtain ⟨t2,t3⟩:=t2 (by omega)
                refine ⟨t2, ?_⟩
                rw [t3]
                have :s.length*Ty.sz S e=i.toNat*Ty.sz S e+(j.toNat - i.toNat)*Ty.sz S e:=by rw [← Nat.add_mul]; congr 1; omega
                omega
       · exact hl.elim
     · exact hl.elim
   · rename_i k
     split at hl
     · rename_i e s hb
       have hb:=dQ hb
       split at hl
       · rename_i hT
         subst hT
         split at hl
         · rename_i gs i j hbd
           cases vw with
           | true=>
            obtain ⟨hg,rfl,rfl⟩:=eJ hl
            obtain ⟨ad,cap,he,hao⟩:=hv.2 e s (.inl hb)
            obtain ⟨b1,b2,b3,b4,b5⟩:=oz h hlo hhi hao.fits hbd hg true
            have hfit:=hao.fits
            refine wp_pure (V:=mF S k i j l) h (run e ad _ cap _ _ ht he b1) hd (Cy hb hao hbd b2 b3 b4 (by omega)) (fun q hq=> ?_) hK
            have :q=k:=by cases l <;> simpa [mF,az,ax] using hq
            rw [this,hb]; simp
           | false=>
           have hl:(Tr.gd gs (aA S (.d (.sl e) (hJ S s i j hh)) [(k, .bw e s)]):Rt S).leaf (V,us):=hl
           obtain ⟨hg,rfl,rfl⟩:=eJ hl
           have htk:Tk S env.bx (av env.bx [(k, .bw e s)]):=Tk.Ij hb
           obtain ⟨ad,cap,he,hao⟩:=hv.2 e s (.inl hb)
           obtain ⟨b1,b2,b3,b4,b5⟩:=oz h hlo hhi hao.fits hbd hg true
           refine SX (V:= .d (.sl e) (hJ S s i j hh)) h (run e ad _ cap _ _ ht he b1) hd htk (fun hI=> ?_) (by simp [az,ax]) hK
           have hr:=zZ hI (Tk.refl S _) (aO env.bx k (some (.bw e s))) (bq.step P S (HH htk) (fun i B0 bD=> ?_) (fun j hj=>cO j hj) hv)
           · rw [he] at hr
             show bU S w _ (.sl e) (hJ S s i j hh) _
             rw [zx s b2 b3 b4 b5]
             have hr':bU S w (bW S w0 M0 s0 (av env.bx [(k, .bw e s)]) (av env.bx [(k, .bw e s)]) μ w) (.sl e) s (.slice ad s.length cap):=⟨rfl,hr⟩
             refine bU.mono S (fun b o ⟨h1,h2,h3⟩=>⟨⟨h1,h2,fun i hi=> ?_⟩,rfl⟩) (Cw hr' (show i.toNat≤j.toNat by omega) (by omega))
             rcases h3 i hi with ⟨e',l',hf⟩ | hf
             · unfold live at hi; rw [hf] at hi; exact hi.elim
             · exact hf
           · rcases htk i with e1 | ⟨e1,_⟩ | ⟨e',l',e1,e2⟩
             · exact ⟨B0,e1.trans bD,cc.refl S _ _⟩
             · exact ⟨_,e1,by cases B0 <;> rfl⟩
             · rw [bD] at e1; cases e1; exact ⟨_,e2,rfl,rfl,rfl⟩
         · exact hl.elim
       · exact hl.elim
     · rename_i e s hb
       have hb:=dQ hb
       refine data e s ?_ hl
       obtain ⟨n,hn⟩:=zZ h (Tk.refl S _) hb hv
       obtain ⟨ad,cap,he,hao⟩:=hv.2 e s (.inr hb)
       rw [he] at hn ⊢
       refine ⟨rfl,n,hn.mono S (fun b o ⟨h1,h2,h3⟩=>⟨⟨h1,h2,fun i hi=> ?_⟩,rfl⟩) (Nat.le_refl _)⟩
       rcases h3 i hi with ⟨e',l',hf⟩ | hf
       · unfold live at hi; rw [hf] at hi; exact hi.elim
       · exact hf
     · exact hl.elim
   · rename_i k n
     split at hl
     · rename_i e s hb
       have hb:=dQ hb
       obtain ⟨hn0,hnl,ad,cap,he,hao⟩:=hv.2 e s hb
       obtain ⟨g1,g2,g3,g4,g5⟩:=h.bL k _ hb
       have hcap:=hao.iO
       have hfit:=hao.fits
       have ids: ∀ i j, ∀ q ∈ az S (mF S k i j l),env.bx q≠none:=fun i j q hq=>by
        have :q=k:=by cases l <;> simpa [mF,az,ax] using hq
        rw [this,hb]; simp
       split at hl
       · rename_i hT
         subst hT
         cases hh with
         | none=>
          dsimp only at hl
          split at hl
          · rename_i gs i j hbd
            obtain ⟨hg,rfl,rfl⟩:=eJ hl
            obtain ⟨b1,b2,b3,b4,b5⟩:=oz h hlo hhi hao.fits hbd hg true
            exact wp_pure (V:=mF S k i j l) h (run e ad _ cap _ _ ht he b1) hd (Cy hb hao hbd b2 b3 (by omega) (by omega)) (ids i j) hK
          · exact hl.elim
         | some u=>
          dsimp only at hl
          split at hl
          · rename_i gs i j hbd
            obtain ⟨hg,rfl,rfl⟩:=eJ hl
            obtain ⟨b1,b2,b3,b4,b5⟩:=oz (cap:=cap) h hlo hhi (show s.length≤cap by omega) hbd hg true
            obtain ⟨hi',MW⟩: ∃ y,hi=some y:=by
             cases hi with
             | none=>cases hhi
             | some y=>exact ⟨y,rfl⟩
            subst MW
            have JW:(Instr.sliceBounds true n.toNat cap (lo.map a.eval) ((some hi').map a.eval) none).run P w= .ok (i.toNat,j.toNat,cap) w:=b1
            exact wp_pure (V:=mF S k i j l) h (run e ad _ cap _ _ ht he JW) hd (Cy hb hao hbd b2 b3 b4 (by omega)) (ids i j) hK
          · exact hl.elim
       · exact hl.elim
     · exact hl.elim
   · exact hl.elim
 · exact hl.elim
theorem Oq (hP:aU P S ai) (h:Inv P S w0 M0 s0 dq env a w μ) (hd: ∀ d,o.dst=some d→d<a.tmps.size) {c:Call} (ho:o.op= .call c) (hc:c.callee= .builtin .len) {args:List (Sy.V S.C)} {ids:List Nat}
 (hargs:c.args.toList.mapM (aN S env.tm)=some args)
 (hl:(match args,(c.argTypes[0]?).bind S.ty with
  | [v],some T=>A4 S T (restrict S env.bx ids) v
  | _,_=> .fail).leaf (V,us)) (hK:Goal P S w0 M0 s0 dq env a o.dst V us K):o.wp P a w K Q:=by
 split at hl
 · rename_i v T ET
   obtain ⟨t,ht,hT⟩:=Option.bind_eq_some_iff.1 ET
   clear ET
   have hone: ∃ x,c.args= #[x]∧aN S env.tm x=some v:=by
    cases e:c.args.toList with
    | nil=>rw [e] at hargs; simp at hargs
    | cons x r=>
     rw [e] at hargs
     cases r with
     | nil=>
      refine ⟨x, ?_, ?_⟩
      · have :c.args=c.args.toList.toArray:=by simp
        rw [this,e]
      · simp at hargs
        cases hx:aN S env.tm x with
        | none=>rw [hx] at hargs; simp at hargs
        | some v'=>rw [hx] at hargs; simp at hargs; rw [hargs]
     | cons y r=>
      simp at hargs
      cases hx:aN S env.tm x with
      | none=>rw [hx] at hargs; simp at hargs
      | some v'=>
       rw [hx] at hargs
       cases hy:aN S env.tm y with
       | none=>rw [hy] at hargs; simp at hargs
       | some u'=>
        rw [hy] at hargs
        cases hr:List.mapM (aN S env.tm) r with
        | none=>rw [hr] at hargs; simp at hargs
        | some q=>rw [hr] at hargs; simp at hargs
   obtain ⟨x,hx,FF⟩:=hone
   have hv:=(bk h FF).1
   clear hargs FF
   have fin: ∀ (n:Nat),(Builtin.len_ c.argTypes o.type #[a.eval x]).run P w= .ok (goInt n) w→V= .d (.int .i64) (n:Int)→us= []→o.wp P a w K Q:=by
    rintro n hr rfl rfl
    refine wp_pure (V:= .d (.int .i64) (n:Int)) h (v:=goInt n) ?_ hd (gy ..) (by simp [az,ax]) hK
    unfold execOp
    simp only [ho]
    simp [resolve,hc,hx,invoke,builtin,hr]
   have slc: ∀ (e:Ty) (n cap:Nat) (ad:Option Addr),T= .sl e→a.eval x= .slice ad n cap→(Builtin.len_ c.argTypes o.type #[a.eval x]).run P w= .ok (goInt n) w:=by
    rintro e n cap ad rfl he
    obtain ⟨te,ie,z,hu,_⟩:=hP.sl hT
    rw [he]
    simp [Builtin.len_,ht,run_underlying hu]
   unfold A4 at hl
   split at hl
   · rename_i s
     split at hl
     · rename_i iR
       subst iR
       obtain ⟨e1,e2⟩:=bl hl
       refine fin _ ?_ e1 e2
       have hu:P.underlying t=some .string:=(hP.ty t _ hT).2
       rw [kq hv]
       simp only [Builtin.len_,ht]
       simp [run_underlying hu]
       exact congrArg (fun n:Nat=>goInt n) (Hw s)
     · exact hl.elim
   · split at hl
     · rename_i e
       obtain ⟨e1,e2⟩:=bl hl
       exact fin 0 (slc e 0 0 none rfl hv) e1 e2
     · exact hl.elim
   · rename_i e l
     split at hl
     · rename_i iR
       obtain ⟨e1,e2⟩:=bl hl
       obtain ⟨ad,cap,he,_⟩:=jA hv
       exact fin _ (slc e _ cap ad iR he) e1 e2
     · exact hl.elim
   · rename_i k e l
     split at hl
     · rename_i iR
       obtain ⟨e1,e2⟩:=bl hl
       obtain ⟨ad,cap,he,_⟩:=jA hv.1
       exact fin _ (slc e _ cap ad iR he) e1 e2
     · exact hl.elim
   · rename_i k
     have own: ∀ (e:Ty) (l:List (e.den S.C)),(env.bx k=some (.arr e l)∨env.bx k=some (.bw e l))→(if T= .sl e then aA S (.d (.int .i64) (l.length:Int)) [] else .fail:Rt S).leaf (V,us)→o.wp P a w K Q:=by
      intro e l hb bR
      split at bR
      · rename_i iR
        obtain ⟨e1,e2⟩:=bl bR
        obtain ⟨ad,cap,he,_⟩:=hv.2 e l hb
        exact fin _ (slc e _ cap ad iR he) e1 e2
      · exact bR.elim
     split at hl
     · rename_i hb; exact own _ _ (.inl (dQ hb)) hl
     · rename_i hb; exact own _ _ (.inr (dQ hb)) hl
     · exact hl.elim
   · rename_i b n
     split at hl
     · rename_i e l hb
       have hb:=dQ hb
       split at hl
       · rename_i iR
         obtain ⟨e1,e2⟩:=bl hl
         obtain ⟨hn0,hnl,ad,cap,he,_⟩:=hv.2 e l hb
         refine fin _ (slc e _ cap ad iR he) ?_ e2
         rw [e1,show ((n.toNat:Nat):Int)=n from by omega]
       · exact hl.elim
     · exact hl.elim
   · exact hl.elim
 · exact hl.elim
theorem Q9 (hP:aU P S ai) {t:Nat} {e:Ty} (ht:S.ty t=some (.sl e)) {ad:Option Addr} {n cap:Nat} {k1 k2 k3:IntKind} {i j m:Int} (h0:0≤i) (h1:i≤j) (h2:j≤m) (h3:m≤(cap:Int)):
 ∃ v,(Instr.sliceAt t (.slice ad n cap) (some (.int k1 i)) (some (.int k2 j)) (some (.int k3 m))).run P w= .ok v w:=by
 obtain ⟨te,ie,z,hu,he,_⟩:=hP.sl ht
 refine ⟨.slice (if m.toNat=i.toNat then ad else ad.map (·.add (i.toNat*Ty.sz S e))) (j.toNat - i.toNat) (m.toNat - i.toNat), ?_⟩
 simp [Instr.sliceAt,Instr.slice,run_underlying hu,Instr.sliceBounds,pU (P:=P) _ (show 0≤m by omega) h3,pU (P:=P) (i:=j) (y:=m.toNat) _ (by omega) (by omega),pU (P:=P) (i:=i) (y:=j.toNat) _ (by omega) (by omega),hP.size he]
theorem RA (hP:aU P S ai) (h:Inv P S w0 M0 s0 dq env a w μ) (hd: ∀ d,o.dst=some d→d<a.tmps.size) {t:TypeId} {x lo hi mx:Operand} {ids:List Nat} (ho:o.op= .slice t x (some lo) (some hi) (some mx))
 (hl:(match S.ty t,aN S env.tm x,aN S env.tm lo,aN S env.tm hi,aN S env.tm mx with
  | some T,some v,some l,some h,some m=>Cn S T (restrict S env.bx ids) l h m v
  | _,_,_,_,_=> .fail).leaf (V,us)) (hK:Goal P S w0 M0 s0 dq env a o.dst V us K):o.wp P a w K Q:=by
 split at hl
 · rename_i T v l hh m ht hx hlo hhi Nk
   obtain ⟨hv,cO⟩:=bk h hx
   unfold Cn at hl
   split at hl
   · rename_i k
     split at hl
     · rename_i e s hb
       have hb:=dQ hb
       split at hl
       · rename_i hT
         subst hT
         split at hl
         · rename_i i j c e1 e2 e3
           obtain ⟨hg,rfl,rfl⟩:=eJ hl
           have g0:0≤i:=hg ⟨0≤i,inferInstance⟩ (by simp [gd])
           have g1:i≤j:=hg ⟨i≤j,inferInstance⟩ (by simp [gd])
           have g2:j≤c:=hg ⟨j≤c,inferInstance⟩ (by simp [gd])
           have g3:c≤(s.length:Int):=hg ⟨c≤(s.length:Int),inferInstance⟩ (by simp [gd])
           obtain ⟨ad,cap,he,hao⟩:=hv.2 e s (.inl hb)
           have hfit:=hao.fits
           obtain ⟨k1,q1⟩:=pg (bk h hlo).1 e1
           obtain ⟨k2,q2⟩:=pg (bk h hhi).1 e2
           obtain ⟨k3,q3⟩:=pg (bk h Nk).1 e3
           obtain ⟨r,hr⟩:=Q9 (P:=P) (w:=w) hP ht (ad:=ad) (n:=s.length) (cap:=cap) (k1:=k1) (k2:=k2) (k3:=k3) g0 g1 g2 (by omega)
           refine wp_pure (V:= .undef) h (v:=r) ?_ hd trivial (by simp [az,ax]) hK
           unfold execOp
           simp only [ho,he,Option.map,q1,q2,q3]
           simp [hr]
         · exact hl.elim
       · exact hl.elim
     · exact hl.elim
   · exact hl.elim
 · exact hl.elim
end
end Go.Sy
namespace Go.Sy
section
variable {P:Program} {S:aP} {ai:Nat→Nat}
variable {w0:World} {M0 s0:St} {dq:List Deferred} {env:Env S.C} {a:Act} {w:World} {μ:Nat→Loc} {K:Act→World→Prop} {Q:Exit→Act→World→Prop} {o:Oper} {V:V S.C} {us:aH S.C}
theorem aF.map {w w':World} {s s':St} {μ μ':Nat→Loc} {bx ag:Bx S.C} (h: ∀ V v,bq P S w s μ bx V v→(∀ j ∈ ax S V,bx j≠none)→bq P S w' s' μ' ag V v):
 ∀ {vs:List (Sy.V S.C)} {cs:List Value},(∀ v ∈ vs, ∀ j ∈ ax S v,bx j≠none)→aF P S w s μ bx vs cs→aF P S w' s' μ' ag vs cs
 | [],_,_,h'=>h'
 | v::vs,_,hr,⟨c,r,h1,h2,h3⟩=>⟨c,r,h1,h _ _ h2 (hr v (by simp)),aF.map h (fun v hv=>hr v (by simp [hv])) h3⟩
theorem NV {v:Value} (h:isAgg v=false):v.cells.toList= [v]:=aB.jG (t:= .bool) h rfl
theorem HB {s:St} {bx:Bx S.C} {V:Sy.V S.C} {v:Value} (hs:bE S V=true) (h:bq P S w s μ bx V v):isAgg v=false∧v.oneCell'=true:=by
 cases V with
 | d t x=>
  obtain ⟨ha,n,hn⟩:=h
  cases t with
  | st u=>simp [bE] at hs
  | int k=>rw [jz (w:=w) (s:=s) ⟨ha,n,hn⟩]; exact ⟨rfl,rfl⟩
  | bool=>rw [oe (w:=w) (s:=s) ⟨ha,n,hn⟩]; exact ⟨rfl,rfl⟩
  | str=>rw [kq (w:=w) (s:=s) ⟨ha,n,hn⟩]; exact ⟨rfl,rfl⟩
  | pt=>
   cases n with
   | zero=>exact hn.elim
   | succ n=>
    have hn:v.cells.toList= [.pointer none]:=hn
    rw [aB.jG (t:= .pt) ha rfl] at hn
    cases hn
    exact ⟨rfl,rfl⟩
  | sl e=>obtain ⟨a,cap,he,_⟩:=jA (w:=w) (s:=s) ⟨ha,n,hn⟩; rw [he]; exact ⟨rfl,rfl⟩
 | pr p i=>cases h; exact ⟨rfl,rfl⟩
 | aW b e l=>obtain ⟨a,cap,he,_⟩:=jA h.1; rw [he]; exact ⟨rfl,rfl⟩
 | aM b=>obtain ⟨⟨a,n,c,rfl⟩,_⟩:=h; exact ⟨rfl,rfl⟩
 | ptr b off=>cases h; exact ⟨rfl,rfl⟩
 | dY b i off=>obtain ⟨⟨p,rfl⟩,_⟩:=h; exact ⟨rfl,rfl⟩
 | cN t x=>obtain ⟨b,o',ds,rfl,_⟩:=h; exact ⟨rfl,rfl⟩
 | nil=>cases h; exact ⟨rfl,rfl⟩
 | b8=>cases h; exact ⟨rfl,rfl⟩
 | fv A R g=>obtain ⟨f,first,cap,rfl,_⟩:=h; exact ⟨rfl,rfl⟩
 | undef=>simp [bE] at hs
 | skip=>simp [bE] at hs
 | pre b n=>simp [bE] at hs
 | win b i n=>simp [bE] at hs
 | bX b n=>simp [bE] at hs
 | split b c=>simp [bE] at hs
 | jY c=>simp [bE] at hs
 | err b=>simp [bE] at hs
 | ey f vs=>simp [bE] at hs
 | agg u vs=>simp [bE] at hs
 | gm vs=>simp [bE] at hs
theorem vi {s:St} {bx:Bx S.C} : ∀ {vs:List (Sy.V S.C)} {cs:List Value},vs.all (bE S)=true→aF P S w s μ bx vs cs→ ∀ c ∈ cs,c.oneCell'=true
 | [],_,_,h,c,hc=>by cases h; simp at hc
 | V::vs,_,hs,⟨c,r,h1,h2,h3⟩,d,hd=>by
  subst h1
  simp only [List.all_cons,Bool.and_eq_true] at hs
  rcases List.mem_cons.1 hd with rfl | hd
  · exact (HB hs.1 h2).2
  · exact vi hs.2 h3 d hd
theorem zn (hS:cz S) {s:St} {bx:Bx S.C} {V:Sy.V S.C} {v:Value} (hs:(cellsOf S V).all (bE S)=true) (h:RV P S w s μ bx V v):
 aF P S w s μ bx (cellsOf S V) v.cells.toList∧ ∀ u ∈ cellsOf S V, ∀ j ∈ ax S u,j ∈ az S V:=by
 have one: ∀ (W:Sy.V S.C),V=W→cellsOf S V= [W]→bq P S w s μ bx W v→(∀ j ∈ ax S W,j ∈ az S V)→aF P S w s μ bx (cellsOf S V) v.cells.toList∧ ∀ u ∈ cellsOf S V, ∀ j ∈ ax S u,j ∈ az S V:=by
  intro W hW he h1 h2
  rw [he] at hs
  simp only [List.all_cons,Bool.and_eq_true] at hs
  refine ⟨?_,fun u hu j hj=> ?_⟩
  · rw [he,NV (HB hs.1 h1).1]
    exact ⟨v,[],rfl,h1,rfl⟩
  · rw [he] at hu
    simp at hu
    subst hu
    exact h2 j hj
 cases V with
 | d t x=>
  obtain ⟨ha,n,hn⟩:=h
  obtain ⟨h1,h2,h3⟩:=kz (P:=P) hS μ bx hn
  exact ⟨h1,fun u hu j hj=>by rw [h3 u hu] at hj; simp at hj⟩
 | agg u vs=>
  obtain ⟨cs,rfl,_,_,hvs⟩:=h
  exact ⟨hvs,fun v hv j hj=>by simp only [az,List.mem_flatMap]; exact ⟨v,hv,hj⟩⟩
 | gm vs=>simp [cellsOf,bE] at hs
 | ey f vs=>simp [cellsOf,bE] at hs
 | undef=>simp [cellsOf,bE] at hs
 | skip=>simp [cellsOf,bE] at hs
 | pr p i=>exact one _ rfl rfl h (fun j hj=>hj)
 | aW b e l=>exact one _ rfl rfl h (fun j hj=>hj)
 | aM b=>exact one _ rfl rfl h (fun j hj=>hj)
 | pre b n=>simp [cellsOf,bE] at hs
 | win b i n=>simp [cellsOf,bE] at hs
 | bX b n=>simp [cellsOf,bE] at hs
 | split b c=>simp [cellsOf,bE] at hs
 | jY c=>simp [cellsOf,bE] at hs
 | err b=>simp [cellsOf,bE] at hs
 | ptr b off=>exact one _ rfl rfl h (fun j hj=>hj)
 | dY b i off=>exact one _ rfl rfl h (fun j hj=>hj)
 | cN t x=>exact one _ rfl rfl h (fun j hj=>hj)
 | nil=>exact one _ rfl rfl h (fun j hj=>hj)
 | b8=>exact one _ rfl rfl h (fun j hj=>hj)
 | fv A R g=>exact one _ rfl rfl h (fun j hj=>hj)
theorem zU {vs:List (Sy.V S.C)} {n:Nat} (h:fits S vs n=true):vs.length=n∧vs.all (bE S)=true:=by
 unfold fits at h
 rw [Bool.and_eq_true] at h
 exact ⟨Nat.eq_of_beq_eq_true h.1,h.2⟩
theorem nD {w:World} {cs:Array Value} {t:TypeId} :(w.alloc (.cells cs t)).there w.heap.size 0 cs.size∧(w.alloc (.cells cs t)).rangeAt w.heap.size 0 cs.toList:=by
 refine ⟨fun j hj=> ?_,fun j v hv=> ?_⟩
 · rw [Nat.zero_add]
   simp [hj]
 · rw [Nat.zero_add]
   simpa using hv
theorem Ir (hP:aU P S ai) (h:Inv P S w0 M0 s0 dq env a w μ) (hd: ∀ d,o.dst=some d→d<a.tmps.size) {B:Nat} {t:TypeId} {cells:Array Value} {vs:List (Sy.V S.C)}
 (hrun:(execOp a.eval o).run P w= .ok (.value (.pointer (some ⟨w.heap.size,0,none⟩))) (w.alloc (.cells cells t))) (hB:env.bx B=none)
 (hs:vs.all (bE S)=true) (hv:aF P S w (aE S w0 M0 s0 env.bx μ w) μ env.bx vs cells.toList) (hr: ∀ v ∈ vs, ∀ j ∈ ax S v,env.bx j≠none)
 (hK:Goal P S w0 M0 s0 dq env a o.dst (.ptr B 0) [(B, .cells vs)] K):o.wp P a w K Q:=by
 have hlen:=aF.length P S hv
 refine n7 (i:=B) (B:= .cells vs) (V:= .ptr B 0) (L:=⟨w.heap.size,0,vs.length,0,false⟩) h hrun hd (aX.alloc w _ _) hB (fun b o' hf=>Nat.le_of_eq hf.1.symm) (fun _ _ h3=>⟨⟨hs,rfl, ?_,cells.toList,nD.2, ?_⟩, ?_⟩)
  (fun vs' hvs v hv j hj=> ?_) (fun j hj=> .inl (by simpa [az,ax] using hj)) hK
 · have :=(nD (w:=w) (cs:=cells) (t:=t)).1
   rw [show cells.size=vs.length from by rw [← hlen]; simp] at this
   exact this
 · exact aF.map h3 hr hv
 · show Value.pointer _=_
   rw [aO]
 · rcases hvs with hvs | hvs
   · cases hvs; exact hr v hv j hj
   · cases hvs
theorem SW (hP:aU P S ai) (h:Inv P S w0 M0 s0 dq env a w μ) (hd: ∀ d,o.dst=some d→d<a.tmps.size) {B c:Nat} {t:TypeId} {cells:Array Value} {vs:List (Sy.V S.C)}
 (hrun:(execOp a.eval o).run P w= .ok (.value (.pointer (some ⟨w.heap.size,0,none⟩))) (w.alloc (.cells cells t))) (hB:env.bx B=none)
 (hs:(Sy.V.ptr c 0::vs).all (bE S)=true) (hv:aF P S w (aE S w0 M0 s0 env.bx μ w) μ env.bx (.ptr c 0::vs) cells.toList) (hr: ∀ v ∈ Sy.V.ptr c 0::vs, ∀ j ∈ ax S v,env.bx j≠none)
 (hK:Goal P S w0 M0 s0 dq env a o.dst (.split B c) [(B, .cells vs)] K):o.wp P a w K Q:=by
 obtain ⟨u,r,hcs,hu,hv⟩:=hv
 have hlen:=aF.length P S hv
 have hc0:env.bx c≠none:=hr (.ptr c 0) (by simp) c (by simp [ax])
 have MC:c≠B:=fun e=>hc0 (e▸hB)
 have hu:u= .pointer (some ⟨(μ c).b,(μ c).o,none⟩):=hu
 have hsz:cells.size=vs.length+1:=by rw [← Array.length_toList,hcs,List.length_cons,hlen]
 simp only [List.all_cons,Bool.and_eq_true] at hs
 refine n7 (i:=B) (B:= .cells vs) (V:= .split B c) (L:=⟨w.heap.size,1,vs.length,0,false⟩) h hrun hd (aX.alloc w _ _) hB (fun b o' hf=>Nat.le_of_eq hf.1.symm) (fun _ _ h3=>⟨⟨hs.2,rfl, ?_,r, ?_, ?_⟩, ?_⟩)
  (fun vs' hvs v hv j hj=> ?_) (fun j hj=> ?_) hK
 · intro j hj
   have :=(nD (w:=w) (cs:=cells) (t:=t)).1 (1+j) (by have :j<vs.length:=hj; omega)
   rw [Nat.zero_add] at this
   exact this
 · intro j v hj
   have :=(nD (w:=w) (cs:=cells) (t:=t)).2 (1+j) v (by rw [hcs,Nat.add_comm]; simpa using hj)
   rw [Nat.zero_add] at this
   exact this
 · exact aF.map h3 (fun v hv=>hr v (by simp [hv])) hv
 · refine ⟨w.heap.size,0,rfl,fun j v hj=> ?_,by rw [aO],by rw [aO]⟩
   have hj0:j=0∧v= .pointer (some ⟨(aq μ B ⟨w.heap.size,1,vs.length,0,false⟩ c).b,(aq μ B ⟨w.heap.size,1,vs.length,0,false⟩ c).o,none⟩):=by
    cases j with
    | zero=>exact ⟨rfl,by simpa using hj.symm⟩
    | succ j=>simp at hj
   obtain ⟨rfl,rfl⟩:=hj0
   rw [aZ _ _ MC]
   refine ⟨?_,by simp, .inr (.inr h.fW.size),fun i hi hf=> ?_⟩
   · have :=(nD (w:=w) (cs:=cells) (t:=t)).2 0 u (by rw [hcs]; rfl)
     rw [Nat.zero_add] at this
     rw [← hu]
     exact this
   · by_cases e:i=B
     · subst e
       rw [aO] at hf
       have h1:1≤0+0:=hf.2.1
       omega
     · have hl:=(dF S (show aq env.bx B (some (.cells vs)) i=env.bx i from aZ _ _ e)).1 hi
       rw [aZ _ _ e] at hf
       have :=(jV P S (h.bL i) hl hf).1
       omega
 · rcases hvs with hvs | hvs
   · cases hvs; exact hr v (by simp [hv]) j hj
   · cases hvs
 · have hj:j ∈ [B,c]:=hj
   simp only [List.mem_cons,List.not_mem_nil,or_false] at hj
   rcases hj with rfl | rfl
   · exact .inl rfl
   · exact .inr hc0
theorem qb {s:St} {bx:Bx S.C} : ∀ (ts:List Ty),ts.all (fun t=> !bg t)=true→aF P S w s μ bx (ts.map (zeroCell S)) (ts.map sw)∧(ts.map (zeroCell S)).all (bE S)=true∧ ∀ v ∈ ts.map (zeroCell S),ax S v= []
 | [],_=>⟨rfl,rfl,by simp⟩
 | t::ts,h=>by
  simp only [List.all_cons,Bool.and_eq_true,Bool.not_eq_true'] at h
  obtain ⟨h1,h2,h3⟩:=qb ts h.2
  refine ⟨⟨_,_,rfl, ?_,h1⟩, ?_, ?_⟩
  · cases t with
    | int k=>exact gy ..
    | bool=>exact lD ..
    | str=>exact vl ..
    | pt=>rfl
    | sl e=>rfl
    | st u=>simp [bg] at h
  · simp only [List.map_cons,List.all_cons,Bool.and_eq_true]
    exact ⟨by cases t <;> first | rfl | simp [bg] at h,h2⟩
  · intro v hv
    simp only [List.map_cons,List.mem_cons] at hv
    rcases hv with rfl | hv
    · cases t <;> rfl
    · exact h3 v hv
theorem IN (hS:cz S) {s:St} {bx:Bx S.C} (T:Ty):aF P S w s μ bx (zeroCells S T) (qc S T)∧(zeroCells S T).all (bE S)=true∧ ∀ v ∈ zeroCells S T,ax S v= []:=by
 cases T with
 | st u=>exact qb (S.F u) (hS.flat u)
 | int k=>exact qb [.int k] rfl
 | bool=>exact qb [.bool] rfl
 | str=>exact qb [.str] rfl
 | pt=>exact qb [.pt] rfl
 | sl e=>exact qb [.sl e] rfl
theorem J6 (hP:aU P S ai) (h:Inv P S w0 M0 s0 dq env a w μ) (hd: ∀ d,o.dst=some d→d<a.tmps.size) {B:Nat} {t:TypeId} (ho:o.op= .alloc t)
 (hnew: ∀ u ∈ ([(B+1, .buf []),(B, .aV (B+1))]:aH S.C),B≤u.1→u.1<B+16→env.bx u.1=none) (hb:uq S t=true)
 (hK:Goal P S w0 M0 s0 dq env a o.dst (.ptr B 0) [(B+1, .buf []),(B, .aV (B+1))] K):o.wp P a w K Q:=by
 obtain ⟨T,e,cW,rfl⟩: ∃ T e,S.bt=some (T,e)∧t=T:=by
  unfold uq at hb
  split at hb
  · rename_i u hu
    exact ⟨u.1,u.2,hu,(Nat.eq_of_beq_eq_true hb).symm⟩
  · cases hb
 obtain ⟨_,i,z,h1,h2,h3⟩:=hP.bt _ cW
 have n1:=hnew (B+1, .buf []) (by simp) (by show B≤B+1; omega) (by show B+1<B+16; omega)
 have n0:=hnew (B, .aV (B+1)) (by simp) (Nat.le_refl _) (by show B<B+16; omega)
 have hrow:kg S w ⟨0,0,0,0,true⟩ []:=⟨rfl,rfl,fun _=>rfl,_,_,cW,World.ownsRowF_nil ..⟩
 obtain ⟨hI,_,_⟩:=h.Bc (aX.refl w _) n1 (B:= .buf []) (L:=⟨0,0,0,0,true⟩) (fun b o' hf=>by have h1:o'<0+0:=hf.2.2; omega) (fun _ _ _=>hrow) (fun vs hvs=>by rcases hvs with hvs | hvs <;> cases hvs)
 have hne: ∀ (i:Nat) (B0:Option (cZ S.C)),i=B→aq env.bx (B+1) (some (.buf [])) i=env.bx i:=fun i _ e=>aZ _ _ (by omega)
 refine n7 (env:= { env with bx:=aq env.bx (B+1) (some (.buf [])) }) (i:=B) (B:= .aV (B+1)) (V:= .ptr B 0) (v:= .pointer (some ⟨w.heap.size,0,none⟩)) (w':=w.alloc (.cells #[.pointer none, .slice none 0 0] t)) (L:=⟨w.heap.size,0,2,0,false⟩) hI ?_ hd (aX.alloc w _ _) ((hne B none rfl).trans n0) (fun b o' hf=>Nat.le_of_eq hf.1.symm)
  (fun _ _ _=>⟨⟨rfl,rfl, ?_, .slice none 0 0,⟨t,e, .pointer none,cW,(by show (w.heap.push _)[w.heap.size]? =some _; simp), .inl rfl⟩,fun l hl=> ?_⟩, ?_⟩) (fun vs hvs=>by rcases hvs with hvs | hvs <;> cases hvs) (fun j hj=> .inl (by simpa [az,ax] using hj)) hK
 · unfold execOp
   simp only [ho]
   simp [Instr.alloc,zeroValue,typeInfo,h1,h2,h3,newVar,newRow]
 · rw [aZ _ _ (show B+1≠B by omega)]
   show aq env.bx (B+1) (some (.buf [])) (B+1)≠none
   rw [aO]; simp
 · rw [aZ _ _ (show B+1≠B by omega)] at hl
   have hl:aq env.bx (B+1) (some (.buf [])) (B+1)=some (.buf l):=hl
   rw [aO] at hl
   cases hl
   rw [aZ _ _ (show B+1≠B by omega),aO]
   rfl
 · show Value.pointer _=_
   rw [aO]
theorem JJ (hP:aU P S ai) (h:Inv P S w0 M0 s0 dq env a w μ) (hd: ∀ d,o.dst=some d→d<a.tmps.size) {B:Nat} {t:TypeId} (ho:o.op= .alloc t)
 (hnew: ∀ u ∈ us,B≤u.1→u.1<B+16→env.bx u.1=none)
 (hl:(match S.ty t with
  | some u=>aA S (.ptr B 0) [(B, .cells (zeroCells S u))]
  | none=>cond (uq S t) (aA S (.ptr B 0) [(B+1, .buf []),(B, .aV (B+1))]) .fail).leaf (V,us)) (hK:Goal P S w0 M0 s0 dq env a o.dst V us K):o.wp P a w K Q:=by
 split at hl
 · rename_i T ht
   obtain ⟨rfl,rfl⟩:=bl hl
   obtain ⟨⟨i,z,h1,h2,h3,h4,h5⟩,_⟩:=hP.ty t T ht
   obtain ⟨z1,z2,z3⟩:=IN (P:=P) (w:=w) (μ:=μ) hP.tocz (s:=aE S w0 M0 s0 env.bx μ w) (bx:=env.bx) T
   refine Ir hP h hd (cells:=z.cells) (t:=t) ?_ (hnew (B, .cells (zeroCells S T)) (List.mem_singleton.2 rfl) (Nat.le_refl _) (by show B<B+16; omega)) z2 (by rw [h5]; exact z1) (fun v hv j hj=>by rw [z3 v hv] at hj; simp at hj) hK
   unfold execOp
   simp only [ho]
   simp [Instr.alloc,zeroValue,typeInfo,h1,h3,newVar,newRow]
 · cases hb:uq S t with
   | false=>rw [hb] at hl; exact hl.elim
   | true=>
    rw [hb] at hl
    obtain ⟨rfl,rfl⟩:=bl hl
    exact J6 hP h hd ho hnew hb hK
theorem Kd (hP:aU P S ai) (h:Inv P S w0 M0 s0 dq env a w μ) (hd: ∀ d,o.dst=some d→d<a.tmps.size) {B:Nat} {t:TypeId} {x:Operand} (ho:o.op= .box t x)
 (hnew: ∀ u ∈ us,B≤u.1→u.1<B+16→env.bx u.1=none)
 (hl:(match S.ty t,aN S env.tm x with
  | some u,some v=>cond (fits S (cellsOf S v) (Ty.sz S u)) (match S.sp t with
   | false=>aA S (.ptr (B) 0) [(B, .cells (cellsOf S v))]
   | true=>match cellsOf S v with
    | .ptr c 0::vs=>aA S (.split B c) [(B, .cells vs)]
    | _=> .fail) .fail
  | _,_=> .fail).leaf (V,us)) (hK:Goal P S w0 M0 s0 dq env a o.dst V us K):o.wp P a w K Q:=by
 split at hl
 · rename_i T v ht hx
   cases hf:fits S (cellsOf S v) (Ty.sz S T) with
   | false=>rw [hf] at hl; exact hl.elim
   | true=>
    rw [hf,cond_true] at hl
    obtain ⟨f1,f2⟩:=zU hf
    obtain ⟨hv,cO⟩:=bk h hx
    obtain ⟨c1,c2⟩:=zn hP.tocz f2 hv
    split at hl
    rotate_left
    · split at hl
      · rename_i c vs hcs
        obtain ⟨rfl,rfl⟩:=bl hl
        rw [hcs] at f2 c1 c2
        refine SW hP h hd (cells:=(a.eval x).cells) (t:=t) ?_ (hnew (B, .cells vs) (List.mem_singleton.2 rfl) (Nat.le_refl _) (by show B<B+16; omega)) f2 c1 (fun v hv j hj=>cO j (c2 v hv j hj)) hK
        unfold execOp
        simp only [ho]
        simp [Instr.box,newVar,newRow]
      · exact hl.elim
    obtain ⟨rfl,rfl⟩:=bl hl
    refine Ir hP h hd (cells:=(a.eval x).cells) (t:=t) ?_ (hnew (B, .cells (cellsOf S v)) (List.mem_singleton.2 rfl) (Nat.le_refl _) (by show B<B+16; omega)) f2 c1 (fun v hv j hj=>cO j (c2 v hv j hj)) hK
    unfold execOp
    simp only [ho]
    simp [Instr.box,newVar,newRow]
 · exact hl.elim
end
end Go.Sy
