import Derived.WalkKit
import Derived.Deep.LoopGhost
import Derived.Deep.AppendSrc
import Derived.Deep.MidRow
import Derived.Lib.FrozenHead2
import Derived.Laws.BytesString
import Derived.Lib.Strings
set_option linter.unusedVariables false
set_option linter.unusedSimpArgs false
namespace Go.Sy
inductive Ty where
 | int (k:IntKind) | bool | str | st (t:Nat) | sl (e:Ty) | pt
 deriving DecidableEq,Inhabited
def Ty.den (C:Nat→Type):Ty→Type
 | .int _=>Int
 | .bool=>Bool
 | .str=>List UInt8
 | .st t=>C t
 | .sl e=>List (e.den C)
 | .pt=>Unit   -- a pointer in a struct
def ag (C:Nat→Type):List Ty→Type
 | []=>Unit
 | [t]=>t.den C
 | t::u::ts=>t.den C×ag C (u::ts)
def ag.cons {C:Nat→Type} {t:Ty} : {ts:List Ty} →t.den C→ag C ts→ag C (t::ts)
 | [],x,_=>x
 | _::_,x,r=>(x,r)
def ag.head {C:Nat→Type} {t:Ty} : {ts:List Ty} →ag C (t::ts)→t.den C
 | [],x=>x
 | _::_,x=>x.1
def ag.tail {C:Nat→Type} {t:Ty} : {ts:List Ty} →ag C (t::ts)→ag C ts
 | [],_=>()
 | _::_,x=>x.2
structure aN where
 C:Nat→Type
 F:Nat→List Ty
 ex:(t:Nat)→C t→ag C (F t)
 im:(t:Nat)→ag C (F t)→C t
 dB:Nat→Nat→Option (Nat×Ty)
 z:(t:Nat)→C t
 ty:Nat→Option Ty
 pt:Nat→Bool
 ar:Nat→Option (Nat×Ty)
 eq:Nat→Bool
 kK:Nat→Bool
 gl:List ((Nat×Nat)×(Value→Prop))
 gb:List (Nat×(Obj→Prop))
 bt:Option (Nat×Nat)
 sp:Nat→Bool
inductive CK where
 | data (t:Ty)
 | aT (e:Ty)      -- a slice whose room behind its end is its holder's alone
 | aH (e:Ty)      -- a slice whose array is its holder's alone
 deriving DecidableEq,Inhabited
inductive K where
 | val (c:CK)
 | obj (cs:List CK)
 | opt (cs:List CK)
 | nil
 | ro (t:Ty)
 | fn (a r:List Ty)
 | bW (cs:List CK)  -- a slice whose array is cells of its holder's own
 | err                 -- an error: is it nil?
 | aV                 -- a builder of a text
 | bD (t:Ty) (cs:List CK)  -- an object whose first cell points to an object of its own
 deriving DecidableEq,Inhabited
def CK.den (C:Nat→Type):CK→Type
 | .data t=>t.den C
 | .aT e=>List (e.den C)
 | .aH e=>List (e.den C)
def bl (C:Nat→Type):List CK→Type
 | []=>Unit
 | [t]=>t.den C
 | t::u::ts=>t.den C×bl C (u::ts)
def K.den (C:Nat→Type):K→Type
 | .val c=>c.den C
 | .obj cs=>bl C cs
 | .opt cs=>Option (bl C cs)
 | .nil=>Unit
 | .ro t=>t.den C
 | .fn a r=>ag C a→Option (ag C r)
 | .bW cs=>bl C cs
 | .err=>Bool
 | .aV=>List UInt8
 | .bD t cs=>t.den C×bl C cs
def Ks (C:Nat→Type):List K→Type
 | []=>Unit
 | [t]=>t.den C
 | t::u::ts=>t.den C×Ks C (u::ts)
def bl.cons {C:Nat→Type} {t:CK} : {ts:List CK} →t.den C→bl C ts→bl C (t::ts)
 | [],x,_=>x
 | _::_,x,r=>(x,r)
def bl.head {C:Nat→Type} {t:CK} : {ts:List CK} →bl C (t::ts)→t.den C
 | [],x=>x
 | _::_,x=>x.1
def bl.tail {C:Nat→Type} {t:CK} : {ts:List CK} →bl C (t::ts)→bl C ts
 | [],_=>()
 | _::_,x=>x.2
def Ks.cons {C:Nat→Type} {t:K} : {ts:List K} →t.den C→Ks C ts→Ks C (t::ts)
 | [],x,_=>x
 | _::_,x,r=>(x,r)
def Ks.head {C:Nat→Type} {t:K} : {ts:List K} →Ks C (t::ts)→t.den C
 | [],x=>x
 | _::_,x=>x.1
def Ks.tail {C:Nat→Type} {t:K} : {ts:List K} →Ks C (t::ts)→Ks C ts
 | [],_=>()
 | _::_,x=>x.2
inductive V (C:Nat→Type) where
 | undef
 | skip
 | d (t:Ty) (x:t.den C)
 | pr (p:Prop) (i:Decidable p)
 | aT (b:Nat) (e:Ty) (l:List (e.den C))
 | aH (b:Nat)
 | pre (b:Nat) (n:Int)
 | win (b:Nat) (i n:Int)
 | ptr (b off:Nat)
 | bW (b n:Nat)
 | split (b c:Nat)
 | iF (c:Nat)
 | err (b:Bool)
 | dL (b:Nat) (i:Int) (off:Nat)
 | cH (t:Ty) (x:t.den C)
 | nil
 | b7
 | fv (a r:List Ty) (g:ag C a→Option (ag C r))
 | dS (f:Nat) (caps:List (V C))
 | agg (t:Nat) (vs:List (V C))
 | fy (vs:List (V C))
inductive cR (C:Nat→Type) where
 | cells (vs:List (V C))
 | bw (vs:List (V C))
 | arr (e:Ty) (l:List (e.den C))
 | bp (e:Ty) (l:List (e.den C))
 | tail
 | dead
 | aV (j:Nat)           -- a builder; its bytes are in 'j'
 | buf (l:List UInt8)    -- a builder's bytes
structure Env (C:Nat→Type) where
 tm:Nat→V C
 bx:Nat→Option (cR C)
 df:Bool   -- has the function's deferred call been laid down?
def ah {α:Type} (f:Nat→α) (k:Nat) (v:α):Nat→α:=fun i=>cond (Nat.beq i k) v (f i)
abbrev aG (C:Nat→Type):=List (Nat×cR C)
abbrev Bx (C:Nat→Type):=Nat→Option (cR C)
def ai {C:Nat→Type} (bx:Bx C):aG C→Bx C
 | []=>bx
 | u::us=>ai (ah bx u.1 (some u.2)) us
def om {C:Nat→Type} (tm:Nat→V C) (dst:Option Nat) (v:V C):Nat→V C:=match dst with
 | some d=>ah tm d v
 | none=>tm
def Env.apply {C:Nat→Type} (e:Env C) (dst:Option Nat) (v:V C) (us:aG C):Env C:=
 { tm:=om e.tm dst v,bx:=ai e.bx us,df:=e.df }
structure Gd where
 p:Prop
 i:Decidable p
def gd (p:Prop) [i:Decidable p]:Gd:=⟨p,i⟩
inductive Tr (X:Type):Type 1 where
 | fail
 | ret (x:X)
 | ite (p:Prop) (i:Decidable p) (a b:Tr X)
 | bind (α:Type) (m:Option α) (k:α→Tr X)
 | opt (α:Type) (m:Option α) (n:Tr X) (s:α→Tr X)
def Tr.run {X:Type} {R:Type} :Tr X→(X→Option R)→Option R
 | .fail,_=>none
 | .ret x,k=>k x
 | .ite _ i a b,k=> @_root_.ite _ _ i (a.run k) (b.run k)
 | .bind _ m f,k=>m.bind fun x=>(f x).run k
 | .opt _ m n s,k=>match m with
  | none=>n.run k
  | some x=>(s x).run k
def Tr.gd {X:Type} :List Gd→Tr X→Tr X
 | [],r=>r
 | g::gs,r=> .ite g.p g.i (Tr.gd gs r) .fail
section
variable (S:aN)
def dx (t u:Ty) (x:t.den S.C):Option (u.den S.C):=if h:t=u then some (h▸x) else none
def Ty.zero:(t:Ty)→t.den S.C
 | .int _=>(0:Int)
 | .bool=>false
 | .str=>([]:List UInt8)
 | .sl _=> []
 | .st u=>S.z u
 | .pt=>()
def Ty.sz:Ty→Nat
 | .st u=>(S.F u).length
 | _=>1
def cu (bx:Bx S.C) (t:Ty) (v:V S.C):Option (t.den S.C):=
 match v with
 | .d u x=>dx S u t x
 | .pr p i=>dx S .bool t (@decide p i)
 | .aT _ e l=>dx S (.sl e) t l
 | .b7=>match t with
  | .sl _=>some []
  | _=>none
 | .aH b=>match bx b with
  | some (.arr e l) | some (.bp e l)=>dx S (.sl e) t l
  | _=>none
 | _=>none
def lq:(ts:List Ty)→ag S.C ts→List (V S.C)
 | [],_=> []
 | t::ts,x=> .d t (ag.head x)::lq ts (ag.tail x)
def fU:(t:Ty)→t.den S.C→List (V S.C)
 | .st u,x=>lq S (S.F u) (S.ex u x)
 | t,x=> [.d t x]
def eZ (bx:Bx S.C):(ts:List Ty)→List (V S.C)→Option (ag S.C ts)
 | [],_=>some ()
 | t::ts,v::vs=>(cu S bx t v).bind fun x=>(eZ bx ts vs).bind fun y=>some (ag.cons x y)
 | _::_,[]=>none
def fh (bx:Bx S.C) (t:Ty) (vs:List (V S.C)):Option (t.den S.C):=
 match t with
 | .st u=>(eZ S bx (S.F u) vs).bind fun x=>some (S.im u x)
 | t=>match vs with
  | v::_=>cu S bx t v
  | []=>none
def zeroCell:Ty→V S.C
 | .sl _=> .b7
 | .pt=> .nil
 | t=> .d t (Ty.zero S t)
def zeroCells:Ty→List (V S.C)
 | .st u=>(S.F u).map (zeroCell S)
 | t=> [zeroCell S t]
end
end Go.Sy
namespace Go.Sy
section
variable (S:aN)
def outs:List K→List K
 | []=> []
 | .obj cs::r=> .obj cs::outs r
 | .aV::r=> .aV::outs r
 | .bD t cs::r=> .bD t cs::outs r
 | _::r=>outs r
structure Entry where
 f:Nat
 ps:List K
 rs:List K
 sp:Ks S.C ps→Option (Ks S.C (rs++outs ps))
structure eJ where
 f:Nat
 a:List Ty
 c:List Ty
 r:List Ty
 sp:ag S.C a→ag S.C c→Option (ag S.C r)
structure eM where
 es:List (Entry S)
 fs:List (eJ S)
 nl:Bool
 vw:Bool
 dc:Option (Nat×List Operand)   -- the call that it defers
 de:List (Entry S)                -- callees that may be deferred
def sU:Ty→Bool
 | .sl _=>false
 | .st u=>(S.F u).all fun | .sl _=>false | .st _=>false | _=>true
 | _=>true
def lR:CK→Bool
 | .data t=>sU S t
 | .aT _=>false
 | .aH e=>sU S e
def nq:K→Bool
 | .val c=>lR S c
 | .obj cs | .opt cs=>cs.all (lR S)
 | .nil | .err | .aV=>true
 | .ro _ | .fn _ _ | .bD _ _=>false
 | .bW cs=>cs.all (lR S)
def datum (bx:Bx S.C) (t:Ty) (v:V S.C):Option (t.den S.C):=
 match v with
 | .agg u vs=>match t with
  | .st w=>if u=w then fh S bx (.st w) vs else none
  | _=>none
 | v=>match t with
  | .st w=>match v with
   | .d u x=>dx S u (.st w) x
   | _=>none
  | t=>cu S bx t v
def cg (bx:Bx S.C):V S.C→aG S.C
 | .aH b=>match bx b with
  | some (.arr e l)=> [(b, .bp e l)]
  | _=> []
 | _=> []
def cB (bx:Bx S.C) (v:V S.C):aG S.C:=
 match v with
 | .agg _ vs=>vs.flatMap (cg S bx)
 | v=>cg S bx v
def cellsOf (v:V S.C):List (V S.C):=
 match v with
 | .d t x=>fU S t x
 | .agg _ vs=>vs
 | v=> [v]
def aj:V S.C→List Nat
 | .aT b _ _ | .aH b | .ptr b _ | .dL b _ _ | .pre b _ | .win b _ _ | .bW b _ | .iF b=> [b]
 | .split b c=> [b,c]
 | _=> []
def av:V S.C→List Nat
 | .agg _ vs | .dS _ vs | .fy vs=>vs.flatMap (aj S)
 | v=>aj S v
def bR (id:Nat):(c:CK)→c.den S.C→List (V S.C)×aG S.C×Nat
 | .data t,x=>(fU S t x,[],id)
 | .aT e,x=>([.aT id e x],[(id, .tail)],id+1)
 | .aH e,x=>([.aH id],[(id, .arr e x)],id+1)
def bf (id:Nat):(cs:List CK)→bl S.C cs→List (V S.C)×aG S.C×Nat
 | [],_=>([],[],id)
 | c::cs,x=>
  let a:=bR S id c (bl.head x)
  let b:=bf a.2.2 cs (bl.tail x)
  (a.1++b.1,a.2.1++b.2.1,b.2.2)
def CK.sz:CK→Nat
 | .data t=>Ty.sz S t
 | _=>1
def CK.bT:List CK→Nat
 | []=>0
 | c::cs=>CK.sz S c+CK.bT cs
def C5 (id:Nat):(k:K)→k.den S.C→(V S.C×aG S.C×Nat→Tr (V S.C×aG S.C))→Tr (V S.C×aG S.C)
 | .val (.data t),x,κ=>κ (.d t x,[],id)
 | .val (.aT e),x,κ=>κ (.aT id e x,[(id, .tail)],id+1)
 | .val (.aH e),x,κ=>κ (.aH id,[(id, .arr e x)],id+1)
 | .obj cs,x,κ=>let a:=bf S (id+1) cs x; κ (.ptr id 0,(id, .cells a.1)::a.2.1,a.2.2)
 | .opt cs,x,κ=> .opt _ x (κ (.nil,[],id)) fun y=>let a:=bf S (id+1) cs y; κ (.ptr id 0,(id, .cells a.1)::a.2.1,a.2.2)
 | .fn a r,g,κ=>κ (.fv a r g,[],id)
 | .ro t,x,κ=>κ (.cH t x,[],id)
 | .nil,_,κ=>κ (.nil,[],id)
 | .err,x,κ=>κ (.err x,[],id)
 | .aV,x,κ=>κ (.ptr id 0,[(id, .aV (id+1)),(id+1, .buf x)],id+2)
 | .bW cs,x,κ=>let a:=bf S (id+1) cs x; κ (.bW id (CK.bT S cs),(id, .cells a.1)::a.2.1,a.2.2)
 | .bD _ _,_,_=> .fail
def cT (bx:Bx S.C) (c:CK) (vs:List (V S.C)):Option (c.den S.C×aG S.C):=
 match c with
 | .data t=>(fh S bx t vs).bind fun x=>some (x,(vs.take (Ty.sz S t)).flatMap (cg S bx))
 | .aT e=>match vs with
  | .aT b e' l::_=>match bx b with
   | some .tail=>(dx S (.sl e') (.sl e) l).bind fun x=>some (x,[(b, .dead)])
   | _=>none
  | .b7::_=>some ([],[])
  | _=>none
 | .aH e=>match vs with
  | .aH b::_=>match bx b with
   | some (.arr e' l)=>(dx S (.sl e') (.sl e) l).bind fun x=>some (x,[(b, .dead)])
   | _=>none
  | .pre b n::_=>match bx b with
   | some (.arr e' l)=>(dx S (.sl e') (.sl e) (List.take n.toNat l)).bind fun x=>some (x,[(b, .dead)])
   | _=>none
  | .b7::_=>some ([],[])
  | _=>none
def cQ (bx:Bx S.C):(cs:List CK)→List (V S.C)→Option (bl S.C cs×aG S.C)
 | [],_=>some ((),[])
 | c::cs,vs=>(cT S bx c vs).bind fun a=>
  (cQ (ai bx a.2) cs (vs.drop (CK.sz S c))).bind fun b=>some (bl.cons a.1 b.1,a.2++b.2)
def C9:V S.C→Bool
 | .aH _=>false
 | _=>true
def iW (bx:Bx S.C) (t:Ty) (v:V S.C):Option (t.den S.C):=match v with
 | .ptr b 0=>match bx b with
  | some (.bw ws)=>cond (ws.all (C9 S)) (fh S bx t ws) none
  | _=>none
 | .cH u x=>dx S u t x
 | _=>none
def caps (bx:Bx S.C):(ts:List Ty)→List (V S.C)→Option (ag S.C ts)
 | [],[]=>some ()
 | t::ts,v::vs=>(iW S bx t v).bind fun x=>(caps bx ts vs).bind fun r=>some (ag.cons x r)
 | _,_=>none
def lS (fs:List (eJ S)) (bx:Bx S.C) (a r:List Ty):V S.C→Option (ag S.C a→Option (ag S.C r))
 | .fv a' r' g=>if h:a'=a then if h':r'=r then some (h'▸h▸g) else none else none
 | .dS f vs=>fs.findSome? fun e=>
  if e.f=f then (if h:e.a=a then if h':e.r=r then (caps S bx e.c vs).bind fun y=>some (h'▸h▸fun x=>e.sp x y) else none else none) else none
 | _=>none
def eA (bx:Bx S.C) (cs:List CK) (b:Nat):Option (bl S.C cs×aG S.C):=match bx b with
 | some (.cells vs)=>cond (Nat.beq vs.length (CK.bT S cs)) ((cQ S (ah bx b (some .dead)) cs (vs.drop 0)).bind fun a=>some (a.1,(b, .dead)::a.2)) none
 | _=>none
def bP (fs:List (eJ S)) (bx:Bx S.C) (k:K) (v:V S.C):Option (k.den S.C×aG S.C):=
 match k with
 | .val (.data t)=>(datum S bx t v).bind fun x=>some (x,cB S bx v)
 | .val (.aT e)=>cT S bx (.aT e) [v]
 | .val (.aH e)=>cT S bx (.aH e) [v]
 | .obj cs=>match v with
  | .ptr b off=>match bx b with
   | some (.cells vs)=>cond (Nat.beq off 0&&Nat.beq vs.length (CK.bT S cs)) ((cQ S (ah bx b (some .dead)) cs (vs.drop off)).bind fun a=>some (a.1,(b, .dead)::a.2)) none
   | _=>none
  | _=>none
 | .nil=>match v with
  | .nil=>some ((),[])
  | _=>none
 | .ro t=>(iW S bx t v).bind fun x=>some (x,[])
 | .fn a r=>(lS S fs bx a r v).bind fun g=>some (g,[])
 | .opt cs=>match v with
  | .nil=>some (none,[])
  | .ptr b off=>match bx b with
   | some (.cells vs)=>cond (Nat.beq off 0&&Nat.beq vs.length (CK.bT S cs)) ((cQ S (ah bx b (some .dead)) cs (vs.drop off)).bind fun a=>some (some a.1,(b, .dead)::a.2)) none
   | _=>none
  | _=>none
 | .err=>match v with
  | .err b=>some (b,[])
  | _=>none
 | .aV=>match v with
  | .ptr b off=>match bx b with
   | some (.aV j)=>match bx j with
    | some (.buf l)=>cond (Nat.beq off 0) (some (l,[(b, .dead),(j, .dead)])) none
    | _=>none
   | _=>none
  | _=>none
 | .bW cs=>match v with
  | .bW b n=>match bx b with
   | some (.cells vs)=>cond (Nat.beq n vs.length&&Nat.beq vs.length (CK.bT S cs)) ((cQ S (ah bx b (some .dead)) cs (vs.drop 0)).bind fun a=>some (a.1,(b, .dead)::a.2)) none
   | _=>none
  | _=>none
 | .bD t cs=>match v with
  | .split b c=>(eA S bx [.data t] c).bind fun x=>(eA S (ai bx x.2) cs b).bind fun y=>some ((x.1,y.1),x.2++y.2)
  | _=>none
def cZ (fs:List (eJ S)) (bx:Bx S.C):(ks:List K)→List (V S.C)→Option (Ks S.C ks×aG S.C)
 | [],[]=>some ((),[])
 | k::ks,v::vs=>(bP S fs bx k v).bind fun a=>(cZ fs (ai bx a.2) ks vs).bind fun b=>some (Ks.cons a.1 b.1,a.2++b.2)
 | _,_=>none
def setCells (vs:List (V S.C)) (off:Nat) (ws:List (V S.C)):List (V S.C):=vs.take off++ws++vs.drop (off+ws.length)
def dN (id:Nat):(ks:List K)→List (V S.C)→Ks S.C (outs ks)→aG S.C
 | [],_,_=> []
 | .obj cs::ks,v::vs,x=>match v with
  | .ptr b _=>
   let a:=bf S id cs (Ks.head (t:= .obj cs) x)
   (b, .cells a.1)::a.2.1++dN a.2.2 ks vs (Ks.tail (t:= .obj cs) x)
  | _=> []
 | .aV::ks,v::vs,x=>match v with
  | .ptr b _=>(b, .aV id)::(id, .buf (Ks.head (t:= .aV) x))::dN (id+1) ks vs (Ks.tail (t:= .aV) x)
  | _=> []
 | .bD t cs::ks,v::vs,x=>match v with
  | .split b c=>
   let y:=Ks.head (t:= .bD t cs) x
   let a0:=bf S id [.data t] y.1
   let a:=bf S id cs y.2
   (c, .cells a0.1)::(b, .cells a.1)::a.2.1++dN a.2.2 ks vs (Ks.tail (t:= .bD t cs) x)
  | _=> []
 | .val _::ks,_::vs,x=>dN id ks vs x
 | .opt _::ks,_::vs,x=>dN id ks vs x
 | .nil::ks,_::vs,x=>dN id ks vs x
 | .ro _::ks,_::vs,x=>dN id ks vs x
 | .fn _ _::ks,_::vs,x=>dN id ks vs x
 | .bW _::ks,_::vs,x=>dN id ks vs x
 | .err::ks,_::vs,x=>dN id ks vs x
 | _::_,[],_=> []
def cJ:List K→List (V S.C)→List Nat
 | .obj _::ks, .ptr b _::vs=>b::cJ ks vs
 | .aV::ks, .ptr b _::vs=>b::cJ ks vs
 | .bD _ _::ks, .split b c::vs=>c::b::cJ ks vs
 | _::ks,_::vs=>cJ ks vs
 | _,_=> []
def gr (dV:Bool) (us:aG S.C):aG S.C:=cond dV us (us.filter fun u=>match u.2 with
 | .bp _ _=>false
 | _=>true)
end
end Go.Sy
namespace Go.Sy
section
variable (S:aN)
variable (T:eM S)
abbrev Rt:=Tr (V S.C×aG S.C)
def ax (v:V S.C) (us:aG S.C):Rt S:= .ret (v,us)
def gX (t:Nat):Option Nat:=match S.ar t with
 | some _=>none
 | none=>match S.ty t with
  | some (.st u)=>some u
  | _=>none
def kC (t:Nat):Option (Nat×Ty×Nat):=match S.ar t with
 | some (n,e)=>match e,S.ty t with
  | .st _,_=>none
  | e,some (.st u)=>some (n,e,u)
  | _,_=>none
 | none=>none
def sy (t:Nat):Option (Nat×Nat×Nat):=match S.ar t with
 | some (n,e)=>match e,S.ty t with
  | .st w,some (.st u)=>some (n,w,u)
  | _,_=>none
 | none=>none
def dG (t:Nat):Option Ty:=match S.ty t with
 | some (.sl e)=>some e
 | _=>none
def arith (op:BinOp) (k:IntKind) (x y:Int):Option (List Gd×V S.C):=
 match op with
 | .add=>some ([], .d (.int k) (k.wrap (x+y)))
 | .sub=>some ([], .d (.int k) (k.wrap (x - y)))
 | .mul=>some ([], .d (.int k) (k.wrap (x*y)))
 | .quo=>some ([gd (¬ y=0)], .d (.int k) (k.wrap (x.tdiv y)))
 | .rem=>some ([gd (¬ y=0)], .d (.int k) (x.tmod y))
 | .and=>some ([], .d (.int k) (k.wrap ((BitVec.ofInt k.bits x &&& BitVec.ofInt k.bits y).toNat:Nat)))
 | .shl=>some ([gd (0≤y)], .d (.int k) (k.wrap (x*2 ^ (min y.toNat k.bits))))
 | .shr=>some ([gd (0≤y)], .d (.int k) (x.fdiv (2 ^ (min y.toNat k.bits))))
 | .eql=>some ([], .pr (x=y) inferInstance)
 | .neq=>some ([], .pr (x≠y) inferInstance)
 | .lss=>some ([], .pr (x<y) inferInstance)
 | .leq=>some ([], .pr (x≤y) inferInstance)
 | .gtr=>some ([], .pr (y<x) inferInstance)
 | .geq=>some ([], .pr (y≤x) inferInstance)
 | _=>none
def zL (op:BinOp) (x y:List UInt8):Option (List Gd×V S.C):=
 match op with
 | .add=>some ([gd (x.length+y.length≤9223372036854775807)], .d .str (x++y))
 | .eql=>some ([], .pr (x=y) inferInstance)
 | .neq=>some ([], .pr (x≠y) inferInstance)
 | _=>none
def V.int? {D:Nat→Type} :V D→Option (IntKind×Int)
 | .d (.int k) n=>some (k,n)
 | _=>none
def V.k9 {D:Nat→Type} :V D→Option (List UInt8)
 | .d .str s=>some s
 | _=>none
def V.bool? {D:Nat→Type} :V D→Option Bool
 | .d .bool b=>some b
 | .pr p i=>some (@decide p i)
 | _=>none
def CL:BinOp→Bool
 | .shl | .shr=>true
 | _=>false
def sA (op:BinOp) (t:Nat) (x y:V S.C):Option (List Gd×V S.C):=
 match x.int?,y.int? with
 | some (k,a),some (k',b)=>if CL op=true∨k=k' then arith S op k a b else none
 | _,_=>match x.k9,y.k9 with
  | some a,some b=>zL S op a b
  | _,_=>match x.bool?,y.bool? with
   | some a,some b=>cond (match S.ty t with | some .bool=>true | _=>false) (match op with
    | .eql=>some ([], .pr (a=b) inferInstance)
    | .neq=>some ([], .pr (a≠b) inferInstance)
    | _=>none) none
   | _,_=>cond (S.pt t) (match x,y with
    | .nil, .nil=>match op with
     | .eql=>some ([], .d .bool true)
     | .neq=>some ([], .d .bool false)
     | _=>none
    | .ptr _ _, .nil=>match op with
     | .eql=>some ([], .d .bool false)
     | .neq=>some ([], .d .bool true)
     | _=>none
    | _,_=>none) none
def nh:(t:Ty)→t.den S.C→t.den S.C→Prop
 | .int _,x,y=> @Eq Int x y
 | .bool,x,y=> @Eq Bool x y
 | .str,x,y=> @Eq (List UInt8) x y
 | _,_,_=>False
def Bs:(t:Ty)→(x y:t.den S.C)→Decidable (nh S t x y)
 | .int _,x,y=>(inferInstance:DecidableEq Int) x y
 | .bool,x,y=>(inferInstance:DecidableEq Bool) x y
 | .str,x,y=>(inferInstance:DecidableEq (List UInt8)) x y
 | .st _,_,_=>instDecidableFalse
 | .sl _,_,_=>instDecidableFalse
 | .pt,_,_=>instDecidableFalse
def fT:(ts:List Ty)→ag S.C ts→ag S.C ts→Prop
 | [],_,_=>True
 | [t],x,y=>nh S t x y
 | t::u::ts,x,y=>nh S t x.1 y.1∧fT (u::ts) x.2 y.2
def pz:(ts:List Ty)→(x y:ag S.C ts)→Decidable (fT S ts x y)
 | [],_,_=>instDecidableTrue
 | [t],x,y=>Bs S t x y
 | t::u::ts,x,y=> @instDecidableAnd _ _ (Bs S t x.1 y.1) (pz (u::ts) x.2 y.2)
def structEq (op:BinOp) (t:Nat) (x y:V S.C):Rt S:=
 match S.ty t with
 | some (.st u)=>match datum S (fun _=>none) (.st u) x,datum S (fun _=>none) (.st u) y with
  | some a,some b=>match op with
   | .eql=>ax S (.pr (fT S (S.F u) (S.ex u a) (S.ex u b)) (pz S (S.F u) (S.ex u a) (S.ex u b))) []
   | .neq=>ax S (.pr (¬ fT S (S.F u) (S.ex u a) (S.ex u b)) (@instDecidableNot _ (pz S (S.F u) (S.ex u a) (S.ex u b)))) []
   | _=> .fail
  | _,_=> .fail
 | _=> .fail
def Bb:Value→Option (V S.C)
 | .int k n=>some (.d (.int k) n)
 | .bool b=>some (.d .bool b)
 | .string s=>some (.d .str s.data.toList)
 | .pointer none=>some .nil
 | .slice none 0 0=>some .b7
 | _=>none
def aK (tm:Nat→V S.C):Operand→Option (V S.C)
 | .tmp t=>some (tm t)
 | .const v=>Bb S v
 | .func f=>some (.dS f [])
 | .global _=>none
def f_ (tm:Nat→V S.C):Option Operand→Option (Option (V S.C))
 | none=>some none
 | some x=>(aK S tm x).bind fun v=>some (some v)
def br:V S.C→Bool
 | .d (.st _) _=>false
 | .d _ _ | .pr _ _ | .aT _ _ _ | .aH _ | .ptr _ _ | .dL _ _ _ | .cH _ _ | .nil | .b7 | .fv _ _ _=>true
 | _=>false
def fits (vs:List (V S.C)) (n:Nat):Bool:=Nat.beq vs.length n&&vs.all (br S)
def pK (u:Nat) (vs:List (V S.C)):List (Nat×V S.C)→Option (List (V S.C))
 | []=>some vs
 | (i,v)::r=>match S.dB u i with
  | some (o,t)=>cond (fits S (cellsOf S v) (Ty.sz S t)&&Nat.ble (o+Ty.sz S t) vs.length) (pK u (setCells S vs o (cellsOf S v)) r) none
  | none=>none
def iY (bx:Bx S.C) (e:Ty) (l:List (e.den S.C)):List (Nat×V S.C)→Option (List (e.den S.C)×aG S.C)
 | []=>some (l,[])
 | (i,v)::r=>cond (Nat.blt i (List.length l)) ((datum S bx e v).bind fun x=>(iY bx e (l.set i x) r).bind fun b=>some (b.1,cB S bx v++b.2)) none
def eN (e:Ty) (l:List (e.den S.C)) (i:Int):e.den S.C:=l.getD i.toNat (Ty.zero S e)
def partOf (e:Ty) (x:e.den S.C) (off:Nat) (t:Ty):Option (t.den S.C):=fh S (fun _=>none) t ((fU S e x).drop off)
def limit:Nat:=140737488355328
def yu (t:Ty) (bx:Bx S.C):V S.C→Rt S
 | .ptr b off=>match bx b with
  | some (.cells vs) | some (.bw vs)=>match t with
   | .st u=>cond (Nat.ble (off+(S.F u).length) vs.length) (ax S (.agg u ((vs.drop off).take (S.F u).length)) []) .fail
   | _=>match vs[off]? with
    | some v=>ax S v []
    | none=> .fail
  | _=> .fail
 | .cH u x=>match dx S u t x with
  | some y=>ax S (.d t y) []
  | none=> .fail
 | .iF c=>match t with
  | .pt=>ax S (.ptr c 0) []
  | _=> .fail
 | .dL b i off=>match bx b with
  | some (.arr e l) | some (.bp e l)=>match partOf S e (eN S e l i) off t with
   | some y=>ax S (.d t y) []
   | none=> .fail
  | _=> .fail
 | _=> .fail
def rF (t:Ty) (bx:Bx S.C) (v:V S.C):V S.C→Rt S
 | .ptr b off=>match bx b with
  | some (.cells vs)=>cond (fits S (cellsOf S v) (Ty.sz S t)&&Nat.ble (off+Ty.sz S t) vs.length) (ax S .skip [(b, .cells (setCells S vs off (cellsOf S v)))]) .fail
  | _=> .fail
 | .dL b i off=>match bx b with
  | some (.arr e l)=>match datum S bx t v with
   | some y=>cond (Nat.ble (off+Ty.sz S t) (Ty.sz S e)&&(cB S bx v).all fun u=> !Nat.beq u.1 b) (match fh S (fun _=>none) e (setCells S (fU S e (eN S e l i)) off (fU S t y)) with
    | some e'=>ax S .skip (cB S bx v++ [(b, .arr e (l.set i.toNat e'))])
    | none=> .fail) .fail
   | none=> .fail
  | _=> .fail
 | _=> .fail
def zK (u:Nat) (bx:Bx S.C) (v:V S.C):V S.C→Rt S
 | .ptr b off=>match bx b with
  | some (.cells vs)=>cond (fits S (cellsOf S v) (Ty.sz S (.st u))&&Nat.ble (off+Ty.sz S (.st u)) vs.length) (ax S .skip [(b, .bw (setCells S vs off (cellsOf S v)))]) .fail
  | _=> .fail
 | _=> .fail
def wV (t f:Nat):V S.C→Rt S
 | .ptr b off=>match gX S t with
  | some u=>match S.dB u f with
   | some (o,_)=>ax S (.ptr b (off+o)) []
   | none=> .fail
  | _=> .fail
 | .cH (.st u) x=>match gX S t with
  | some u'=>cond (Nat.beq u u') (match S.dB u f with
   | some (o,w)=>match partOf S (.st u) x o w with
    | some y=>ax S (.cH w y) []
    | none=> .fail
   | none=> .fail) .fail
  | _=> .fail
 | .dL b i off=>match gX S t with
  | some u=>match S.dB u f with
   | some (o,_)=>ax S (.dL b i (off+o)) []
   | none=> .fail
  | _=> .fail
 | .split b c=>match gX S t with
  | some u=>match S.dB u f with
   | some (o,_)=>match o with
    | 0=>ax S (.iF c) []
    | o+1=>ax S (.ptr b o) []
   | none=> .fail
  | _=> .fail
 | _=> .fail
def dj (i:Int) (n:Nat):List Gd:= [gd (0≤i),gd (i<(n:Int))]
def jR (v:V S.C):Option Int:=v.int?.map (·.2)
def yO (b:Nat) (i:Int) (j:Nat):Nat→Rt S
 | 0=> .fail
 | n+1=> .ite (i=(j:Int)) (Int.instDecidableEq i (j:Int)) (ax S (.ptr b j) []) (yO b i (j+1) n)
def x9 (e0:Ty) (bx:Bx S.C) (i:Int):V S.C→Rt S
 | .d (.sl e) l=>if e=e0 then .gd (dj i l.length) (ax S (.cH e (eN S e l i)) []) else .fail
 | .aT _ e l=>if e=e0 then .gd (dj i l.length) (ax S (.cH e (eN S e l i)) []) else .fail
 | .aH b=>match bx b with
  | some (.arr e l) | some (.bp e l)=>if e=e0 then .gd (dj i l.length) (ax S (.dL b i 0) []) else .fail
  | _=> .fail
 | .bW b n=>match e0 with
  | .sl _=> .gd (dj i n) (yO S b i 0 n)
  | _=> .fail
 | _=> .fail
def rowOf (e:Ty):List (V S.C)→Option (List (e.den S.C))
 | []=>some []
 | v::vs=>(cu S (fun _=>none) e v).bind fun x=>(rowOf e vs).bind fun r=>some (x::r)
def vS (n:Nat) (e:Ty) (u:Nat) (bx:Bx S.C) (j:Int):V S.C→Rt S
 | .ptr b off=>match bx b with
  | some (.cells vs) | some (.bw vs)=>match rowOf S e ((vs.drop off).take n) with
   | some l=> .gd (dj j l.length) (ax S (.cH e (eN S e l j)) [(b, .bw vs)])
   | none=> .fail
  | _=> .fail
 | .cH t x=>match dx S t (.st u) x with
  | some y=>match rowOf S e ((fU S (.st u) y).take n) with
   | some l=> .gd (dj j l.length) (ax S (.cH e (eN S e l j)) [])
   | none=> .fail
  | none=> .fail
 | _=> .fail
def oW (u:Nat):V S.C→Option (List (V S.C))
 | .agg u' vs=>cond (Nat.beq u u') (some vs) none
 | .d t x=>(dx S t (.st u) x).bind fun y=>some (fU S (.st u) y)
 | _=>none
def vT (n:Nat) (e:Ty) (u:Nat) (j:Int) (v:V S.C):Rt S:=
 match oW S u v with
 | some vs=>match rowOf S e (vs.take n) with
  | some l=> .gd (dj j l.length) (ax S (.d e (eN S e l j)) [])
  | none=> .fail
 | none=> .fail
def sx (w k:Nat) (j:Int) (vs:List (V S.C)):(i m:Nat)→Rt S
 | _,0=> .fail
 | i,m+1=> .ite (j=(i:Int)) inferInstance (ax S (.agg w ((vs.drop (i*k)).take k)) []) (sx w k j vs (i+1) m)
def bounds (n:Nat) (lo hi:Option (V S.C)):Option (List Gd×Int×Int):=
 match lo,hi with
 | none,none=>some ([],0,n)
 | some a,none=>(jR S a).bind fun l=>some ([gd (0≤l),gd (l≤(n:Int))],l,n)
 | none,some b=>(jR S b).bind fun h=>some ([gd (0≤h),gd (h≤(n:Int))],0,h)
 | some a,some b=>(jR S a).bind fun l=>(jR S b).bind fun h=>some ([gd (0≤h),gd (h≤(n:Int)),gd (0≤l),gd (l≤h)],l,h)
def cut {α:Type} (l:List α) (a b:Int):List α:=(l.take b.toNat).drop a.toNat
def cutFrom {α:Type} (l:List α) (a:Int):List α:=l.drop a.toNat
def gm {α:Type} (l:List α) (a b:Int) (hi:Option (V S.C)):List α:=match hi with
 | none=>cutFrom l a
 | some _=>cut l a b
def kj (k:Nat) (a b:Int):Option (V S.C)→V S.C
 | none=> .pre k b
 | some _=> .win k a (b - a)
def jf {α:Type} (l:List α) (n i m:Int):List α:=l.take n.toNat++(l.drop i.toNat).take m.toNat++l.drop (n+m).toNat
def o_ {α:Type} (z:α) (l:List α) (i m:Int):List α:=l.take i.toNat++List.replicate m.toNat z++l.drop (i+m).toNat
def zG (vw:Bool) (T0:Ty) (bx:Bx S.C) (lo hi:Option (V S.C)):V S.C→Rt S
 | .d .str s=>if T0= .str then match bounds S (List.length s) lo hi with
  | some (gs,a,b)=> .gd gs (ax S (.d .str (gm S s a b hi)) [])
  | none=> .fail else .fail
 | .d (.sl e) s=>if T0= .sl e then match bounds S (List.length s) lo hi with
  | some (gs,a,b)=> .gd gs (ax S (.d (.sl e) (gm S s a b hi)) [])
  | none=> .fail else .fail
 | .aT k e s=>if T0= .sl e then match bounds S s.length lo hi with
  | some (gs,a,b)=> .gd gs (ax S (match hi with | none=> .aT k e (cutFrom s a) | some _=> .d (.sl e) (cut s a b)) [])
  | none=> .fail else .fail
 | .aH k=>match bx k with
  | some (.arr e s)=>if T0= .sl e then match bounds S s.length lo hi with
   | some (gs,a,b)=> .gd gs (cond vw (ax S (kj S k a b lo) []) (ax S (.d (.sl e) (gm S s a b hi)) [(k, .bp e s)]))
   | none=> .fail else .fail
  | some (.bp e s)=>if T0= .sl e then match bounds S s.length lo hi with
   | some (gs,a,b)=> .gd gs (ax S (.d (.sl e) (gm S s a b hi)) [])
   | none=> .fail else .fail
  | _=> .fail
 | .pre k n=>match bx k with
  | some (.arr e s)=>if T0= .sl e then match bounds S (match hi with | none=>n.toNat | some _=>s.length) lo hi with
   | some (gs,a,b)=> .gd gs (ax S (kj S k a b lo) [])
   | none=> .fail else .fail
  | _=> .fail
 | _=> .fail
def zF (T0:Ty) (bx:Bx S.C) (lo hi mx:V S.C):V S.C→Rt S
 | .aH k=>match bx k with
  | some (.arr e s)=>if T0= .sl e then match jR S lo,jR S hi,jR S mx with
   | some a,some b,some c=> .gd [gd (0≤a),gd (a≤b),gd (b≤c),gd (c≤(s.length:Int))] (ax S .undef [])
   | _,_,_=> .fail else .fail
  | _=> .fail
 | _=> .fail
def wH (e:Ty) (bx:Bx S.C):V S.C→Rt S
 | .win b i m=>match bx b with
  | some (.arr e' l)=>match dx S (.sl e') (.sl e) l with
   | some l=>ax S (.fy []) [(b, .arr e (o_ (Ty.zero S e) l i m))]
   | none=> .fail
  | _=> .fail
 | _=> .fail
def mU (B:Nat) (af:Nat) (e:Ty) (bx:Bx S.C) (x:V S.C):V S.C→Rt S
 | .aT b e' l=>match bx b with
  | some .tail=>match dx S (.sl e') (.sl e) l with
   | some l=>match datum S bx (.sl e) x with
    | some y=> .gd [gd ((List.length l+List.length y)*af≤limit)] (ax S (.aT (B) e (List.append l y)) [(b, .dead),(B, .tail)])
    | none=> .fail
   | none=> .fail
  | _=> .fail
 | .aH b=>match bx b with
  | some (.arr e' l)=>match dx S (.sl e') (.sl e) l with
   | some l=>match datum S bx (.sl e) x with
    | some y=> .gd [gd ((List.length l+List.length y)*af≤limit)] (ax S (.aH (B)) [(b, .dead),(B, .arr e (List.append l y))])
    | none=> .fail
   | none=> .fail
  | _=> .fail
 | .pre b n=>match bx b,x with
  | some (.arr e' l), .win b' i m=>cond (Nat.beq b' b) (match dx S (.sl e') (.sl e) l with
   | some l=> .gd [gd (n≤i),gd (List.length l*af≤limit)] (ax S (.pre B (n+m)) [(b, .dead),(B, .arr e (jf l n i m))])
   | none=> .fail) .fail
  | _,_=> .fail
 | .b7=>match datum S bx (.sl e) x with
  | some y=> .gd [gd (List.length y*af≤limit)] (ax S (.aH (B)) [(B, .arr e y)])
  | none=> .fail
 | _=> .fail
def yl (T0:Ty) (bx:Bx S.C):V S.C→Rt S
 | .d .str s=>if T0= .str then ax S (.d (.int .i64) (List.length s:Int)) [] else .fail
 | .b7=>match T0 with
  | .sl _=>ax S (.d (.int .i64) (0:Int)) []
  | _=> .fail
 | .d (.sl e) l=>if T0= .sl e then ax S (.d (.int .i64) (List.length l:Int)) [] else .fail
 | .aT _ e l=>if T0= .sl e then ax S (.d (.int .i64) (l.length:Int)) [] else .fail
 | .aH b=>match bx b with
  | some (.arr e l) | some (.bp e l)=>if T0= .sl e then ax S (.d (.int .i64) (l.length:Int)) [] else .fail
  | _=> .fail
 | .pre b n=>match bx b with
  | some (.arr e _)=>if T0= .sl e then ax S (.d (.int .i64) n) [] else .fail
  | _=> .fail
 | _=> .fail
def tM (id:Nat):(rs:List K)→Ks S.C rs→(List (V S.C)×aG S.C×Nat→Rt S)→Rt S
 | [],_,κ=>κ ([],[],id)
 | k::rs,x,κ=>C5 S id k (Ks.head x) fun (v,us,id')=>tM id' rs (Ks.tail x) fun (vs,us',Jp)=>κ (v::vs,us++us',Jp)
def lu:List (V S.C)→V S.C
 | [v]=>v
 | vs=> .fy vs
def gB:(rs os:List K)→Ks S.C (rs++os)→Ks S.C rs×Ks S.C os
 | [],_,x=>((),x)
 | _::rs,os,x=>let (a,b):=gB rs os (Ks.tail x); (Ks.cons (Ks.head x) a,b)
def oneMore (n:Nat):CK→Nat
 | .data _=>n
 | _=>n+1
def jQ:K→Nat
 | .val (.data _) | .ro _ | .fn _ _ | .nil | .err=>0
 | .val _=>1
 | .obj cs | .opt cs | .bW cs=>1+cs.foldl oneMore 0
 | .aV=>2
 | .bD _ cs=>2+cs.foldl oneMore 0
def fG:List K→Nat
 | []=>0
 | k::ks=>jQ k+fG ks
def tF (e:Entry S):Bool:= !((e.rs++outs e.ps).all (nq S))
def kE (B:Nat) (bx:Bx S.C) (f:Nat) (args:List (V S.C)):Rt S:=
 match T.es.findSome? fun e=>if e.f=f then (cZ S T.fs bx e.ps args).bind fun a=>some (⟨e,a⟩:(e:Entry S)×(Ks S.C e.ps×aG S.C)) else none with
 | some ⟨e,a⟩=>cond (Nat.ble (fG e.rs+fG (outs e.ps)) 16&&(cJ S e.ps args).all fun b=> !(Nat.ble B b&&Nat.blt b (B+16))) (.bind _ (e.sp a.1) fun r=>
  let p:=gB S e.rs (outs e.ps) r
  tM S B e.rs p.1 fun q=>ax S (lu S q.1) (gr S (tF S e) a.2++(q.2.1++dN S q.2.2 e.ps args p.2))) .fail
 | none=> .fail
def mN:(ts:List Ty)→ag S.C ts→List (V S.C)
 | [],_=> []
 | t::ts,x=> .d t (ag.head x)::mN ts (ag.tail x)
def gH (bx:Bx S.C):(ts:List Ty)→List (V S.C)→Option (ag S.C ts×aG S.C)
 | [],[]=>some ((),[])
 | t::ts,v::vs=>(datum S bx t v).bind fun x=>(gH bx ts vs).bind fun b=>some (ag.cons x b.1,cB S bx v++b.2)
 | _,_=>none
def o5 (B:Nat) (bx:Bx S.C) (args:List (V S.C)):V S.C→Rt S
 | .fv a r g=>match gH S bx a args with
  | some (x,us)=> .bind _ (g x) fun y=>ax S (lu S (mN S r y)) us
  | none=> .fail
 | .dS f []=>kE S T B bx f args
 | .dS f vs=>match T.fs.find? (·.f == f) with
  | some e=>match caps S bx e.c vs,gH S bx e.a args with
   | some y,some (x,us)=> .bind _ (e.sp x y) fun z=>ax S (lu S (mN S e.r z)) us
   | _,_=> .fail
  | none=> .fail
 | _=> .fail
def iw (bx:Bx S.C):List (V S.C)→aG S.C
 | []=> []
 | .ptr b _::vs=>(match bx b with
  | some (.cells ws)=> [(b, .bw ws)]
  | _=> [])++iw bx vs
 | _::vs=>iw bx vs
def oA (e:Ty):List (V S.C)→Option (List (List (e.den S.C)))
 | []=>some []
 | .aT _ e' l::vs=>(dx S (.sl e') (.sl e) l).bind fun x=>(oA e vs).bind fun r=>some (x::r)
 | _::_=>none
def qm (t:Nat):Bool:=match S.bt with
 | some u=>Nat.beq u.1 t
 | none=>false
def settle (e:Option Ty) (bx:Bx S.C) (b n:Nat):Rt S:=
 match bx b with
 | some (.cells vs)=>match vs with
  | .b7::_=>ax S (.bW b n) []
  | vs=>match e with
   | some (.sl e)=>match oA S e vs with
    | some l=>cond (Nat.beq n vs.length) (ax S (.d (.sl (.sl e)) l) [(b, .bw vs)]) .fail
    | none=> .fail
   | _=> .fail
 | _=> .fail
def tK (l c:Operand):Option Nat:=match l,c with
 | .const (.int .i64 (.ofNat n)), .const (.int .i64 (.ofNat m))=>cond (Nat.beq n m&&Nat.ble n 8) (some n) none
 | _,_=>none
def x_:Ty→Bool
 | .sl _=>true
 | _=>false
def bytesOf (l:List Int):List UInt8:=l.map fun n=>UInt8.ofNat n.toNat
def cj (af:Nat→Nat) (B:Nat) (o:Op) (ty:Nat) (tm:Nat→V S.C) (bx:Bx S.C):Rt S:=
 let ev:=aK S tm
 match o with
 | .move x=>match ev x with
  | some .b7=>cond T.nl (ax S .b7 []) (match dG S ty with
   | some e=>ax S (.aT (B) e []) [(B, .tail)]
   | none=> .fail)
  | some v=>ax S v []
  | none=> .fail
 | .assign x=>match ev x with
  | some .b7=>cond T.nl (ax S .b7 []) (match dG S ty with
   | some e=>ax S (.aT (B) e []) [(B, .tail)]
   | none=> .fail)
  | some (.bW b n)=>settle S (dG S ty) bx b n
  | some v=>ax S v []
  | none=> .fail
 | .pick c a b=>match ev c with
  | some (.d .bool x)=>match (x:Bool) with
   | true=>match ev a with
    | some v=>ax S v []
    | none=> .fail
   | false=>match ev b with
    | some v=>ax S v []
    | none=> .fail
  | _=> .fail
 | .alloc t=>match S.ty t with
  | some u=>ax S (.ptr (B) 0) [(B, .cells (zeroCells S u))]
  | none=>cond (qm S t) (ax S (.ptr B 0) [(B+1, .buf []),(B, .aV (B+1))]) .fail
 | .box t x=>match S.ty t,ev x with
  | some u,some v=>cond (fits S (cellsOf S v) (Ty.sz S u)) (match S.sp t with
   | false=>ax S (.ptr (B) 0) [(B, .cells (cellsOf S v))]
   | true=>match cellsOf S v with
    | .ptr c 0::vs=>ax S (.split B c) [(B, .cells vs)]
    | _=> .fail) .fail
  | _,_=> .fail
 | .build t parts=>match S.ty t with
  | some (.st u)=>match parts.toList.mapM (fun p=>(ev p.2).map fun v=>(p.1,v)) with
   | some ps=>match pK S u (zeroCells S (.st u)) ps with
    | some vs=>ax S (.agg u vs) []
    | none=> .fail
   | none=> .fail
  | _=> .fail
 | .buildSlice t len parts=>match dG S t with
  | some e=>cond (T.vw&&Nat.beq len 0) (match parts.toList with
   | []=>ax S (.aT B e []) [(B, .tail)]
   | _=> .fail) (match parts.toList.mapM (fun p=>(ev p.2).map fun v=>(p.1,v)) with
   | some ps=>cond (Nat.ble (len*Ty.sz S e) 16777216) (match iY S bx e (List.replicate len (Ty.zero S e)) ps with
    | some (l,us)=>ax S (.aH (B)) (us++ [(B, .arr e l)])
    | none=> .fail) .fail
   | none=> .fail)
  | none=> .fail
 | .load t x=>match S.ty t,ev x with
  | some T,some v=>yu S T bx v
  | _,_=> .fail
 | .store t x y=>match kC S t with
  | some (_,_,u)=>match ev x,ev y with
   | some p,some v=>zK S u bx v p
   | _,_=> .fail
  | none=>match S.ty t,ev x,ev y with
   | some u,some p,some v=>rF S u bx v p
   | _,_,_=> .fail
 | .nilCheck x=>match ev x with
  | some (.ptr b o)=>ax S (.ptr b o) []
  | some (.cH t x)=>ax S (.cH t x) []
  | some (.dL b i p)=>ax S (.dL b i p) []
  | some (.split b c)=>ax S (.split b c) []
  | _=> .fail
 | .binOp op t x (.const .nilIface) _=>match ev x with
  | some (.err b)=>cond (S.kK t) (match op with
   | .eql=>ax S (.d .bool b) []
   | .neq=>ax S (.d .bool (Bool.not b)) []
   | _=> .fail) .fail
  | _=> .fail
 | .binOp op t x y _=>cond (S.eq t) (match ev x,ev y with
  | some a,some b=>structEq S op t a b
  | _,_=> .fail) (match ev x,ev y with
  | some a,some b=>match sA S op t a b with
   | some (gs,v)=> .gd gs (ax S v [])
   | none=> .fail
  | _,_=> .fail)
 | .unOp op _ x=>match op,ev x with
  | .not,some (.pr p i)=>ax S (.pr (¬ p) (@instDecidableNot p i)) []
  | .not,some (.d .bool b)=>ax S (.d .bool (Bool.not b)) []
  | .neg,some v=>match v.int? with
   | some (k,n)=>ax S (.d (.int k) (k.wrap (0 - n))) []
   | none=> .fail
  | _,_=> .fail
 | .convert s t x=>match S.ty s,S.ty t,ev x with
  | some _,some (.int k),some v=>match v.int? with
   | some (_,n)=>ax S (.d (.int k) (k.wrap n)) []
   | none=> .fail
  | some T,some .str,some v=>match v.k9 with
   | some s=>ax S (.d .str s) []
   | none=>match T,v with
    | .sl (.int .u8), .aH b=>match bx b with
     | some (.arr (.int .u8) (n::l))=>ax S (.d .str (bytesOf (n::l))) []
     | _=> .fail
    | _,_=> .fail
  | _,_,_=> .fail
 | .makeFunc fn first cs=>match fn,first.toList with
  | .func f,[]=>match cs.toList.mapM ev with
   | some vs=>cond (vs.all (br S)) (ax S (.dS f vs) (iw S bx vs)) .fail
   | none=> .fail
  | _,_=> .fail
 | .makeSlice t l c=>match dG S t,ev l,ev c with
  | some e,some v,some w=>match cond (T.vw&&x_ e&&Nat.ble (af t) 64) (tK l c) none with
   | some n=>ax S (.bW B n) [(B, .cells (List.replicate n .b7))]
   | none=>match v.int?,w.int? with
    | some (.i64,n),some (.i64,m)=> .gd [gd (0≤n),gd (n≤m),gd (m*af t≤limit)] (ax S (.aH (B)) [(B, .arr e (List.replicate n.toNat (Ty.zero S e)))])
    | _,_=> .fail
  | _,_,_=> .fail
 | .slice t x lo hi none=>match S.ty t,ev x,f_ S tm lo,f_ S tm hi with
  | some T0,some v,some l,some h=>zG S T.vw T0 bx l h v
  | _,_,_,_=> .fail
 | .slice t x (some lo) (some hi) (some mx)=>match S.ty t,ev x,ev lo,ev hi,ev mx with
  | some T0,some v,some l,some h,some m=>zF S T0 bx l h m v
  | _,_,_,_,_=> .fail
 | .fieldAddr t x f=>match ev x with
  | some v=>wV S t f v
  | none=> .fail
 | .field t x f=>match gX S t,ev x with
  | some u,some (.d (.st u') y)=>cond (Nat.beq u u') (match S.dB u' f with
   | some (o,w)=>match partOf S (.st u') y o w with
    | some z=>ax S (.d w z) []
    | none=> .fail
   | none=> .fail) .fail
  | some u,some (.agg u' vs)=>cond (Nat.beq u u'&&vs.length == (S.F u).length) (match S.dB u f with
   | some (o, .st w)=>ax S (.agg w ((vs.drop o).take (S.F w).length)) []
   | some (o,_)=>match vs[o]? with
    | some v=>ax S v []
    | none=> .fail
   | none=> .fail) .fail
  | _,_=> .fail
 | .indexAddr t x i=>match kC S t with
  | some (n,e,u)=>match ev x,ev i with
   | some v,some w=>match w.int? with
    | some (_,j)=>vS S n e u bx j v
    | none=> .fail
   | _,_=> .fail
  | none=>match dG S t,ev x,ev i with
   | some e,some v,some w=>match w.int? with
    | some (_,n)=>x9 S e bx n v
    | none=> .fail
   | _,_,_=> .fail
 | .index t x i=>match kC S t with
  | some (n,e,u)=>match ev x,ev i with
   | some v,some w=>match w.int? with
    | some (_,j)=>vT S n e u j v
    | none=> .fail
   | _,_=> .fail
  | none=>match sy S t with
   | some (n,m,u)=>match ev x,ev i with
    | some v,some w=>match oW S u v,w.int? with
     | some vs,some (_,j)=>cond (Nat.beq vs.length (n*(S.F m).length)) (sx S m (S.F m).length j vs 0 n) .fail
     | _,_=> .fail
    | _,_=> .fail
   | none=>match ev x,ev i with
    | some v,some w=>match S.ty t,v.k9,w.int? with
     | some .str,some s,some (_,n)=> .gd (dj n s.length) (ax S (.d (.int .u8) (((s.getD n.toNat 0).toNat:Nat):Int)) [])
     | _,_,_=> .fail
    | _,_=> .fail
 | .extract x i=>match ev x with
  | some (.fy vs)=>match vs[i]? with
   | some v=>ax S v []
   | none=> .fail
  | _=> .fail
 | .call c=>match c.args.toList.mapM ev with
  | none=> .fail
  | some args=>match c.callee with
   | .builtin .len=>match args,(c.argTypes[0]?).bind S.ty with
    | [v],some T=>yl S T bx v
    | _,_=> .fail
   | .builtin .append=>match args,c.argTypes.toList with
    | [s,x],[t,u]=>match dG S t,dG S u with
     | some e,some e'=>if e=e' then mU S B (af t) e bx x s else .fail
     | _,_=> .fail
    | _,_=> .fail
   | .builtin .clear=>match args,c.argTypes.toList with
    | [v],[t]=>match dG S t with
     | some e=>wH S e bx v
     | none=> .fail
    | _,_=> .fail
   | .builtin b=>match args with
    | [v,w]=>match v.int?,w.int? with
     | some (k,x),some (k',y)=>if k=k' then match b with
      | .min=>ax S (.d (.int k) (Min.min (α:=Int) x y)) []
      | .max=>ax S (.d (.int k) (Max.max (α:=Int) x y)) []
      | _=> .fail else .fail
     | _,_=> .fail
    | _=> .fail
   | .value f=>match ev f with
    | some v=>o5 S T B bx args v
    | none=> .fail
   | _=> .fail
 | _=> .fail
def jU (B:Nat):List Nat:=(List.range 16).map (B+ ·)
def nO (tm:Nat→V S.C) (x:Operand):List Nat:=match aK S tm x with
 | some v=>av S v
 | none=> []
def deep (bx:Bx S.C) (ids:List Nat):List Nat:=ids++ids.flatMap fun i=>match bx i with
 | some (.cells vs) | some (.bw vs)=>vs.flatMap (aj S)
 | some (.aV j)=> [j]
 | _=> []
def aB (vw:Bool) (B:Nat) (o:Op) (tm:Nat→V S.C) (bx:Bx S.C):List Nat×List Nat:=
 let ids:=o.operands.toList.flatMap (nO S tm)
 match o with
 | .load .. | .convert .. =>(ids,[])
 | .indexAddr t _ _=>(ids,match S.ar t with | some _=>ids | none=> [])
 | .call { callee:= .builtin .len, .. } =>(ids,[])
 | .slice .. =>(ids,cond vw [] (ids++jU B))
 | .call { callee:= .value _, .. } =>let ids:=deep S bx ids; (ids++jU B,ids++jU B)
 | .move x=>match aK S tm x with
  | some .b7=>(jU B,jU B)
  | _=>([],[])
 | .assign x=>match aK S tm x with
  | some .b7=>(jU B,jU B)
  | some (.bW b _)=>([b],[b])
  | _=>([],[])
 | .pick .. | .field .. | .fieldAddr .. | .extract .. | .unOp .. | .index .. | .binOp .. | .nilCheck _=>([],[])
 | _=>(ids++jU B,ids++jU B)
end
end Go.Sy
namespace Go.Sy
inductive AC where
 | skip
 | n8 (id:Nat) (ops:Array Oper) (draw:Bool)
 | seq (a b:AC)
 | cut (n:Nat) (a b:AC)
 | cond (c:Operand) (a b:AC)
 | block (id:Nat) (a:AC)
 | loop (n:Nat) (a:AC)
 | exit (id:Nat)
 | ret
 | scope (a:AC)
 | bad (c:Code)
 deriving Inhabited
def AC.code:AC→Code
 | .skip=> .skip
 | .n8 id ops draw=> .region id ops draw
 | .seq a b | .cut _ a b=> .seq a.code b.code
 | .cond c a b=> .cond c a.code b.code
 | .block id a=> .block id a.code
 | .loop _ a=> .loop a.code
 | .exit id=> .exit id
 | .ret=> .ret
 | .scope a=> .scope a.code
 | .bad c=>c
def AC.of (cO:List Nat):Code→(ls ss:Nat)→AC×Nat×Nat
 | .skip,l,s=>(.skip,l,s)
 | .region id ops draw,l,s=>(.n8 id ops draw,l,s)
 | .seq a b,l,s=>
  let (x,l1,s1):=AC.of cO a l (s+1)
  let (y,l2,s2):=AC.of cO b l1 s1
  (match cO.idxOf? s with | some n=> .cut (2*n+1) x y | none=> .seq x y,l2,s2)
 | .cond c a b,l,s=>
  let (x,l1,s1):=AC.of cO a l s
  let (y,l2,s2):=AC.of cO b l1 s1
  (.cond c x y,l2,s2)
 | .block id a,l,s=>let (x,l1,s1):=AC.of cO a l s; (.block id x,l1,s1)
 | .loop a,l,s=>let (x,l1,s1):=AC.of cO a (l+1) s; (.loop (2*l) x,l1,s1)
 | .exit id,l,s=>(.exit id,l,s)
 | .ret,l,s=>(.ret,l,s)
 | .scope a,l,s=>let (x,l1,s1):=AC.of cO a l s; (.scope x,l1,s1)
 | c,l,s=>(.bad c,l,s)
theorem AC.GN (cO:List Nat) (c:Code): ∀ l s,(AC.of cO c l s).1.code=c:=by
 induction c with
 | seq a b x5 x6=>
  intro l s
  simp only [AC.of]
  split <;> simp [AC.code,x5,x6]
 | cond c a b x5 x6=>intro l s; simp [AC.of,AC.code,x5,x6]
 | block id a ih=>intro l s; simp [AC.of,AC.code,ih]
 | loop a ih=>intro l s; simp [AC.of,AC.code,ih]
 | scope a ih=>intro l s; simp [AC.of,AC.code,ih]
 | _=>intro l s; simp [AC.of,AC.code]
section
variable (S:aN)
variable (T:eM S) (af:Nat→Nat)
def qo (a b:List Nat):Bool:=a.any fun x=>b.contains x
def meets (x y:List Nat×List Nat):Bool:=qo x.2 y.1||qo x.2 y.2||qo y.2 x.1
def jF (ops:Array Oper) (c_:Array Nat):List (Nat×Option (List Nat×List Nat))→Bool
 | []=>true
 | (j,fj)::r=>jF ops c_ r&&r.all fun (i,fi)=>
  (c_.getD j 0).testBit i||(Oper.apart ops (ops.getD i default) (ops.getD j default)&&
   match fi,fj with
   | some a,some b=> !meets a b
   | _,_=>true)
def rN (ops:Array Oper):Bool:=ops.toList.zipIdx.all fun p=>p.1.after.toList.all fun e=> !Region.binds .any e||Nat.blt e.on p.2
def restrict (bx:Bx S.C) (ids:List Nat):Bx S.C:=fun i=>cond (ids.contains i) (bx i) none
def jb (bx:Bx S.C) (B:Nat) (fp:List Nat) (us:aG S.C):Bool:=
 us.all fun u=>fp.contains u.1&&(!(Nat.ble B u.1&&Nat.blt u.1 (B+16))||(bx u.1).isNone)
def zJ {R:Type} (B:Nat) (dst:Option Nat) (o:Op) (ty:Nat) (env:Env S.C) (k:Env S.C→Option R):Option R:=
 let fp:=aB S T.vw B o env.tm env.bx
 (cj S T af B o ty env.tm (restrict S env.bx fp.1)).run fun p=>
  cond (jb S env.bx B fp.2 p.2) (k (env.apply dst p.1 p.2)) none
def ia (cm n:Nat):Option Nat→Nat
 | _=>16*(100000+1000*cm+n)
def qn (ops:Array Oper) (n:Nat):Bool:=ops.any fun o=>match o.guard with
 | some (j,_)=>Nat.beq j n
 | none=>false
def splitK {R:Type} (g:Bool) (dst:Option Nat) (env:Env S.C) (k:Env S.C→Option R):Option R:=
 match g with
 | false=>k env
 | true=>match dst with
  | none=>none
  | some t=>match env.tm t with
   | .d .bool x=>match (x:Bool) with
    | true=>k { env with tm:=ah env.tm t (.d .bool true) }
    | false=>k { env with tm:=ah env.tm t (.d .bool false) }
   | .pr _ i=> @ite _ _ i (k { env with tm:=ah env.tm t (.d .bool true) }) (k { env with tm:=ah env.tm t (.d .bool false) })
   | _=>none
def jx (ops:Array Oper) (o:Oper) (tm:Nat→V S.C):Option Bool:=
 match o.guard with
 | none=>some true
 | some (j,want)=>match (ops[j]?).bind (·.dst) with
  | none=>none
  | some t=>match tm t with
   | .d .bool x=>some (match (x:Bool) with | true=>want | false=> !want)
   | .skip=>some false
   | _=>none
noncomputable def agree {R:Type} (a b:Option R):Option R:=open Classical in if a=b then a else none
def qB (o:Op) (tm:Nat→V S.C):Option (Nat×Bool):=match o with
 | .binOp op t x (.const (.slice none 0 0)) _=>match dG S t with
  | some _=>match aK S tm x with
   | some (.d (.sl _) l)=>match op with
    | .eql=>some (List.length l,false)
    | .neq=>some (List.length l,true)
    | _=>none
   | _=>none
  | none=>none
 | _=>none
def tu:Op→Bool
 | .defer _=>true
 | _=>false
def zz (tm:Nat→V S.C) (x y:Operand):Bool:=match x,y with
 | .const (.int k x), .const (.int k' y)=>decide (k=k')&&decide (x=y)
 | .tmp a, .tmp b=>match tm a,tm b with
  | .ptr b o, .ptr b' o'=>Nat.beq b b'&&Nat.beq o o'
  | _,_=>false
 | _,_=>false
def u9 (tm:Nat→V S.C):List Operand→List Operand→Bool
 | [],[]=>true
 | a::as,b::bs=>zz S tm a b&&u9 tm as bs
 | _,_=>false
def sK (tm:Nat→V S.C) (dc:Option (Nat×List Operand)):Op→Bool
 | .defer ⟨.value (.func f),args,_⟩=>match dc with
  | some (g,ops)=>Nat.beq f g&&u9 S tm args.toList ops
  | none=>false
 | _=>false
noncomputable def gf {R:Type} (cm:Nat) (ops:Array Oper) (draw:Bool) (c_:Array Nat) (k:Env S.C→Option R):List Oper→Nat→List (Nat×Option (List Nat×List Nat))→Env S.C→Option R
 | [],_,cx,env=>cond (!draw||(jF ops c_ cx&&rN ops)) (k env) none
 | o::r,n,cx,env=>match jx S ops o env.tm with
  | none=>none
  | some true=>match tu o.op with
   | true=>cond (draw||env.df|| !sK S env.tm T.dc o.op) none (gf cm ops draw c_ k r (n+1) ((n,none)::cx) { env.apply o.dst .skip [] with df:=true })
   | false=>match qB S o.op env.tm with
   | some (m,v)=>cond draw none (@ite _ (m=0) (instDecidableEqNat m 0) (agree (splitK S (qn ops n) o.dst (env.apply o.dst (.d .bool (Bool.not v)) []) fun e=>
    gf cm ops draw c_ k r (n+1) ((n,some ([],[]))::cx) e) (splitK S (qn ops n) o.dst (env.apply o.dst (.d .bool v) []) fun e=>
    gf cm ops draw c_ k r (n+1) ((n,some ([],[]))::cx) e)) (splitK S (qn ops n) o.dst (env.apply o.dst (.d .bool v) []) fun e=>
    gf cm ops draw c_ k r (n+1) ((n,some ([],[]))::cx) e))
   | none=>zJ S T af (ia cm n o.dst) o.dst o.op o.type env fun e=>splitK S (qn ops n) o.dst e fun e=>
    gf cm ops draw c_ k r (n+1) ((n,some (aB S T.vw (ia cm n o.dst) o.op env.tm env.bx))::cx) e
  | some false=>gf cm ops draw c_ k r (n+1) ((n,none)::cx) (env.apply o.dst .skip [])
inductive Ex where
 | normal | exit (id:Nat) | ret
 deriving Inhabited
abbrev Kt (R:Type):=Ex→Env S.C→Option R
noncomputable def exec {R:Type} (L:Nat→Env S.C→Option R):AC→Env S.C→Kt S R→Option R
 | .skip,env,k=>k .normal env
 | .n8 id ops draw,env,k=>gf S T af id ops draw (Region.before ops) (k .normal) ops.toList 0 [] env
 | .seq a b,env,k=>exec L a env fun e env'=>match e with
  | .normal=>exec L b env' k
  | e=>k e env'
 | .cut n a _,env,k=>exec L a env fun e env'=>match e with
  | .normal=>L n env'
  | e=>k e env'
 | .cond c a b,env,k=>match aK S env.tm c with
  | some (.d .bool x)=>match (x:Bool) with
   | true=>exec L a env k
   | false=>exec L b env k
  | some (.pr _ i)=> @ite _ _ i (exec L a env k) (exec L b env k)
  | _=>none
 | .block id a,env,k=>exec L a env fun e env'=>match e with
  | .exit j=>cond (Nat.beq j id) (k .normal env') (k (.exit j) env')
  | e=>k e env'
 | .loop n _,env,_=>L n env
 | .exit id,env,k=>k (.exit id) env
 | .ret,env,k=>k .ret env
 | .scope a,env,k=>exec L a env k
 | .bad _,_,_=>none
def qD (sl:List Nat) (ks:List K) (env:Env S.C):Option (Ks S.C ks):=
 (cZ S T.fs env.bx ks (sl.map env.tm)).bind fun a=>some a.1
def dH (id:Nat):(k:K)→k.den S.C→V S.C×aG S.C
 | .val (.data t),x=>(.d t x,[])
 | .val (.aT e),x=>(.aT id e x,[(id, .tail)])
 | .val (.aH e),x=>(.aH id,[(id, .arr e x)])
 | .obj cs,x=>let a:=bf S (id+1) cs x; (.ptr id 0,(id, .cells a.1)::a.2.1)
 | .ro t,x=>(.cH t x,[])
 | .fn a r,g=>(.fv a r g,[])
 | .nil,_=>(.nil,[])
 | .err,x=>(.err x,[])
 | .aV,x=>(.ptr id 0,[(id, .aV (id+1)),(id+1, .buf x)])
 | .opt _,_=>(.undef,[])
 | .bD t cs,x=>let a0:=bf S (id+1) [.data t] x.1; let a:=bf S (id+2) cs x.2; (.split (id+1) id,(id, .cells a0.1)::(id+1, .cells a.1)::a.2.1)
 | .bW cs,x=>let a:=bf S (id+1) cs x; (.bW id (CK.bT S cs),(id, .cells a.1)::a.2.1)
def dR:(ks:List K)→(sl:List Nat)→Ks S.C ks→Env S.C→Env S.C
 | [],_,_,env=>env
 | _::_,[],_,env=>env
 | k::r,t::sl,x,env=>
  let a:=dH S (16*t) k (Ks.head x)
  dR r sl (Ks.tail x) (env.apply (some t) a.1 a.2)
def Env.none (df:Bool):Env S.C:=⟨fun _=> .undef,fun _=>Option.none,df⟩
structure eL (R:Type) where
 sl:List Nat
 ks:List K
 fn:Ks S.C ks→Option R
 df:Bool
def D1:Bool→Bool→Bool
 | true,b=>b
 | false,true=>false
 | false,false=>true
noncomputable def tB {R:Type} (env:Env S.C):List (eL S R)→Option R
 | []=>none
 | l::ls=>match cond (D1 l.df env.df) (qD S T l.sl l.ks env) none with
  | some x=>l.fn x
  | none=>tB env ls
noncomputable def eR {R:Type} (ls:Nat→List (eL S R)) (n:Nat) (env:Env S.C):Option R:=tB S T env (ls n)
def gW:List Nat→List K→Bool
 | [],[]=>true
 | t::sl,k::ks=>Nat.ble (jQ k) 16&& !sl.contains t&&(match k with | .opt _=>false | _=>true)&&gW sl ks
 | _,_=>false
noncomputable def VC {R:Type} (l0 l1:Nat→List (eL S R)):AC→Kt S R→List Prop
 | .seq a b,k=>VC l0 l1 a (fun e env'=>match e with
  | .normal=>exec S T af (eR S T l0) b env' k
  | e=>k e env')++VC l0 l1 b k
 | .cut n a b,k=>VC l0 l1 a (fun e env'=>match e with
  | .normal=>eR S T l0 n env'
  | e=>k e env')++VC l0 l1 b k++(l1 n).map fun l=> ∀ x,l.fn x=exec S T af (eR S T l0) b (dR S l.ks l.sl x (Env.none S l.df)) k
 | .cond _ a b,k=>VC l0 l1 a k++VC l0 l1 b k
 | .block id a,k=>VC l0 l1 a fun e env'=>match e with
  | .exit j=>cond (Nat.beq j id) (k .normal env') (k (.exit j) env')
  | e=>k e env'
 | .loop n a,k=>VC l0 l1 a (fun e env'=>match e with
  | .normal=>eR S T l0 n env'
  | e=>k e env')++(l1 n).map fun l=> ∀ x,l.fn x=exec S T af (eR S T l0) a (dR S l.ks l.sl x (Env.none S l.df)) (fun e env'=>match e with
   | .normal=>eR S T l0 n env'
   | e=>k e env')
 | .scope a,k=>VC l0 l1 a k
 | _,_=> []
def pN (ps:List K) (x:Ks S.C ps):Env S.C:=dR S ps (List.range' 0 ps.length) x (Env.none S false)
def jn (env:Env S.C):ResultVar→V S.C
 | .tmp t=>env.tm t
 | .cell a t=>match S.ty t,env.tm a with
  | some (.st u), .ptr b 0=>match env.bx b with
   | some (.cells vs)=>cond (vs.length == (S.F u).length) (.agg u vs) .undef
   | _=> .undef
  | some _, .ptr b 0=>match env.bx b with
   | some (.cells [v])=>v
   | _=> .undef
  | _,_=> .undef
def fq:List K→Nat→List Nat
 | [],_=> []
 | .obj _::r,i=>i::fq r (i+1)
 | .aV::r,i=>i::fq r (i+1)
 | .bD _ _::r,i=>i::fq r (i+1)
 | _::r,i=>fq r (i+1)
def iq:Nat:=1440000
def gS (fn:Func) (ps rs:List K):Kt S (Ks S.C (rs++outs ps)):=fun e env=>match e with
 | .exit _=>none
 | _=>match env.df with
  | false=>(cZ S T.fs env.bx (rs++outs ps) (fn.results.toList.map (jn S env)++(fq ps 0).map env.tm)).map (·.1)
  | true=>match T.dc with
   | some (f,ops)=>match ops.mapM (aK S env.tm) with
    | some vs=>(kE S ⟨T.de,T.fs,T.nl,T.vw,none,[]⟩ iq env.bx f vs).run fun p=>cond (p.2.all fun u=> !(Nat.ble iq u.1&&Nat.blt u.1 (iq+16))||(env.bx u.1).isNone)
     ((cZ S T.fs (ai env.bx p.2) (rs++outs ps) (fn.results.toList.map (jn S (env.apply none .undef p.2))++(fq ps 0).map env.tm)).map (·.1)) none
    | none=>none
   | none=>none
end
end Go.Sy
namespace Go.Sy
abbrev St:=Nat→Nat→Prop
def At (w:World) (s:St) (b o:Nat) (cs:List Value):Prop:=
 ∀ j v,cs[j]? =some v→w.cell? ⟨b,o+j,none⟩=some v∧s b (o+j)
def bC (w:World) (s:St) (w':World) (s':St):Prop:=
 ∀ b o,s b o→s' b o∧w'.cell? ⟨b,o,none⟩=w.cell? ⟨b,o,none⟩
theorem bC.refl (w:World) (s:St):bC w s w s:=fun _ _ h=>⟨h,rfl⟩
theorem bC.trans {w w' w'':World} {s s' s'':St} (h:bC w s w' s') (h':bC w' s' w'' s''):bC w s w'' s'':=
 fun b o hs=>⟨(h' b o (h b o hs).1).1,((h' b o (h b o hs).1).2).trans (h b o hs).2⟩
theorem At.later {w w':World} {s s':St} {b o:Nat} {cs:List Value} (h:At w s b o cs) (hl:bC w s w' s'):At w' s' b o cs:=
 fun j v hj=>⟨(hl _ _ (h j v hj).2).2.trans (h j v hj).1,(hl _ _ (h j v hj).2).1⟩
theorem At.left {w:World} {s:St} {b o:Nat} {cs ds:List Value} (h:At w s b o (cs++ds)):At w s b o cs:=fun j v hj=>
 h j v (by rw [List.getElem?_append_left (List.getElem?_eq_some_iff.1 hj).1]; exact hj)
theorem At.right {w:World} {s:St} {b o:Nat} {cs ds:List Value} (h:At w s b o (cs++ds)):At w s b (o+cs.length) ds:=fun j v hj=>by
 have :=h (cs.length+j) v (by rw [List.getElem?_append_right (by omega)]; simpa using hj)
 rw [← Nat.add_assoc] at this
 exact this
theorem At.append {w:World} {s:St} {b o:Nat} {cs ds:List Value} (h:At w s b o cs) (h':At w s b (o+cs.length) ds):At w s b o (cs++ds):=fun j v hj=>by
 by_cases hlt:j<cs.length
 · exact h j v (by rw [List.getElem?_append_left hlt] at hj; exact hj)
 · have :=h' (j - cs.length) v (by rw [List.getElem?_append_right (by omega)] at hj; exact hj)
   rw [show o+cs.length+(j - cs.length)=o+j from by omega] at this
   exact this
def isAgg:Value→Bool
 | .agg _=>true
 | _=>false
def a_:Ty→Bool
 | .st _=>true
 | _=>false
def fA (M:St):Prop:= ∀ b o, ¬ M b o
def fQ (M A B:St):Prop:=(∀ b o,M b o↔A b o∨B b o)∧ ∀ b o,A b o→B b o→False
section
variable (P:Program) (S:aN)
def bk (R:(t:Ty)→t.den S.C→List Value→Prop):(ts:List Ty)→ag S.C ts→List Value→Prop
 | [],_,cs=>cs= []
 | t::ts,x,cs=> ∃ c r,cs=c::r∧R t (ag.head x) [c]∧bk R ts (ag.tail x) r
def oL (R:(t:Ty)→t.den S.C→List Value→Prop) (w:World) (s:St) (e:Ty) (b o:Nat) (l:List (e.den S.C)):Prop:=
 ∀ (i:Nat) (x:e.den S.C),l[i]? =some x→ ∃ ds,ds.length=Ty.sz S e∧At w s b (o+i*Ty.sz S e) ds∧R e x ds
def ay (w:World) (s:St):Nat→(t:Ty)→t.den S.C→List Value→Prop
 | 0,_,_,_=>False
 | n+1,t,x,cs=>match t,x with
  | .int k,x=>cs= [.int k x]
  | .bool,x=>cs= [.bool x]
  | .str,x=>cs= [.string ⟨List.toArray x⟩]
  | .pt,_=>cs= [.pointer none]
  | .sl e,l=> ∃ a cap,cs= [.slice a (List.length l) cap]∧List.length l≤cap∧
   (List.length l=0∨ ∃ b o,a=some ⟨b,o,none⟩∧oL S (fun t x cs=>ay w s n t x cs) w s e b o l)
  | .st u,x=>bk S (fun t x cs=>ay w s n t x cs) (S.F u) (S.ex u x) cs
def bS (w:World) (s:St) (t:Ty) (x:t.den S.C) (v:Value):Prop:=isAgg v=a_ t∧ ∃ n,ay S w s n t x v.cells.toList
theorem bk.mono {R R':(t:Ty)→t.den S.C→List Value→Prop} (h: ∀ t x cs,R t x cs→R' t x cs):
 ∀ (ts:List Ty) (x:ag S.C ts) (cs:List Value),bk S R ts x cs→bk S R' ts x cs
 | [],_,_,hr=>hr
 | _::ts,_,_,⟨c,r,hc,h1,h2⟩=>⟨c,r,hc,h _ _ _ h1,bk.mono h ts _ _ h2⟩
theorem ay.mono {w w':World} {s s':St} (hl:bC w s w' s'): ∀ {n m:Nat},n≤m→ ∀ {t:Ty} {x:t.den S.C} {cs:List Value},ay S w s n t x cs→ay S w' s' m t x cs
 | 0,_,_,_,_,_,h=>h.elim
 | n+1,0,hm,_,_,_,_=>by omega
 | n+1,m+1,hm,t,x,cs,h=>by
  have ih:=fun {t:Ty} {x:t.den S.C} {cs:List Value} =>ay.mono hl (n:=n) (m:=m) (by omega) (t:=t) (x:=x) (cs:=cs)
  cases t with
  | int k=>exact h
  | bool=>exact h
  | str=>exact h
  | pt=>exact h
  | sl e=>
   obtain ⟨a,cap,hcs,hc,h⟩:=h
   refine ⟨a,cap,hcs,hc,h.imp id ?_⟩
   rintro ⟨b,o,ha,he⟩
   refine ⟨b,o,ha,fun i x hi=> ?_⟩
   obtain ⟨ds,hd,cC,hr⟩:=he i x hi
   exact ⟨ds,hd,cC.later hl,ih hr⟩
  | st u=>exact bk.mono S (fun t x cs h=>ih h) _ _ _ h
theorem bS.mono {w w':World} {s s':St} (hl:bC w s w' s') {t:Ty} {x:t.den S.C} {v:Value} (h:bS S w s t x v):bS S w' s' t x v:=
 ⟨h.1,h.2.imp fun _ hn=>ay.mono S hl (Nat.le_refl _) hn⟩
theorem ay.up {w:World} {s:St} {n m:Nat} (hm:n≤m) {t:Ty} {x:t.den S.C} {cs:List Value} (h:ay S w s n t x cs):ay S w s m t x cs:=
 ay.mono S (bC.refl w s) hm h
theorem bk.length {R:(t:Ty)→t.den S.C→List Value→Prop} : ∀ (ts:List Ty) (x:ag S.C ts) (cs:List Value),bk S R ts x cs→cs.length=ts.length
 | [],_,_,h=>by cases h; rfl
 | _::ts,_,_,⟨c,r,hc,_,h2⟩=>by subst hc; simp [bk.length ts _ _ h2]
theorem ay.length {w:World} {s:St} {n:Nat} {t:Ty} {x:t.den S.C} {cs:List Value} (h:ay S w s n t x cs):cs.length=Ty.sz S t:=by
 cases n with
 | zero=>exact h.elim
 | succ n=>cases t with
  | int k=>cases h; rfl
  | bool=>cases h; rfl
  | str=>cases h; rfl
  | pt=>cases h; rfl
  | sl e=>obtain ⟨a,cap,rfl,_⟩:=h; rfl
  | st u=>exact bk.length S _ _ _ h
theorem bk.flat {w w':World} {s s':St} {n m:Nat} : ∀ (ts:List Ty) (x:ag S.C ts) (cs:List Value),(ts.all fun | .sl _=>false | .st _=>false | _=>true)=true→
 bk S (fun t x cs=>ay S w s n t x cs) ts x cs→bk S (fun t x cs=>ay S w' s' (m+1) t x cs) ts x cs
 | [],_,_,_,h=>h
 | t::ts,x,cs,hf,⟨c,r,hc,h1,h2⟩=>by
  simp only [List.all_cons,Bool.and_eq_true] at hf
  refine ⟨c,r,hc, ?_,bk.flat ts _ _ hf.2 h2⟩
  cases n with
  | zero=>exact h1.elim
  | succ n=>cases t with
   | int k=>exact h1
   | bool=>exact h1
   | str=>exact h1
   | pt=>exact h1
   | sl e=>simp at hf
   | st u=>simp at hf
end
end Go.Sy
namespace Go.Sy
structure aW (w w':World) (T:St):Prop where
 os:w'.os=w.os
 tape:w'.tape=w.tape
 output:w'.output=w.output
 size:w.heap.size≤w'.heap.size
 same: ∀ b,b<w.heap.size→(∀ o, ¬ T b o)→w'.heap[b]? =w.heap[b]?
 cell: ∀ b o,b<w.heap.size→ ¬ T b o→w'.cell? ⟨b,o,none⟩=w.cell? ⟨b,o,none⟩
 some: ∀ b o,b<w.heap.size→(w.cell? ⟨b,o,none⟩).isSome=true→(w'.cell? ⟨b,o,none⟩).isSome=true
 sX: ∀ b o,b<w.heap.size→ ¬ T b o→w'.frozen? ⟨b,o,none⟩=w.frozen? ⟨b,o,none⟩
theorem aW.refl (w:World) (T:St):aW w w T:=⟨rfl,rfl,rfl,Nat.le_refl _,fun _ _ _=>rfl,fun _ _ _ _=>rfl,fun _ _ _ h=>h,fun _ _ _ _=>rfl⟩
theorem aW.mono {w w':World} {T T':St} (h:aW w w' T) (ht: ∀ b o,T b o→T' b o):aW w w' T':=
 ⟨h.os,h.tape,h.output,h.size,fun b hb hn=>h.same b hb fun o ho=>hn o (ht b o ho),fun b o hb hn=>h.cell b o hb fun ho=>hn (ht b o ho),h.some,fun b o hb hn=>h.sX b o hb fun ho=>hn (ht b o ho)⟩
theorem aW.trans {w w' w'':World} {T T' vK:St} (h:aW w w' T) (h':aW w' w'' T') (h1: ∀ b o,T b o→vK b o) (h2: ∀ b o,b<w.heap.size→T' b o→vK b o):aW w w'' vK:=
 ⟨h'.os.trans h.os,h'.tape.trans h.tape,h'.output.trans h.output,Nat.le_trans h.size h'.size,
  fun b hb hn=>(h'.same b (Nat.lt_of_lt_of_le hb h.size) fun o ho=>hn o (h2 b o hb ho)).trans (h.same b hb fun o ho=>hn o (h1 b o ho)),
  fun b o hb hn=>(h'.cell b o (Nat.lt_of_lt_of_le hb h.size) fun ho=>hn (h2 b o hb ho)).trans (h.cell b o hb fun ho=>hn (h1 b o ho)),
  fun b o hb hs=>h'.some b o (Nat.lt_of_lt_of_le hb h.size) (h.some b o hb hs),
  fun b o hb hn=>(h'.sX b o (Nat.lt_of_lt_of_le hb h.size) fun ho=>hn (h2 b o hb ho)).trans (h.sX b o hb fun ho=>hn (h1 b o ho))⟩
theorem cell_of_heap {w w':World} {b o:Nat} (h:w'.heap[b]? =w.heap[b]?):w'.cell? ⟨b,o,none⟩=w.cell? ⟨b,o,none⟩:=by
 simp [World.cell?,h]
theorem w6 {w w':World} {b o:Nat} (h:w'.heap[b]? =w.heap[b]?):w'.frozen? ⟨b,o,none⟩=w.frozen? ⟨b,o,none⟩:=by
 simp [World.frozen?,h]
theorem aW.drew (w:World) (T:St):aW w w.drew T:=⟨rfl,rfl,rfl,Nat.le_refl _,fun _ _ _=>rfl,fun _ _ _ _=>rfl,fun _ _ _ h=>h,fun _ _ _ _=>rfl⟩
theorem heap_alloc (w:World) (o:Obj) (b:Nat) (h:b<w.heap.size):(w.alloc o).heap[b]? =w.heap[b]? :=RowKit.Below.heap_alloc w o b h
theorem aW.alloc (w:World) (o:Obj) (T:St):aW w (w.alloc o) T:=
 ⟨rfl,rfl,rfl,by simp,fun b hb _=>heap_alloc w o b hb,fun b o' hb _=>cell_of_heap (heap_alloc w o b hb),fun b o' hb h=>by rw [cell_of_heap (heap_alloc w o b hb)]; exact h,fun b o' hb _=>w6 (heap_alloc w o b hb)⟩
theorem os_setCells (b:Nat): ∀ (vs:List Value) (o:Nat) (w:World),(w.setCells b o vs).os=w.os∧(w.setCells b o vs).tape=w.tape∧(w.setCells b o vs).output=w.output∧(w.setCells b o vs).heap.size=w.heap.size
 | [],_,_=>⟨rfl,rfl,rfl,rfl⟩
 | v::r,o,w=>by
  obtain ⟨h1,h2,h3,h4⟩:=os_setCells b r (o+1) (w.setCell ⟨b,o,none⟩ v)
  exact ⟨h1,h2,h3,h4.trans (by simp)⟩
theorem Ch (b:Nat): ∀ (vs:List Value) (o:Nat) (w:World) (k:Nat),k≠b→(w.setCells b o vs).heap[k]? =w.heap[k]?
 | [],_,_,_,_=>rfl
 | v::r,o,w,k,hk=>(Ch b r (o+1) (w.setCell ⟨b,o,none⟩ v) k hk).trans (RowKit.Below.heap_setCell w _ v k hk)
theorem MJ (w:World) (b o:Nat):w.setCells b o []=w:=rfl
theorem aW.setCells (w:World) (b o:Nat) (vs:List Value) (ht:w.there b o vs.length):aW w (w.setCells b o vs) (fun b' o'=>b'=b∧o≤o'∧o'<o+vs.length):=by
 obtain ⟨h1,h2,h3,h4⟩:=os_setCells b vs o w
 refine ⟨h1,h2,h3,by omega,fun k hk hn=> ?_,fun k o' hk hn=> ?_,fun k o' hk hs=> ?_,fun k o' hk _=> ?_⟩
 · by_cases e:k=b
   · subst e
     cases vs with
     | nil=>rfl
     | cons v r=>exact absurd ⟨rfl,Nat.le_refl _,by simp⟩ (hn o)
   · exact Ch b vs o w k e
 · exact World.cell?_setCells_out b vs o w ⟨k,o',none⟩ fun hb _=>by
    have hb:k=b:=hb
    by_cases e:o≤o'∧o'<o+vs.length
    · exact absurd ⟨hb,e⟩ hn
    · show o'<o∨o+vs.length≤o'
      omega
 · by_cases e:k=b∧o≤o'∧o'<o+vs.length
   · obtain ⟨rfl,e1,e2⟩:=e
     have :=World.cell?_setCells_in k vs o w (fun i hi=>(ht i hi).1) (o' - o) (by omega)
     rw [show o+(o' - o)=o' from by omega] at this
     rw [this]; rfl
   · rw [World.cell?_setCells_out b vs o w ⟨k,o',none⟩ fun hb _=>by
      have hb:k=b:=hb
      show o'<o∨o+vs.length≤o'
      omega]
     exact hs
 · exact World.frozen?_setCells ..
structure Loc where
 b:Nat
 o:Nat
 n:Nat
 cap:Nat
 nil:Bool
def Loc.aB (L:Loc):St:=fun b o=>b=L.b∧L.o≤o∧o<L.o+L.n
def Ah (L:Loc) (a:Option Addr) (len cap sz:Nat):Prop:=
 (a=none∧cap=0∧L.n=0)∨ ∃ b o,a=some ⟨b,o,none⟩∧L.n=(cap - len)*sz∧(len<cap→L.b=b∧L.o=o+len*sz)
structure kq (L:Loc) (a:Option Addr) (len cap sz:Nat):Prop where
 addr:a=if L.nil then none else some ⟨L.b,L.o,none⟩
 gG:cap=L.cap
 cells:L.n=L.cap*sz
 isNil:L.nil=true→L.cap=0
 fits:len≤cap
def iP (P:Program) (f:Nat):Prop:= ∃ fn,P.funcs[f]? =some fn∧(fn.name == "runtime.NumGoroutine")=false∧fn.body.isNone=false
def gT:List Value→Value
 | [v]=>v
 | vs=> .tuple vs.toArray
def grown (s:St) (w w':World):St:=fun b o=>s b o∨(w.heap.size≤b∧b<w'.heap.size)
section
variable (P:Program) (S:aN)
def d_ (w:World) (s:St):(ts:List Ty)→ag S.C ts→List Value→Prop
 | [],_,vs=>vs= []
 | t::ts,x,vs=> ∃ v r,vs=v::r∧bS S w s t (ag.head x) v∧d_ w s ts (ag.tail x) r
theorem d_.mono {w w':World} {s s':St} (hl:bC w s w' s'): ∀ (ts:List Ty) (x:ag S.C ts) (vs:List Value),d_ S w s ts x vs→d_ S w' s' ts x vs
 | [],_,_,h=>h
 | _::ts,_,_,⟨v,r,h1,h2,h3⟩=>⟨v,r,h1,h2.mono S hl,d_.mono hl ts _ _ h3⟩
def fO (S:aN) (w:World) (M:St):Prop:=(∀ g ∈ S.gl,g.1.1<w.heap.size∧ ¬ M g.1.1 g.1.2∧ ∃ v,w.cell? ⟨g.1.1,g.1.2,none⟩=some v∧g.2 v)∧
 ∀ g ∈ S.gb,g.1<w.heap.size∧(∀ o, ¬ M g.1 o)∧ ∃ ob,w.heap[g.1]? =some ob∧g.2 ob
theorem fO.at {S:aN} {w0 w:World} {M0 M:St} (hG:fO S w0 M0) (hc:aW w0 w M0) (hM: ∀ b o,M b o→w0.heap.size≤b∨M0 b o):fO S w M:=
 ⟨fun g hg=>by
  obtain ⟨g1,g2,v,g3,g4⟩:=hG.1 g hg
  refine ⟨Nat.lt_of_lt_of_le g1 hc.size,fun hm=> ?_,v,(hc.cell g.1.1 g.1.2 g1 g2).trans g3,g4⟩
  rcases hM _ _ hm with h1 | h1
  · exact absurd g1 (Nat.not_lt.2 h1)
  · exact g2 h1,fun g hg=>by
  obtain ⟨g1,g2,v,g3,g4⟩:=hG.2 g hg
  refine ⟨Nat.lt_of_lt_of_le g1 hc.size,fun o hm=> ?_,v,(hc.same g.1 g1 g2).trans g3,g4⟩
  rcases hM _ _ hm with h1 | h1
  · exact absurd g1 (Nat.not_lt.2 h1)
  · exact g2 o h1⟩
def Ac (w:World):Prop:=fO S w (fun _ _=>False)
def iQ (w:World) (s:St) (a r:List Ty) (g:ag S.C a→Option (ag S.C r)) (v:Value):Prop:=
 ∃ f first cap,v= .func (.func f) first cap∧iP P f∧ ∀ w1 s1,bC w s w1 s1→Ac S w1→ ∀ x args y,d_ S w1 s1 a x args→g x=some y→
  Calls P f (first++args.toArray++cap) w1 fun e w'=> ∃ us,e= .returned (gT us)∧aW w1 w' (fun _ _=>False)∧d_ S w' (grown s1 w1 w') r y us
theorem iQ.mono {w w':World} {s s':St} (hl:bC w s w' s') {a r:List Ty} {g:ag S.C a→Option (ag S.C r)} {v:Value} (h:iQ P S w s a r g v):iQ P S w' s' a r g v:=by
 obtain ⟨f,first,cap,hv,hf,h⟩:=h
 exact ⟨f,first,cap,hv,hf,fun w1 s1 bQ=>h w1 s1 (hl.trans bQ)⟩
def iS (w:World) (s:St) (t:Ty) (x:t.den S.C) (v:Value):Prop:=
 ∃ b o ds,v= .pointer (some ⟨b,o,none⟩)∧At w s b o ds∧ds.length=Ty.sz S t∧ ∃ n,ay S w s n t x ds
theorem iS.mono {w w':World} {s s':St} (hl:bC w s w' s') {t:Ty} {x:t.den S.C} {v:Value} (h:iS S w s t x v):iS S w' s' t x v:=by
 obtain ⟨b,o,ds,hv,cC,hd,n,hr⟩:=h
 exact ⟨b,o,ds,hv,cC.later hl,hd,n,hr.mono S hl (Nat.le_refl _)⟩
def oO:Bool→Value→Prop
 | true,v=>v= .nilIface
 | false,v=> ∃ t p,v= .iface t p
def bn (w:World) (s:St) (μ:Nat→Loc) (bx:Bx S.C):V S.C→Value→Prop
 | .undef,_=>True
 | .skip,v=>v=Go.undef
 | .d t x,v=>bS S w s t x v
 | .pr p i,v=>v= .bool (@decide p i)
 | .aT b e l,v=>bS S w s (.sl e) l v∧(bx b=some .tail→ ∃ a cap,v= .slice a l.length cap∧Ah (μ b) a l.length cap (Ty.sz S e))
 | .aH b,v=>(∃ a n c,v= .slice a n c)∧ ∀ e (l:List (e.den S.C)),(bx b=some (.arr e l)∨bx b=some (.bp e l))→ ∃ a cap,v= .slice a l.length cap∧kq (μ b) a l.length cap (Ty.sz S e)
 | .pre b n,v=>(∃ a n c,v= .slice a n c)∧ ∀ e (l:List (e.den S.C)),bx b=some (.arr e l)→0≤n∧n.toNat≤l.length∧ ∃ a cap,v= .slice a n.toNat cap∧kq (μ b) a n.toNat cap (Ty.sz S e)
 | .win b i n,v=>(∃ a n c,v= .slice a n c)∧ ∀ e (l:List (e.den S.C)),bx b=some (.arr e l)→0≤i∧0≤n∧i.toNat+n.toNat≤l.length∧ ∃ a cap,v= .slice a n.toNat cap∧n.toNat≤cap∧(n.toNat=0∨a=some ⟨(μ b).b,(μ b).o+i.toNat*Ty.sz S e,none⟩)
 | .ptr b off,v=>v= .pointer (some ⟨(μ b).b,(μ b).o+off,none⟩)
 | .split b c,v=> ∃ k q,v= .pointer (some ⟨k,q,none⟩)∧At w s k q [.pointer (some ⟨(μ c).b,(μ c).o,none⟩)]∧(μ b).b=k∧(μ b).o=q+1
 | .iF c,v=> ∃ k q,v= .pointer (some ⟨k,q,none⟩)∧At w s k q [.pointer (some ⟨(μ c).b,(μ c).o,none⟩)]
 | .bW b n,v=>v= .slice (some ⟨(μ b).b,(μ b).o,none⟩) n n
 | .dL b i off,v=>(∃ p,v= .pointer (some p))∧ ∀ e (l:List (e.den S.C)),(bx b=some (.arr e l)∨bx b=some (.bp e l))→0≤i∧i.toNat<l.length∧v= .pointer (some ⟨(μ b).b,(μ b).o+i.toNat*Ty.sz S e+off,none⟩)
 | .cH t x,v=>iS S w s t x v
 | .nil,v=>v= .pointer none
 | .err b,v=>oO b v
 | .b7,v=>v= .slice none 0 0
 | .fv a r g,v=>iQ P S w s a r g v
 | .dS _ _,_=>False
 | .agg _ _,_=>False
 | .fy _,_=>False
def aF (w:World) (s:St) (μ:Nat→Loc) (bx:Bx S.C):List (V S.C)→List Value→Prop
 | [],cs=>cs= []
 | v::vs,cs=> ∃ c r,cs=c::r∧bn P S w s μ bx v c∧aF w s μ bx vs r
def RV (w:World) (s:St) (μ:Nat→Loc) (bx:Bx S.C):V S.C→Value→Prop
 | .agg u vs,v=> ∃ cs:Array Value,v= .agg cs∧vs.length=(S.F u).length∧vs.all (br S)=true∧aF P S w s μ bx vs cs.toList
 | .fy vs,v=> ∃ us,v= .tuple us∧aF P S w s μ bx vs us.toList
 | .dS f vs,v=> ∃ cs:Array Value,v= .func (.func f) #[] cs∧aF P S w s μ bx vs cs.toList
 | v,c=>bn P S w s μ bx v c
def live (bx:Bx S.C) (i:Nat):Prop:=match bx i with
 | some (.cells _) | some (.arr _ _) | some .tail | some (.aV _) | some (.buf _)=>True
 | _=>False
def kD (L:Loc) (n:Nat):Value:= .slice (if L.nil then none else some ⟨L.b,0,none⟩) n L.cap
def rU (w:World) (b:Nat) (v:Value):Prop:=
 ∃ T e p,S.bt=some (T,e)∧w.heap[b]? =some (.cells #[p,v] T (0,0))∧(p= .pointer none∨p= .pointer (some ⟨b,0,none⟩))
def ku (w:World) (L:Loc) (l:List UInt8):Prop:=
 L.o=0∧L.n=L.cap∧(L.nil=true→L.cap=0)∧ ∃ T e,S.bt=some (T,e)∧w.ownsRowF 0 e 1 (kD L l.length) l.length (Lib.byteCells l)
def RB (w:World) (s:St) (μ:Nat→Loc) (bx:Bx S.C) (L:Loc):cR S.C→Prop
 | .cells vs=>vs.all (br S)=true∧L.n=vs.length∧w.there L.b L.o L.n∧ ∃ cs,w.rangeAt L.b L.o cs∧aF P S w s μ bx vs cs
 | .bw vs=>vs.all (br S)=true∧ ∃ cs,At w s L.b L.o cs∧aF P S w s μ bx vs cs
 | .arr e l=>L.n=L.cap*Ty.sz S e∧(L.nil=true→L.cap=0)∧l.length≤L.cap∧w.there L.b L.o L.n∧
  ∀ i x,l[i]? =some x→ ∃ ds,ds.length=Ty.sz S e∧w.rangeAt L.b (L.o+i*Ty.sz S e) ds∧ ∃ n,ay S w s n e x ds
 | .bp e l=>(L.nil=true→L.cap=0)∧l.length≤L.cap∧
  ∀ i x,l[i]? =some x→ ∃ ds,ds.length=Ty.sz S e∧At w s L.b (L.o+i*Ty.sz S e) ds∧ ∃ n,ay S w s n e x ds
 | .tail=>w.there L.b L.o L.n
 | .dead=>True
 | .aV j=>L.o=0∧L.n=2∧bx j≠none∧ ∃ v,rU S w L.b v∧ ∀ l,bx j=some (.buf l)→v=kD (μ j) l.length
 | .buf l=>ku S w L l
end
end Go.Sy
namespace Go.Sy
section
variable (P:Program) (S:aN)
theorem aL {α:Type} (f:Nat→α) (k:Nat) (v:α):ah f k v k=v:=by
 unfold ah
 rw [show Nat.beq k k=true from Nat.beq_refl k]; rfl
theorem aY {α:Type} (f:Nat→α) {k i:Nat} (v:α) (h:i≠k):ah f k v i=f i:=by
 unfold ah
 cases e:Nat.beq i k with
 | true=>exact absurd (Nat.eq_of_beq_eq_true e) h
 | false=>rfl
def cc (m m':Loc):cR S.C→cR S.C→Prop
 | .cells _, .cells _=>m'=m
 | .cells _, .bw _=>m'=m
 | .bw _, .bw _=>m'=m
 | .arr e l, .arr e' l'=>m'=m∧e'=e∧l'.length=l.length
 | .arr e l, .bp e' l'=>m'=m∧e'=e∧l'.length=l.length
 | .bp e l, .bp e' l'=>m'=m∧e'=e∧l'.length=l.length
 | .tail, .tail=>m'=m
 | .aV _, .aV _=>m'=m
 | .cells _, .aV _=>m'=m
 | .aV _, .cells _=>m'=m
 | .buf l, .buf l'=>m'=m∧l'.length=l.length
 | _, .dead=>m'=m
 | _,_=>False
def l5:cR S.C→Prop
 | .cells _ | .aV _=>True
 | _=>False
theorem GP {m m':Loc} {B B':cR S.C} (h:l5 S B) (h':l5 S B') (e:m'=m):cc S m m' B B':=by
 cases B <;> first | exact h.elim | (cases B' <;> first | exact h'.elim | exact e)
theorem cc.refl (m:Loc) (B:cR S.C):cc S m m B B:=by cases B <;> simp [cc]
def aC (w0:World) (M0 s0:St) (bx:Bx S.C) (μ:Nat→Loc) (w:World):St:=
 fun b o=>b<w.heap.size∧(s0 b o∨M0 b o∨w0.heap.size≤b)∧ ∀ i,live S bx i→ ¬ (μ i).aB b o
structure Inv (w0:World) (M0 s0:St) (dq:List Deferred) (env:Env S.C) (a:Act) (w:World) (μ:Nat→Loc):Prop where
 gi: ∀ t,RV P S w (aC S w0 M0 s0 env.bx μ w) μ env.bx (env.tm t) (a.tmps.getD t Go.undef)
 bE: ∀ i B,env.bx i=some B→RB P S w (aC S w0 M0 s0 env.bx μ w) μ env.bx (μ i) B
 cG: ∀ i j,i≠j→live S env.bx i→live S env.bx j→ ∀ b o,(μ i).aB b o→(μ j).aB b o→False
 own: ∀ i,live S env.bx i→ ∀ b o,(μ i).aB b o→w0.heap.size≤b∨M0 b o
 ref: ∀ t i,i ∈ av S (env.tm t)→env.bx i≠none
 gR: ∀ i vs,(env.bx i=some (.cells vs)∨env.bx i=some (.bw vs))→ ∀ v ∈ vs, ∀ j ∈ aj S v,env.bx j≠none
 fc:aW w0 w M0
 ng:a.defers=cond env.df dq []
 lT:fO S w0 M0
theorem bn.step {w w':World} {s s':St} {μ μ':Nat→Loc} {bx aa:Bx S.C} (hl:bC w s w' s')
 (hc: ∀ i B0,bx i=some B0→ ∃ B,aa i=some B∧cc S (μ i) (μ' i) B0 B) {V:V S.C} {v:Value}
 (hr: ∀ i ∈ aj S V,bx i≠none) (h:bn P S w s μ bx V v):bn P S w' s' μ' aa V v:=by
 cases V with
 | undef=>trivial
 | skip=>exact h
 | d t x=>exact bS.mono S hl h
 | pr p i=>exact h
 | aT b e l=>
  refine ⟨bS.mono S hl h.1,fun hb=> ?_⟩
  obtain ⟨B0,bq⟩:=Option.ne_none_iff_exists'.1 (hr b (by simp [aj]))
  obtain ⟨B,hB,bZ⟩:=hc b B0 bq
  rw [hb] at hB
  obtain rfl:=Option.some.inj hB
  cases B0 <;> simp only [cc] at bZ
  rw [bZ]
  exact h.2 bq
 | aH b=>
  refine ⟨h.1,fun e l hb=> ?_⟩
  replace h:=h.2
  obtain ⟨B0,bq⟩:=Option.ne_none_iff_exists'.1 (hr b (by simp [aj]))
  obtain ⟨B,hB,bZ⟩:=hc b B0 bq
  rcases hb with hb | hb <;>
  · rw [hb] at hB
    obtain rfl:=Option.some.inj hB
    cases B0 <;> simp only [cc] at bZ
    all_goals
     obtain ⟨hm,rfl,hlen⟩:=bZ
     rw [hm,hlen]
     first
     | exact h _ _ (.inl bq)
     | exact h _ _ (.inr bq)
 | pre b n=>
  refine ⟨h.1,fun e l hb=> ?_⟩
  replace h:=h.2
  obtain ⟨B0,bq⟩:=Option.ne_none_iff_exists'.1 (hr b (by simp [aj]))
  obtain ⟨B,hB,bZ⟩:=hc b B0 bq
  rw [hb] at hB
  obtain rfl:=Option.some.inj hB
  cases B0 <;> simp only [cc] at bZ
  obtain ⟨hm,rfl,hlen⟩:=bZ
  rw [hm,hlen]
  exact h _ _ bq
 | win b i n=>
  refine ⟨h.1,fun e l hb=> ?_⟩
  replace h:=h.2
  obtain ⟨B0,bq⟩:=Option.ne_none_iff_exists'.1 (hr b (by simp [aj]))
  obtain ⟨B,hB,bZ⟩:=hc b B0 bq
  rw [hb] at hB
  obtain rfl:=Option.some.inj hB
  cases B0 <;> simp only [cc] at bZ
  obtain ⟨hm,rfl,hlen⟩:=bZ
  rw [hm,hlen]
  exact h _ _ bq
 | ptr b off=>
  obtain ⟨B0,bq⟩:=Option.ne_none_iff_exists'.1 (hr b (by simp [aj]))
  obtain ⟨B,hB,bZ⟩:=hc b B0 bq
  have hm:μ' b=μ b:=by
   cases B0 <;> cases B <;> simp only [cc] at bZ <;> first | exact bZ | exact bZ.1
  show v=_
  rw [hm]
  exact h
 | bW b n=>
  obtain ⟨B0,bq⟩:=Option.ne_none_iff_exists'.1 (hr b (by simp [aj]))
  obtain ⟨B,hB,bZ⟩:=hc b B0 bq
  have hm:μ' b=μ b:=by
   cases B0 <;> cases B <;> simp only [cc] at bZ <;> first | exact bZ | exact bZ.1
  show v=_
  rw [hm]
  exact h
 | split b c=>
  have hm: ∀ i ∈ [b,c],μ' i=μ i:=fun i hb=>by
   obtain ⟨B0,bq⟩:=Option.ne_none_iff_exists'.1 (hr i hb)
   obtain ⟨B,hB,bZ⟩:=hc i B0 bq
   cases B0 <;> cases B <;> simp only [cc] at bZ <;> first | exact bZ | exact bZ.1
  obtain ⟨k,q,h1,h2,h3,h4⟩:=h
  rw [← hm c (by simp)] at h2
  rw [← hm b (by simp)] at h3 h4
  exact ⟨k,q,h1,h2.later hl,h3,h4⟩
 | iF c=>
  have hm:μ' c=μ c:=by
   obtain ⟨B0,bq⟩:=Option.ne_none_iff_exists'.1 (hr c (by simp [aj]))
   obtain ⟨B,hB,bZ⟩:=hc c B0 bq
   cases B0 <;> cases B <;> simp only [cc] at bZ <;> first | exact bZ | exact bZ.1
  obtain ⟨k,q,h1,h2⟩:=h
  rw [← hm] at h2
  exact ⟨k,q,h1,h2.later hl⟩
 | dL b i off=>
  refine ⟨h.1,fun e l hb=> ?_⟩
  replace h:=h.2
  obtain ⟨B0,bq⟩:=Option.ne_none_iff_exists'.1 (hr b (by simp [aj]))
  obtain ⟨B,hB,bZ⟩:=hc b B0 bq
  rcases hb with hb | hb <;>
  · rw [hb] at hB
    obtain rfl:=Option.some.inj hB
    cases B0 <;> simp only [cc] at bZ
    all_goals
     obtain ⟨hm,rfl,hlen⟩:=bZ
     rw [hm,hlen]
     first
     | exact h _ _ (.inl bq)
     | exact h _ _ (.inr bq)
 | cH t x=>exact iS.mono S hl h
 | nil=>exact h
 | err b=>exact h
 | b7=>exact h
 | fv a r g=>exact iQ.mono P S hl h
 | dS f vs=>exact h.elim
 | agg u vs=>exact h.elim
 | fy vs=>exact h.elim
theorem aF.step {w w':World} {s s':St} {μ μ':Nat→Loc} {bx aa:Bx S.C} (hl:bC w s w' s')
 (hc: ∀ i B0,bx i=some B0→ ∃ B,aa i=some B∧cc S (μ i) (μ' i) B0 B): ∀ {vs:List (V S.C)} {cs:List Value},
 (∀ v ∈ vs, ∀ i ∈ aj S v,bx i≠none)→aF P S w s μ bx vs cs→aF P S w' s' μ' aa vs cs
 | [],_,_,h=>h
 | v::vs,_,hr,⟨c,r,h1,h2,h3⟩=>⟨c,r,h1,bn.step P S hl hc (hr v (by simp)) h2,aF.step hl hc (fun v hv=>hr v (by simp [hv])) h3⟩
theorem RV.step {w w':World} {s s':St} {μ μ':Nat→Loc} {bx aa:Bx S.C} (hl:bC w s w' s')
 (hc: ∀ i B0,bx i=some B0→ ∃ B,aa i=some B∧cc S (μ i) (μ' i) B0 B) {V:V S.C} {v:Value}
 (hr: ∀ i ∈ av S V,bx i≠none) (h:RV P S w s μ bx V v):RV P S w' s' μ' aa V v:=by
 cases V with
 | agg u vs=>
  obtain ⟨cs,h1,h2,h3,h4⟩:=h
  exact ⟨cs,h1,h2,h3,aF.step P S hl hc (fun v hv i hi=>hr i (by simp only [av,List.mem_flatMap]; exact ⟨v,hv,hi⟩)) h4⟩
 | fy vs=>
  obtain ⟨cs,h1,h4⟩:=h
  exact ⟨cs,h1,aF.step P S hl hc (fun v hv i hi=>hr i (by simp only [av,List.mem_flatMap]; exact ⟨v,hv,hi⟩)) h4⟩
 | dS f vs=>
  obtain ⟨cs,h1,h4⟩:=h
  exact ⟨cs,h1,aF.step P S hl hc (fun v hv i hi=>hr i (by simp only [av,List.mem_flatMap]; exact ⟨v,hv,hi⟩)) h4⟩
 | undef=>exact trivial
 | skip=>exact bn.step P S hl hc (V:= .skip) hr h
 | d t x=>exact bn.step P S hl hc (V:= .d t x) hr h
 | pr p i=>exact bn.step P S hl hc (V:= .pr p i) hr h
 | aT b e l=>exact bn.step P S hl hc (V:= .aT b e l) hr h
 | aH b=>exact bn.step P S hl hc (V:= .aH b) hr h
 | pre b n=>exact bn.step P S hl hc (V:= .pre b n) hr h
 | win b i n=>exact bn.step P S hl hc (V:= .win b i n) hr h
 | ptr b off=>exact bn.step P S hl hc (V:= .ptr b off) hr h
 | bW b n=>exact bn.step P S hl hc (V:= .bW b n) hr h
 | split b c=>exact bn.step P S hl hc (V:= .split b c) hr h
 | iF c=>exact bn.step P S hl hc (V:= .iF c) hr h
 | dL b i off=>exact bn.step P S hl hc (V:= .dL b i off) hr h
 | cH t x=>exact bn.step P S hl hc (V:= .cH t x) hr h
 | nil=>exact bn.step P S hl hc (V:= .nil) hr h
 | err b=>exact bn.step P S hl hc (V:= .err b) hr h
 | b7=>exact bn.step P S hl hc (V:= .b7) hr h
 | fv a r g=>exact bn.step P S hl hc (V:= .fv a r g) hr h
theorem aF.length {w:World} {s:St} {μ:Nat→Loc} {bx:Bx S.C} : ∀ {vs:List (V S.C)} {cs:List Value},aF P S w s μ bx vs cs→cs.length=vs.length
 | [],_,h=>by cases h; rfl
 | _::_,_,⟨c,r,h1,_,h3⟩=>by subst h1; simp [aF.length h3]
theorem aF.append {w:World} {s:St} {μ:Nat→Loc} {bx:Bx S.C} : ∀ {vs ws:List (V S.C)} {cs ds:List Value},aF P S w s μ bx vs cs→aF P S w s μ bx ws ds→aF P S w s μ bx (vs++ws) (cs++ds)
 | [],_,_,_,h,h'=>by cases h; exact h'
 | _::_,_,_,ds,⟨c,r,h1,h2,h3⟩,h'=>⟨c,r++ds,by simp [h1],h2,aF.append h3 h'⟩
theorem aF.take {w:World} {s:St} {μ:Nat→Loc} {bx:Bx S.C} : ∀ (n:Nat) {vs:List (V S.C)} {cs:List Value},aF P S w s μ bx vs cs→aF P S w s μ bx (vs.take n) (cs.take n)
 | 0,_,_,_=>by simp [aF]
 | _+1,[],_,h=>by cases h; simp [aF]
 | n+1,_::_,_,⟨c,r,h1,h2,h3⟩=>⟨c,r.take n,by simp [h1],h2,aF.take n h3⟩
theorem aF.drop {w:World} {s:St} {μ:Nat→Loc} {bx:Bx S.C} : ∀ (n:Nat) {vs:List (V S.C)} {cs:List Value},aF P S w s μ bx vs cs→aF P S w s μ bx (vs.drop n) (cs.drop n)
 | 0,_,_,h=>h
 | _+1,[],_,h=>by cases h; simp [aF]
 | n+1,_::_,_,⟨c,r,h1,h2,h3⟩=>by subst h1; exact aF.drop n h3
theorem aF.get {w:World} {s:St} {μ:Nat→Loc} {bx:Bx S.C} : ∀ {vs:List (V S.C)} {cs:List Value} (n:Nat) {v:V S.C},aF P S w s μ bx vs cs→vs[n]? =some v→ ∃ c,cs[n]? =some c∧bn P S w s μ bx v c
 | [],_,_,_,_,hv=>by simp at hv
 | _::_,_,0,_,⟨c,r,h1,h2,h3⟩,hv=>by subst h1; simp at hv; subst hv; exact ⟨c,by simp,h2⟩
 | _::_,_,n+1,_,⟨c,r,h1,h2,h3⟩,hv=>by
  subst h1
  obtain ⟨c',eP,hr⟩:=aF.get n h3 (by simpa using hv)
  exact ⟨c',by simpa using eP,hr⟩
theorem v_ {w:World} {b o:Nat} {cs:Array Value} {T:TypeId} {fz:Nat×Nat} (h:w.heap[b]? =some (.cells cs T fz)):(w.cell? ⟨b,o,none⟩).isSome=true↔o<cs.size:=by
 rw [Lib.cell_of_heap h]; simp
theorem rU.cells {w:World} {b:Nat} {v:Value} (h:rU S w b v) {o:Nat} :(w.cell? ⟨b,o,none⟩).isSome=true↔o<2:=by
 obtain ⟨T,e,p,_,h,_⟩:=h
 exact v_ h
theorem ku.row {w:World} {L:Loc} {l:List UInt8} (h:ku S w L l):L.n=0∧L.nil=true∧l= []∨ ∃ T e cur fz,S.bt=some (T,e)∧w.heap[L.b]? =some (.cells cur e fz)∧cur.size=L.n∧L.nil=false:=by
 obtain ⟨h1,h2,h3,T,e,h4,h5,h6⟩:=h
 rcases h6 with ⟨h6,h7⟩ | ⟨g,cap,cur,fz,h6, -,h7, -, -, -,h8, -⟩
 · unfold kD at h6
   simp only [Value.slice.injEq] at h6
   obtain ⟨h6,_,h8⟩:=h6
   refine .inl ⟨by omega, ?_,List.length_eq_zero_iff.1 h7⟩
   cases hn:L.nil with
   | true=>rfl
   | false=>rw [hn] at h6; simp at h6
 · unfold kD at h6
   simp only [Value.slice.injEq] at h6
   obtain ⟨h6,_,h9⟩:=h6
   cases hn:L.nil with
   | true=>rw [hn] at h6; simp at h6
   | false=>
    rw [hn] at h6
    simp at h6
    subst h6
    exact .inr ⟨T,e,cur,fz,h4,h7,by omega,rfl⟩
theorem iC {w:World} {s:St} {μ:Nat→Loc} {bx:Bx S.C} {i:Nat} (h: ∀ B,bx i=some B→RB P S w s μ bx (μ i) B) (hi:live S bx i) {b o:Nat} (hf:(μ i).aB b o):
 b<w.heap.size∧(w.cell? ⟨b,o,none⟩).isSome=true:=by
 have key:w.there (μ i).b (μ i).o (μ i).n→b<w.heap.size∧(w.cell? ⟨b,o,none⟩).isSome=true:=fun ht=>by
  obtain ⟨rfl,h1,h2⟩:=hf
  have :=(ht (o - (μ i).o) (by omega)).1
  rw [show (μ i).o+(o - (μ i).o)=o from by omega] at this
  obtain ⟨v,hv⟩:=Option.isSome_iff_exists.1 this
  exact ⟨World.block_lt_of_cell? w _ hv,this⟩
 unfold live at hi
 split at hi
 · rename_i vs hb; exact key (h _ hb).2.2.1
 · rename_i e l hb; exact key (h _ hb).2.2.2.1
 · rename_i hb; exact key (h _ hb)
 · rename_i j hb
   obtain ⟨h1,h2,_,v,h3,_⟩:=h _ hb
   obtain ⟨rfl,h4,h5⟩:=hf
   have :=(h3.cells S (o:=o)).2 (by omega)
   obtain ⟨v,hv⟩:=Option.isSome_iff_exists.1 this
   exact ⟨World.block_lt_of_cell? w _ hv,this⟩
 · rename_i l hb
   obtain ⟨rfl,h4,h5⟩:=hf
   have h1:ku S w (μ i) l:=h _ hb
   rcases h1.row with ⟨h2, -⟩ | ⟨T,e,cur,fz, -,h2,h3, -⟩
   · omega
   · have :=(v_ (o:=o) h2).2 (by have :=h1.1; omega)
     obtain ⟨v,hv⟩:=Option.isSome_iff_exists.1 this
     exact ⟨World.block_lt_of_cell? w _ hv,this⟩
 · exact hi.elim
theorem dr {bx aa:Bx S.C} {i:Nat} (h:aa i=bx i):live S aa i↔live S bx i:=by unfold live; rw [h]
variable {P S}
theorem Inv.later {w0:World} {M0 s0:St} {dq:List Deferred} {env:Env S.C} {a:Act} {w:World} {μ:Nat→Loc} (h:Inv P S w0 M0 s0 dq env a w μ)
 {w':World} {T:St} {aa:Bx S.C} {μ':Nat→Loc} {U:Nat→Prop} (hw:aW w w' T)
 (hT: ∀ b o,T b o→b<w.heap.size→ ∃ i,U i∧live S env.bx i∧(μ i).aB b o)
 (hU: ∀ i, ¬ U i→aa i=env.bx i∧μ' i=μ i)
 (hf: ∀ i,U i→live S aa i→ ∀ b o,(μ' i).aB b o→w.heap.size≤b∨ ∃ j,U j∧live S env.bx j∧(μ j).aB b o):
 bC w (aC S w0 M0 s0 env.bx μ w) w' (aC S w0 M0 s0 aa μ' w'):=by
 intro b o ⟨h1,h2,h3⟩
 refine ⟨⟨Nat.lt_of_lt_of_le h1 hw.size,h2,fun i hi hfo=> ?_⟩, ?_⟩
 · by_cases hu:U i
   · rcases hf i hu hi b o hfo with hlt | ⟨j,_,hj,Iw⟩
     · omega
     · exact h3 j hj Iw
   · rw [dr S (hU i hu).1] at hi
     rw [(hU i hu).2] at hfo
     exact h3 i hi hfo
 · exact hw.cell b o h1 fun ht=>by
    obtain ⟨i,_,hi,hfo⟩:=hT b o ht h1
    exact h3 i hi hfo
theorem Inv.step {w0:World} {M0 s0:St} {dq:List Deferred} {env:Env S.C} {a:Act} {w:World} {μ:Nat→Loc} (h:Inv P S w0 M0 s0 dq env a w μ)
 {w':World} {T:St} {aa:Bx S.C} {μ':Nat→Loc} {U:Nat→Prop} (hw:aW w w' T)
 (hT: ∀ b o,T b o→b<w.heap.size→ ∃ i,U i∧live S env.bx i∧(μ i).aB b o)
 (hU: ∀ i, ¬ U i→aa i=env.bx i∧μ' i=μ i)
 (hf: ∀ i,U i→live S aa i→ ∀ b o,(μ' i).aB b o→w.heap.size≤b∨ ∃ j,U j∧live S env.bx j∧(μ j).aB b o)
 (hc: ∀ i B0,env.bx i=some B0→ ∃ B,aa i=some B∧cc S (μ i) (μ' i) B0 B)
 (hd: ∀ i j,U i→U j→i≠j→live S aa i→live S aa j→ ∀ b o,(μ' i).aB b o→(μ' j).aB b o→False)
 (hb: ∀ i B,U i→aa i=some B→RB P S w' (aC S w0 M0 s0 aa μ' w') μ' aa (μ' i) B)
 (hr: ∀ i vs,U i→(aa i=some (.cells vs)∨aa i=some (.bw vs))→ ∀ v ∈ vs, ∀ j ∈ aj S v,aa j≠none):
 Inv P S w0 M0 s0 dq { env with bx:=aa } a w' μ':=by
 have hl:=h.later hw hT hU hf
 have hne: ∀ i,env.bx i≠none→aa i≠none:=fun i hi=>by
  obtain ⟨B0,bq⟩:=Option.ne_none_iff_exists'.1 hi
  obtain ⟨B,hB,_⟩:=hc i B0 bq
  rw [hB]; simp
 have Cd: ∀ i j, ¬ U i→U j→live S aa i→live S aa j→ ∀ b o,(μ' i).aB b o→(μ' j).aB b o→False:=by
  intro i j hi hj li lj b o fi fj
  rw [dr S (hU i hi).1] at li
  rw [(hU i hi).2] at fi
  rcases hf j hj lj b o fj with hlt | ⟨k,hk,lk,fk⟩
  · exact absurd (iC P S (h.bE i) li fi).1 (by omega)
  · exact h.cG i k (fun e=>hi (e▸hk)) li lk b o fi fk
 refine ⟨fun t=>RV.step P S hl hc (h.ref t) (h.gi t), ?_, ?_, ?_,fun t i hi=>hne i (h.ref t i hi), ?_, ?_,h.ng,h.lT⟩
 · intro i B hB
   by_cases hu:U i
   · exact hb i B hu hB
   · have eO:env.bx i=some B:=(hU i hu).1▸hB
     have hold:=h.bE i B eO
     rw [(hU i hu).2]
     have hcell:live S env.bx i→ ∀ o,(μ i).aB (μ i).b o→w'.cell? ⟨(μ i).b,o,none⟩=w.cell? ⟨(μ i).b,o,none⟩∧w'.frozen? ⟨(μ i).b,o,none⟩=w.frozen? ⟨(μ i).b,o,none⟩:=fun li o fo=>by
      have hlt:=(iC P S (h.bE i) li fo).1
      exact ⟨hw.cell _ _ hlt fun ht=>by
       obtain ⟨j,uj,lj,fj⟩:=hT _ _ ht hlt
       exact h.cG i j (fun e=>hu (e▸uj)) li lj _ _ fo fj,hw.sX _ _ hlt fun ht=>by
       obtain ⟨j,uj,lj,fj⟩:=hT _ _ ht hlt
       exact h.cG i j (fun e=>hu (e▸uj)) li lj _ _ fo fj⟩
     have B6:live S env.bx i→(∀ o,(w.cell? ⟨(μ i).b,o,none⟩).isSome=true→(μ i).aB (μ i).b o)→(μ i).b<w.heap.size→w'.heap[(μ i).b]? =w.heap[(μ i).b]? :=fun li hin hlt=>
      hw.same _ hlt fun o ht=>by
       obtain ⟨j,uj,lj,fj⟩:=hT _ _ ht hlt
       exact h.cG i j (fun e=>hu (e▸uj)) li lj _ _ (hin o (iC P S (h.bE j) lj fj).2) fj
     have qb:live S env.bx i→w.there (μ i).b (μ i).o (μ i).n→w'.there (μ i).b (μ i).o (μ i).n:=fun li ht j hj=>by
      obtain ⟨c1,c2⟩:=hcell li ((μ i).o+j) ⟨rfl,by omega,by omega⟩
      rw [c1,c2]; exact ht j hj
     have CB:live S env.bx i→ ∀ o cs,(μ i).o≤o→o+cs.length≤(μ i).o+(μ i).n→w.rangeAt (μ i).b o cs→w'.rangeAt (μ i).b o cs:=fun li o cs h1 h2 gN j v hj=>by
      have hjl:=(List.getElem?_eq_some_iff.1 hj).1
      rw [(hcell li (o+j) ⟨rfl,by omega,by omega⟩).1]
      exact gN j v hj
     cases B with
     | cells vs=>
      have li:live S env.bx i:=by unfold live; rw [eO]; trivial
      obtain ⟨h1,h2,h3,cs,h4,h5⟩:=hold
      have hlen:=aF.length P S h5
      exact ⟨h1,h2,qb li h3,cs,CB li _ _ (Nat.le_refl _) (by omega) h4,aF.step P S hl hc (h.gR i vs (.inl eO)) h5⟩
     | bw vs=>
      obtain ⟨h1,cs,h4,h5⟩:=hold
      exact ⟨h1,cs,h4.later hl,aF.step P S hl hc (h.gR i vs (.inr eO)) h5⟩
     | arr e l=>
      have li:live S env.bx i:=by unfold live; rw [eO]; trivial
      obtain ⟨h1,h2,h3,h4,h5⟩:=hold
      refine ⟨h1,h2,h3,qb li h4,fun k x hk=> ?_⟩
      obtain ⟨ds,hds,gN,n,gq⟩:=h5 k x hk
      have hkl:=(List.getElem?_eq_some_iff.1 hk).1
      refine ⟨ds,hds,CB li _ _ (by omega) ?_ gN,n,gq.mono S hl (Nat.le_refl _)⟩
      have :(k+1)*Ty.sz S e≤(μ i).cap*Ty.sz S e:=Nat.mul_le_mul_right _ (by omega)
      rw [Nat.add_mul,Nat.one_mul] at this
      omega
     | bp e l=>
      obtain ⟨h2,h3,h5⟩:=hold
      refine ⟨h2,h3,fun k x hk=> ?_⟩
      obtain ⟨ds,hds,gN,n,gq⟩:=h5 k x hk
      exact ⟨ds,hds,gN.later hl,n,gq.mono S hl (Nat.le_refl _)⟩
     | tail=>
      have li:live S env.bx i:=by unfold live; rw [eO]; trivial
      exact qb li hold
     | dead=>trivial
     | aV k=>
      have li:live S env.bx i:=by unfold live; rw [eO]; trivial
      obtain ⟨h1,h2,h3,v,h4,h5⟩:=hold
      have hlt:(μ i).b<w.heap.size:=by
       obtain ⟨v,hv⟩:=Option.isSome_iff_exists.1 ((h4.cells S (o:=0)).2 (by omega))
       exact World.block_lt_of_cell? w _ hv
      have hb:=B6 li (fun o ho=>by have :=(h4.cells S).1 ho; exact ⟨rfl,by omega,by omega⟩) hlt
      refine ⟨h1,h2,hne k h3,v, ?_,fun l hl'=> ?_⟩
      · obtain ⟨T,e,p,q1,q2,q3⟩:=h4
        exact ⟨T,e,p,q1,hb.trans q2,q3⟩
      · obtain ⟨B0,bq⟩:=Option.ne_none_iff_exists'.1 h3
        obtain ⟨B1,gI,bZ⟩:=hc k B0 bq
        have hl':aa k=some (.buf l):=hl'
        rw [hl'] at gI
        cases gI
        cases B0 <;> simp only [cc] at bZ
        obtain ⟨hm,hlen⟩:=bZ
        rw [hm,hlen]
        exact h5 _ bq
     | buf l=>
      have li:live S env.bx i:=by unfold live; rw [eO]; trivial
      have hold:ku S w (μ i) l:=hold
      rcases hold.row with ⟨q1,q2,q3⟩ | ⟨T,e,cur,fz,q1,q2,q3,q4⟩
      · obtain ⟨r1,r2,r3,T,e,r4,r5⟩:=hold
        refine ⟨r1,r2,r3,T,e,r4, ?_⟩
        subst q3
        have hv:kD (μ i) ([]:List UInt8).length= .slice none 0 0:=by unfold kD; rw [q2,r3 q2]; rfl
        rw [hv]
        exact World.ownsRowF_nil ..
      · have hlt:(μ i).b<w.heap.size:=(Array.getElem?_eq_some_iff.1 q2).1
        have hb:=B6 li (fun o ho=>by have :=(v_ q2).1 ho; exact ⟨rfl,by have :=hold.1; omega,by have :=hold.1; omega⟩) hlt
        obtain ⟨r1,r2,r3,T',e',r4,r5,r6⟩:=hold
        refine ⟨r1,r2,r3,T',e',r4,r5, ?_⟩
        rcases r6 with r6 | ⟨g,cap,cur',pP,r6,r7,r8,r9⟩
        · exact .inl r6
        · have hg:g=(μ i).b:=by
           unfold kD at r6
           rw [q4] at r6
           simp at r6
           exact r6.1.symm
          subst hg
          exact .inr ⟨_,cap,cur',pP,r6,r7,hb.trans r8,r9⟩
 · intro i j hij li lj b o fi fj
   by_cases hi:U i
   · by_cases hj:U j
     · exact hd i j hi hj hij li lj b o fi fj
     · exact Cd j i hj hi lj li b o fj fi
   · by_cases hj:U j
     · exact Cd i j hi hj li lj b o fi fj
     · have l1:=(dr S (hU i hi).1).1 li
       have l2:=(dr S (hU j hj).1).1 lj
       rw [(hU i hi).2] at fi
       rw [(hU j hj).2] at fj
       exact h.cG i j hij l1 l2 b o fi fj
 · intro i li b o fi
   by_cases hi:U i
   · rcases hf i hi li b o fi with hlt | ⟨j,_,lj,fj⟩
     · exact .inl (Nat.le_trans h.fc.size hlt)
     · exact h.own j lj b o fj
   · have l1:=(dr S (hU i hi).1).1 li
     rw [(hU i hi).2] at fi
     exact h.own i l1 b o fi
 · intro i vs hvs v hv j hj
   by_cases hu:U i
   · exact hr i vs hu hvs v hv j hj
   · have qh:aa i=some (.cells vs)∨aa i=some (.bw vs):=hvs
     rw [(hU i hu).1] at qh
     exact hne j (h.gR i vs qh v hv j hj)
 · refine h.fc.trans hw (fun _ _ h=>h) fun b o hb ht=> ?_
   obtain ⟨i,_,li,fi⟩:=hT b o ht (Nat.lt_of_lt_of_le hb h.fc.size)
   rcases h.own i li b o fi with hlt | hm
   · omega
   · exact hm
theorem Inv.put {w0:World} {M0 s0:St} {dq:List Deferred} {env:Env S.C} {a:Act} {w:World} {μ:Nat→Loc} (h:Inv P S w0 M0 s0 dq env a w μ) {dst:Option Nat} {V:V S.C} {v:Value}
 (hd: ∀ d,dst=some d→d<a.tmps.size) (hv:RV P S w (aC S w0 M0 s0 env.bx μ w) μ env.bx V v) (hr: ∀ i ∈ av S V,env.bx i≠none):
 Inv P S w0 M0 s0 dq { env with tm:=om env.tm dst V } (a.put dst v) w μ:=by
 cases dst with
 | none=>exact h
 | some d=>
  have hlt:=hd d rfl
  refine ⟨fun t=> ?_,h.bE,h.cG,h.own,fun t i hi=> ?_,h.gR,h.fc,h.ng,h.lT⟩
  · show RV P S w _ μ env.bx (ah env.tm d V t) ((a.tmps.setIfInBounds d v).getD t Go.undef)
    by_cases e:t=d
    · subst e
      have :(a.tmps.setIfInBounds t v).getD t Go.undef=v:=by simp [Array.getD,hlt]
      rw [this,show ah env.tm t V t=V from aL _ _ _]
      exact hv
    · have :(a.tmps.setIfInBounds d v).getD t Go.undef=a.tmps.getD t Go.undef:=by
       simp [Array.getElem?_setIfInBounds_ne (Ne.symm e)]
      rw [this,show ah env.tm d V t=env.tm t from aY _ _ e]
      exact h.gi t
  · have hi':i ∈ av S (ah env.tm d V t):=hi
    by_cases e:t=d
    · subst e
      rw [show ah env.tm t V t=V from aL _ _ _] at hi'
      exact hr i hi'
    · rw [show ah env.tm d V t=env.tm t from aY _ _ e] at hi'
      exact h.ref t i hi'
end
end Go.Sy
namespace Go.Sy
structure ct (S:aN):Prop where
  flat: ∀ u,(S.F u).all (fun t=> !a_ t)=true
  ni: ∀ u y,S.ex u (S.im u y)=y
section
variable (P:Program) (S:aN)
def Fi (w:World) (s M:St) (e:Ty) (l:List (e.den S.C)) (cs:List Value):Prop:=
  ∃ a cap L,cs= [.slice a l.length cap]∧kq L a l.length cap (Ty.sz S e)∧w.there L.b L.o L.n∧(∀ b o,M b o↔L.aB b o)∧
    ∀ (i:Nat) (x:e.den S.C),l[i]? =some x→ ∃ ds,ds.length=Ty.sz S e∧w.rangeAt L.b (L.o+i*Ty.sz S e) ds∧ ∃ n,ay S w s n e x ds
def Fy (w:World) (s M:St) (e:Ty) (l:List (e.den S.C)) (cs:List Value):Prop:=
  ∃ a cap L,cs= [.slice a l.length cap]∧(∃ n,ay S w s n (.sl e) l cs)∧Ah L a l.length cap (Ty.sz S e)∧w.there L.b L.o L.n∧ ∀ b o,M b o↔L.aB b o
def hY (w:World) (s M:St):(c:CK)→c.den S.C→List Value→Prop
  | .data t,x,cs=>fA M∧ ∃ n,ay S w s n t x cs
  | .aT e,l,cs=>Fy S w s M e l cs
  | .aH e,l,cs=>Fi S w s M e l cs
def e9 (w:World) (s:St):(M:St)→(cs:List CK)→bl S.C cs→List Value→Prop
  | M,[],_,vs=>fA M∧vs= []
  | M,c::cs,x,vs=> ∃ M1 M2 vm EX,fQ M M1 M2∧vs=vm++EX∧vm.length=CK.sz S c∧hY S w s M1 c (bl.head x) vm∧e9 w s M2 cs (bl.tail x) EX
def c7 (w:World) (s M:St) (cs:List CK) (x:bl S.C cs) (v:Value):Prop:=
  ∃ b o ds M',v= .pointer (some ⟨b,o,none⟩)∧w.there b o ds.length∧w.rangeAt b o ds∧
    fQ M (fun b' o'=>b'=b∧o≤o'∧o'<o+ds.length) M'∧e9 S w s M' cs x ds
def Fc (w:World) (s M:St) (cs:List CK) (x:bl S.C cs) (v:Value):Prop:=
  ∃ p,v= .slice (some p) (CK.bT S cs) (CK.bT S cs)∧c7 S w s M cs x (.pointer (some p))
def rV (w:World) (M:St) (l:List UInt8) (v:Value):Prop:=
  ∃ b L,v= .pointer (some ⟨b,0,none⟩)∧rU S w b (kD L l.length)∧ku S w L l∧fQ M (Loc.mk b 0 2 0 false).aB L.aB
def Ft (w:World) (s M:St) (t:Ty) (cs:List CK) (x:t.den S.C×bl S.C cs) (v:Value):Prop:=
  ∃ b o p M1 M2,v= .pointer (some ⟨b,o,none⟩)∧At w s b o [.pointer (some p)]∧fQ M M1 M2∧c7 S w s M1 [.data t] x.1 (.pointer (some p))∧c7 S w s M2 cs x.2 (.pointer (some ⟨b,o+1,none⟩))
def iR (w:World) (s M:St):(k:K)→k.den S.C→Value→Prop
  | .val c,x,v=>hY S w s M c x v.cells.toList∧isAgg v=(match c with | .data t=>a_ t | _=>false)
  | .obj cs,x,v=>c7 S w s M cs x v
  | .opt cs,x,v=>match (x:Option (bl S.C cs)) with
    | none=>fA M∧v= .pointer none
    | some y=>c7 S w s M cs y v
  | .nil,_,v=>fA M∧v= .pointer none
  | .ro t,x,v=>fA M∧iS S w s t x v
  | .fn a r,g,v=>fA M∧iQ P S w s a r g v
  | .bW cs,x,v=>Fc S w s M cs x v
  | .err,x,v=>fA M∧oO x v
  | .aV,x,v=>rV S w M x v
  | .bD t cs,x,v=>Ft S w s M t cs x v
def bL (w:World) (s:St):(M:St)→(ks:List K)→Ks S.C ks→List Value→Prop
  | M,[],_,vs=>fA M∧vs= []
  | M,k::ks,x,vs=> ∃ M1 M2 v r,fQ M M1 M2∧vs=v::r∧iR P S w s M1 k (Ks.head x) v∧bL w s M2 ks (Ks.tail x) r
theorem hY.mono {w:World} {s s' M:St} (hl:bC w s w s') {c:CK} {x:c.den S.C} {cs:List Value} (h:hY S w s M c x cs):hY S w s' M c x cs:=by
  cases c with
  | data t=>exact ⟨h.1,h.2.imp fun _ hn=>hn.mono S hl (Nat.le_refl _)⟩
  | aT e=>
    obtain ⟨a,cap,L,h1,⟨n,h2⟩,h3,h4,h5⟩:=h
    exact ⟨a,cap,L,h1,⟨n,h2.mono S hl (Nat.le_refl _)⟩,h3,h4,h5⟩
  | aH e=>
    obtain ⟨a,cap,L,h1,h2,h3,h4,h5⟩:=h
    refine ⟨a,cap,L,h1,h2,h3,h4,fun i y hi=> ?_⟩
    obtain ⟨ds,d1,d2,n,d3⟩:=h5 i y hi
    exact ⟨ds,d1,d2,n,d3.mono S hl (Nat.le_refl _)⟩
theorem e9.mono {w:World} {s s':St} (hl:bC w s w s'): ∀ {M:St} {cs:List CK} {x:bl S.C cs} {vs:List Value},e9 S w s M cs x vs→e9 S w s' M cs x vs
  | _,[],_,_,h=>h
  | _,_::_,_,_,⟨M1,M2,v1,v2,h1,h2,h3,h4,h5⟩=>⟨M1,M2,v1,v2,h1,h2,h3,h4.mono S hl,e9.mono hl h5⟩
theorem c7.mono {w:World} {s s' M:St} (hl:bC w s w s') {cs:List CK} {x:bl S.C cs} {v:Value} (h:c7 S w s M cs x v):c7 S w s' M cs x v:=by
  obtain ⟨b,o,ds,M',h1,h2,h3,h4,h5⟩:=h
  exact ⟨b,o,ds,M',h1,h2,h3,h4,h5.mono S hl⟩
theorem iR.mono {w:World} {s s' M:St} (hl:bC w s w s') {k:K} {x:k.den S.C} {v:Value} (h:iR P S w s M k x v):iR P S w s' M k x v:=by
  cases k with
  | val c=>exact ⟨h.1.mono S hl,h.2⟩
  | obj cs=>exact c7.mono S hl h
  | opt cs=>
    cases x with
    | none=>exact h
    | some y=>exact c7.mono S hl h
  | nil=>exact h
  | ro t=>exact ⟨h.1,h.2.mono S hl⟩
  | fn a r=>exact ⟨h.1,h.2.mono P S hl⟩
  | bW cs=>
    obtain ⟨p,h1,h2⟩:=h
    exact ⟨p,h1,c7.mono S hl h2⟩
  | err=>exact h
  | aV=>exact h
  | bD t cs=>
    obtain ⟨b,o,p,M1,M2,h1,h2,h3,h4,h5⟩:=h
    exact ⟨b,o,p,M1,M2,h1,h2.later hl,h3,c7.mono S hl h4,c7.mono S hl h5⟩
theorem bL.mono {w:World} {s s':St} (hl:bC w s w s'): ∀ {M:St} {ks:List K} {x:Ks S.C ks} {vs:List Value},bL P S w s M ks x vs→bL P S w s' M ks x vs
  | _,[],_,_,h=>h
  | _,_::_,_,_,⟨M1,M2,v,r,h1,h2,h3,h4⟩=>⟨M1,M2,v,r,h1,h2,h3.mono P S hl,bL.mono hl h4⟩
def eI (w:World) (s:St):(ts:List Ty)→ag S.C ts→List Value→Prop
  | [],_,vs=>vs= []
  | t::ts,x,vs=> ∃ v r,vs=v::r∧iS S w s t (ag.head x) v∧eI w s ts (ag.tail x) r
def eK (e:eJ S):Prop:=iP P e.f∧ ∀ (w:World) (s:St) (x:ag S.C e.a) (c:ag S.C e.c) (y:ag S.C e.r) (args caps:List Value),
  Ac S w→d_ S w s e.a x args→eI S w s e.c c caps→e.sp x c=some y→
  Calls P e.f (args++caps).toArray w fun en w'=> ∃ us,en= .returned (gT us)∧aW w w' (fun _ _=>False)∧d_ S w' (grown s w w') e.r y us
def Tk (bx aa:Bx S.C):Prop:= ∀ i,aa i=bx i∨(aa i=some .dead∧live S bx i)∨ ∃ e l,bx i=some (.arr e l)∧aa i=some (.bp e l)
theorem Tk.refl (bx:Bx S.C):Tk S bx bx:=fun _=> .inl rfl
theorem Tk.trans {bx aa fS:Bx S.C} (h:Tk S bx aa) (h':Tk S aa fS):Tk S bx fS:=by
  intro i
  rcases h' i with e | ⟨e,l⟩ | ⟨e,l,h1,h2⟩
  · rw [e]; exact h i
  · rcases h i with e' | ⟨e',l'⟩ | ⟨e',l',h1,h2⟩
    · exact .inr (.inl ⟨e,(dr S e').1 l⟩)
    · exact .inr (.inl ⟨e,l'⟩)
    · exact .inr (.inl ⟨e,by unfold live; rw [h1]; trivial⟩)
  · rcases h i with e' | ⟨e',l'⟩ | ⟨e',l',h3,h4⟩
    · exact .inr (.inr ⟨e,l,e'▸h1,h2⟩)
    · rw [e'] at h1; cases h1
    · rw [h4] at h1; cases h1
def bV (w0:World) (M0 s0:St) (ec bx:Bx S.C) (μ:Nat→Loc) (w:World):St:=
  fun b o=>b<w.heap.size∧(s0 b o∨M0 b o∨w0.heap.size≤b)∧ ∀ i,live S ec i→(∃ e l,bx i=some (.bp e l))∨ ¬ (μ i).aB b o
theorem ju (w0:World) (M0 s0:St) (ec bx:Bx S.C) (μ:Nat→Loc) (w:World):bC w (aC S w0 M0 s0 ec μ w) w (bV S w0 M0 s0 ec bx μ w):=
  fun b o ⟨h1,h2,h3⟩=>⟨⟨h1,h2,fun i hi=> .inr (h3 i hi)⟩,rfl⟩
theorem ox {w0:World} {M0 s0:St} {ec bx aa:Bx S.C} {μ:Nat→Loc} {w:World} (h:Tk S bx aa):bC w (bV S w0 M0 s0 ec bx μ w) w (bV S w0 M0 s0 ec aa μ w):=
  fun b o ⟨h1,h2,h3⟩=>⟨⟨h1,h2,fun i hi=>(h3 i hi).imp (fun ⟨e,l,hb⟩=>by
    rcases h i with e' | ⟨_,l'⟩ | ⟨e',l',h1,_⟩
    · exact ⟨e,l,e'.trans hb⟩
    · unfold live at l'; rw [hb] at l'; exact l'.elim
    · rw [hb] at h1; cases h1) id⟩,rfl⟩
variable {P S}
theorem eI.mono {w w':World} {s s':St} (hl:bC w s w' s'): ∀ (ts:List Ty) (x:ag S.C ts) (vs:List Value),eI S w s ts x vs→eI S w' s' ts x vs
  | [],_,_,h=>h
  | _::ts,_,_,⟨v,r,h1,h2,h3⟩=>⟨v,r,h1,h2.mono S hl,eI.mono hl ts _ _ h3⟩
theorem di {t u:Ty} {x:t.den S.C} {y:u.den S.C} (h:dx S t u x=some y): ∃ e:t=u,e▸x=y:=by
  unfold dx at h
  split at h
  · rename_i e; exact ⟨e,Option.some.inj h⟩
  · cases h
theorem ay.ig {t:Ty} {v:Value} (h:isAgg v=a_ t) (ht:a_ t=false):v.cells.toList= [v]:=by
  rw [ht] at h
  cases v <;> first | rfl | simp [isAgg] at h
theorem Tk.EU {bx:Bx S.C} {b:Nat} {e:Ty} {l:List (e.den S.C)} (h:bx b=some (.arr e l)):Tk S bx (ah bx b (some (.bp e l))):=fun i=>by
  by_cases hi:i=b
  · subst hi; exact .inr (.inr ⟨e,l,h,aL _ _ _⟩)
  · exact .inl (aY _ _ hi)
theorem Tk.oB {bx:Bx S.C} {b:Nat} (h:live S bx b):Tk S bx (ah bx b (some .dead)):=fun i=>by
  by_cases hi:i=b
  · subst hi; exact .inr (.inl ⟨aL _ _ _,h⟩)
  · exact .inl (aY _ _ hi)
theorem Tk.cg (bx:Bx S.C) (v:V S.C):Tk S bx (ai bx (cg S bx v)):=by
  cases v with
  | aH b=>
    unfold Sy.cg
    dsimp only
    split
    · rename_i e l hb; exact Tk.EU hb
    · exact Tk.refl S bx
  | _=>exact Tk.refl S bx
theorem fN (bx:Bx S.C) (us vs:aG S.C):ai bx (us++vs)=ai (ai bx us) vs:=by
  induction us generalizing bx with
  | nil=>rfl
  | cons u us ih=>exact ih _
theorem BP (bx aa:Bx S.C) (h: ∀ i,aa i=bx i∨ ∃ e l,bx i=some (.arr e l)∧aa i=some (.bp e l)) (v:V S.C):
    (∀ i,ai aa (cg S bx v) i=bx i∨ ∃ e l,bx i=some (.arr e l)∧ai aa (cg S bx v) i=some (.bp e l))∧Tk S aa (ai aa (cg S bx v)):=by
  have kg:(∀ i,ai aa [] i=bx i∨ ∃ e l,bx i=some (.arr e l)∧ai aa [] i=some (.bp e l))∧Tk S aa (ai aa []):=⟨h,Tk.refl S aa⟩
  cases v with
  | aH b=>
    unfold Sy.cg
    dsimp only
    split
    · rename_i e l hb
      refine ⟨fun i=> ?_,fun i=> ?_⟩ <;>
      · show _∨_
        by_cases hi:i=b
        · subst hi
          have e1:ai aa [(i, .bp e l)] i=some (.bp e l):=aL _ _ _
          first
          | exact .inr ⟨e,l,hb,e1⟩
          | (rcases h i with h1 | ⟨e',l',h1,h2⟩
             · exact .inr (.inr ⟨e,l,h1.trans hb,e1⟩)
             · rw [hb] at h1
               cases h1
               exact .inl (e1.trans h2.symm))
        · have e1:ai aa [(b, .bp e l)] i=aa i:=aY _ _ hi
          first
          | (rw [e1]; exact h i)
          | exact .inl e1
    · exact kg
  | _=>exact kg
theorem pO (bx:Bx S.C): ∀ (vs:List (V S.C)) (aa:Bx S.C),(∀ i,aa i=bx i∨ ∃ e l,bx i=some (.arr e l)∧aa i=some (.bp e l))→
    (∀ i,ai aa (vs.flatMap (cg S bx)) i=bx i∨ ∃ e l,bx i=some (.arr e l)∧ai aa (vs.flatMap (cg S bx)) i=some (.bp e l))∧Tk S aa (ai aa (vs.flatMap (cg S bx)))
  | [],aa,h=>⟨h,Tk.refl S aa⟩
  | v::vs,aa,h=>by
    simp only [List.flatMap_cons,fN]
    obtain ⟨h1,h2⟩:=BP bx aa h v
    obtain ⟨h3,h4⟩:=pO bx vs _ h1
    exact ⟨h3,h2.trans S h4⟩
end
end Go.Sy
namespace Go.Sy
section
variable {P:Program} {S:aN}
variable {w0:World} {M0 s0:St} {dq:List Deferred} {env:Env S.C} {a:Act} {w:World} {μ:Nat→Loc}
theorem Tk.cS {bx aa:Bx S.C} (h:Tk S bx aa) {i:Nat} (hl:live S aa i):aa i=bx i:=by
 rcases h i with e | ⟨e,_⟩ | ⟨e,l,_,e'⟩
 · exact e
 · unfold live at hl; rw [e] at hl; exact hl.elim
 · unfold live at hl; rw [e'] at hl; exact hl.elim
theorem w5 (h:Inv P S w0 M0 s0 dq env a w μ) {bx:Bx S.C} (hk:Tk S env.bx bx) {b:Nat} {e:Ty} {l:List (e.den S.C)} (hb:bx b=some (.bp e l)) {v:Value}
 (hv:bn P S w (aC S w0 M0 s0 env.bx μ w) μ env.bx (.aH b) v): ∃ n,ay S w (bV S w0 M0 s0 env.bx bx μ w) n (.sl e) l [v]:=by
 have hl:=ju S w0 M0 s0 env.bx bx μ w
 have key:(∃ n, ∀ (i:Nat) (x:e.den S.C),l[i]? =some x→ ∃ ds,ds.length=Ty.sz S e∧At w (bV S w0 M0 s0 env.bx bx μ w) (μ b).b ((μ b).o+i*Ty.sz S e) ds∧ay S w (bV S w0 M0 s0 env.bx bx μ w) n e x ds)→
  (∃ a cap,v= .slice a l.length cap∧kq (μ b) a l.length cap (Ty.sz S e))→ ∃ n,ay S w (bV S w0 M0 s0 env.bx bx μ w) n (.sl e) l [v]:=by
  rintro ⟨n,hel⟩ ⟨a,cap,rfl,ha⟩
  refine ⟨n+1,a,cap,rfl,ha.fits, ?_⟩
  by_cases hn:(μ b).nil=true
  · exact .inl (by have :=ha.isNil hn; have :=ha.gG; have :=ha.fits; show l.length=0; omega)
  · refine .inr ⟨(μ b).b,(μ b).o,by rw [ha.addr]; simp [hn],fun i x hi=> ?_⟩
    exact hel i x hi
 have bound:(∀ (i:Nat) (x:e.den S.C),l[i]? =some x→ ∃ ds,ds.length=Ty.sz S e∧At w (bV S w0 M0 s0 env.bx bx μ w) (μ b).b ((μ b).o+i*Ty.sz S e) ds∧ ∃ n,ay S w (bV S w0 M0 s0 env.bx bx μ w) n e x ds)→
  ∃ n, ∀ (i:Nat) (x:e.den S.C),l[i]? =some x→ ∃ ds,ds.length=Ty.sz S e∧At w (bV S w0 M0 s0 env.bx bx μ w) (μ b).b ((μ b).o+i*Ty.sz S e) ds∧ay S w (bV S w0 M0 s0 env.bx bx μ w) n e x ds:=by
  intro hall
  have : ∀ m,m≤l.length→ ∃ n, ∀ (i:Nat) (x:e.den S.C),i<m→l[i]? =some x→ ∃ ds,ds.length=Ty.sz S e∧At w (bV S w0 M0 s0 env.bx bx μ w) (μ b).b ((μ b).o+i*Ty.sz S e) ds∧ay S w (bV S w0 M0 s0 env.bx bx μ w) n e x ds:=by
   intro m
   induction m with
   | zero=>exact fun _=>⟨0,fun i x hi=>by omega⟩
   | succ m ih=>
    intro hm
    obtain ⟨n,hn⟩:=ih (by omega)
    obtain ⟨ds,h1,h2,n',h3⟩:=hall m l[m] (by simp)
    refine ⟨max n n',fun i x hi hx=> ?_⟩
    by_cases e:i=m
    · subst e
      have :x=l[i]:=by simpa [List.getElem?_eq_getElem (show i<l.length by omega)] using hx.symm
      subst this
      exact ⟨ds,h1,h2,h3.up S (by omega)⟩
    · obtain ⟨ds,h1,h2,h3⟩:=hn i x (by omega) hx
      exact ⟨ds,h1,h2,h3.up S (by omega)⟩
  obtain ⟨n,hn⟩:=this l.length (Nat.le_refl _)
  exact ⟨n,fun i x hx=>hn i x (List.getElem?_eq_some_iff.1 hx).1 hx⟩
 rcases hk b with e1 | ⟨e1,_⟩ | ⟨e',l',e1,e2⟩
 · rw [hb] at e1
   obtain ⟨_,_,h3⟩:=h.bE b _ e1.symm
   refine key (bound fun i x hi=> ?_) (hv.2 e l (.inr e1.symm))
   obtain ⟨ds,d1,d2,n,d3⟩:=h3 i x hi
   exact ⟨ds,d1,d2.later hl,n,d3.mono S hl (Nat.le_refl _)⟩
 · rw [hb] at e1; cases e1
 · rw [hb] at e2
   cases e2
   have bG:live S env.bx b:=by unfold live; rw [e1]; trivial
   obtain ⟨g1,g2,g3,g4,h3⟩:=h.bE b _ e1
   refine key (bound fun i x hi=> ?_) (hv.2 e l (.inl e1))
   obtain ⟨ds,d1,d2,n,d3⟩:=h3 i x hi
   refine ⟨ds,d1,fun j u hj=>⟨d2 j u hj, ?_⟩,n,d3.mono S hl (Nat.le_refl _)⟩
   have hj':=(List.getElem?_eq_some_iff.1 hj).1
   have nG:=(List.getElem?_eq_some_iff.1 hi).1
   have fe:(μ b).aB (μ b).b ((μ b).o+i*Ty.sz S e+j):=by
    refine ⟨rfl,by omega, ?_⟩
    have :(i+1)*Ty.sz S e≤(μ b).cap*Ty.sz S e:=Nat.mul_le_mul_right _ (by omega)
    rw [Nat.add_mul,Nat.one_mul] at this
    omega
   refine ⟨(iC P S (h.bE b) bG fe).1,(h.own b bG _ _ fe).elim (fun h=> .inr (.inr h)) (fun h=> .inr (.inl h)),fun k hk'=> ?_⟩
   by_cases ek:k=b
   · subst ek; exact .inl ⟨e,l,hb⟩
   · exact .inr fun hf=>h.cG k b ek hk' bG _ _ hf fe
theorem vU (h:Inv P S w0 M0 s0 dq env a w μ) {bx aa:Bx S.C} (hk:Tk S env.bx bx) (hk':Tk S bx aa) {t:Ty} (ht:a_ t=false) {V:V S.C} {v:Value} {x:t.den S.C}
 (hf: ∀ b e (l:List (e.den S.C)),V= .aH b→bx b=some (.arr e l)→aa b=some (.bp e l))
 (hv:bn P S w (aC S w0 M0 s0 env.bx μ w) μ env.bx V v) (hx:cu S bx t V=some x): ∃ n,ay S w (bV S w0 M0 s0 env.bx aa μ w) n t x [v]:=by
 have hl:=ju S w0 M0 s0 env.bx aa μ w
 have hd: ∀ (u:Ty) (y:u.den S.C),bS S w (aC S w0 M0 s0 env.bx μ w) u y v→dx S u t y=some x→ ∃ n,ay S w (bV S w0 M0 s0 env.bx aa μ w) n t x [v]:=by
  intro u y hr hc
  obtain ⟨rfl,rfl⟩:=di hc
  obtain ⟨h1,n,hn⟩:=hr
  rw [ay.ig h1 ht] at hn
  exact ⟨n,hn.mono S hl (Nat.le_refl _)⟩
 cases V with
 | d u y=>exact hd u y hv hx
 | pr p i=>
  obtain ⟨rfl,rfl⟩:=di hx
  cases hv
  exact ⟨1,rfl⟩
 | aT b e l=>exact hd (.sl e) l hv.1 hx
 | b7=>
  cases t with
  | sl e=>
   cases hx
   cases hv
   exact ⟨1,none,0,rfl,Nat.le_refl _, .inl rfl⟩
  | _=>cases hx
 | aH b=>
  have ok: ∀ (e:Ty) (l:List (e.den S.C)),aa b=some (.bp e l)→dx S (.sl e) t l=some x→ ∃ n,ay S w (bV S w0 M0 s0 env.bx aa μ w) n t x [v]:=by
   intro e l hb hc
   obtain ⟨rfl,rfl⟩:=di hc
   exact w5 h (hk.trans S hk') hb hv
  simp only [cu] at hx
  split at hx
  · rename_i e l hb; exact ok e l (hf b e l rfl hb) hx
  · rename_i e l hb
    refine ok e l ?_ hx
    rcases hk' b with e1 | ⟨_,e1⟩ | ⟨_,_,e1,_⟩
    · exact e1.trans hb
    · unfold live at e1; rw [hb] at e1; exact e1.elim
    · rw [hb] at e1; cases e1
  · cases hx
 | _=>cases hx
theorem EL (h:Inv P S w0 M0 s0 dq env a w μ) {bx aa:Bx S.C} (hk:Tk S env.bx bx) (hk':Tk S bx aa): ∀ (ts:List Ty) (hts:ts.all (fun t=> !a_ t)=true) {vs:List (V S.C)} {cs:List Value} {x:ag S.C ts},
 (∀ V ∈ vs.take ts.length, ∀ b e (l:List (e.den S.C)),V= .aH b→bx b=some (.arr e l)→aa b=some (.bp e l))→
 aF P S w (aC S w0 M0 s0 env.bx μ w) μ env.bx vs cs→eZ S bx ts vs=some x→
 ∃ n,bk S (fun t x cs=>ay S w (bV S w0 M0 s0 env.bx aa μ w) n t x cs) ts x (cs.take ts.length)
 | [],_,_,cs,_,_,_,_=>⟨0,by simp [bk]⟩
 | t::ts,hts,[],_,_,_,_,hx=>by simp [eZ] at hx
 | t::ts,hts,V::vs,cs,x,hf,⟨c,r,hcs,hv,hr⟩,hx=>by
  simp only [List.all_cons,Bool.and_eq_true,Bool.not_eq_true'] at hts
  simp only [eZ] at hx
  obtain ⟨y,hy,hx⟩:=Option.bind_eq_some_iff.1 hx
  obtain ⟨z,hz,hx⟩:=Option.bind_eq_some_iff.1 hx
  cases hx
  obtain ⟨n,hn⟩:=vU h hk hk' hts.1 (hf V (by simp)) hv hy
  obtain ⟨m,hm⟩:=EL h hk hk' ts hts.2 (fun V hV=>hf V (by simp [hV])) hr hz
  refine ⟨max n m,c,r.take ts.length,by simp [hcs], ?_, ?_⟩
  · rw [show ag.head (ag.cons y z)=y from by cases ts <;> rfl]
    exact hn.up S (by omega)
  · rw [show ag.tail (ag.cons y z)=z from by cases ts <;> rfl]
    exact bk.mono S (fun t x cs hr=>hr.up S (by omega)) _ _ _ hm
theorem x8 (hS:ct S) (h:Inv P S w0 M0 s0 dq env a w μ) {bx aa:Bx S.C} (hk:Tk S env.bx bx) (hk':Tk S bx aa) {t:Ty} {vs:List (V S.C)} {cs:List Value} {x:t.den S.C}
 (hf: ∀ V ∈ vs.take (Ty.sz S t), ∀ b e (l:List (e.den S.C)),V= .aH b→bx b=some (.arr e l)→aa b=some (.bp e l))
 (hv:aF P S w (aC S w0 M0 s0 env.bx μ w) μ env.bx vs cs) (hx:fh S bx t vs=some x):
 ∃ n,ay S w (bV S w0 M0 s0 env.bx aa μ w) n t x (cs.take (Ty.sz S t)):=by
 have one:a_ t=false→Ty.sz S t=1→(∃ V r,vs=V::r∧cu S bx t V=some x)→ ∃ n,ay S w (bV S w0 M0 s0 env.bx aa μ w) n t x (cs.take (Ty.sz S t)):=by
  rintro ht h1 ⟨V,vs',rfl,hx1⟩
  rw [h1]
  rw [h1] at hf
  obtain ⟨c,r,hcs,hv,hr⟩:=hv
  subst hcs
  exact vU h hk hk' ht (hf V (by simp)) hv hx1
 cases t with
 | st u=>
  simp only [fh] at hx
  obtain ⟨y,hy,hx⟩:=Option.bind_eq_some_iff.1 hx
  cases hx
  obtain ⟨n,hn⟩:=EL h hk hk' (S.F u) (hS.flat u) hf hv hy
  refine ⟨n+1, ?_⟩
  show bk S _ (S.F u) (S.ex u (S.im u y)) _
  rw [hS.ni]
  exact hn
 | int k=>exact one rfl rfl (by cases vs with | nil=>cases hx | cons V r=>exact ⟨V,r,rfl,hx⟩)
 | bool=>exact one rfl rfl (by cases vs with | nil=>cases hx | cons V r=>exact ⟨V,r,rfl,hx⟩)
 | str=>exact one rfl rfl (by cases vs with | nil=>cases hx | cons V r=>exact ⟨V,r,rfl,hx⟩)
 | pt=>exact one rfl rfl (by cases vs with | nil=>cases hx | cons V r=>exact ⟨V,r,rfl,hx⟩)
 | sl e=>exact one rfl rfl (by cases vs with | nil=>cases hx | cons V r=>exact ⟨V,r,rfl,hx⟩)
theorem wZ (bx ec:Bx S.C): ∀ (vs:List (V S.C)) (V:V S.C) (b:Nat) (e:Ty) (l:List (e.den S.C)),V ∈ vs→V= .aH b→bx b=some (.arr e l)→
 (∀ i,ec i=bx i∨ ∃ e l,bx i=some (.arr e l)∧ec i=some (.bp e l))→ai ec (vs.flatMap (cg S bx)) b=some (.bp e l)
 | [],_,_,_,_,h,_,_,_=>by simp at h
 | W::vs,V,b,e,l,h,hV,hb,h0=>by
  simp only [List.flatMap_cons,fN]
  obtain ⟨h1,_⟩:=BP bx ec h0 W
  rcases List.mem_cons.1 h with rfl | h
  · subst hV
    have e1:ai ec (cg S bx (.aH b)) b=some (.bp e l):=by
     simp only [Sy.cg,hb]
     exact aL _ _ _
    have :=(pO bx vs _ h1).1 b
    rcases this with e2 | ⟨e',l',e2,e3⟩
    · exfalso
      have :=(pO bx vs _ h1).2 b
      rw [e2,e1,hb] at this
      rcases this with h | ⟨h,_⟩ | ⟨_,_,h,_⟩ <;> cases h
    · rw [hb] at e2; cases e2; exact e3
  · exact wZ bx _ vs V b e l h hV hb h1
theorem sH (hS:ct S) (h:Inv P S w0 M0 s0 dq env a w μ) {bx:Bx S.C} (hk:Tk S env.bx bx) {t:Ty} {V:V S.C} {v:Value} {x:t.den S.C}
 (hv:RV P S w (aC S w0 M0 s0 env.bx μ w) μ env.bx V v) (hx:datum S bx t V=some x):
 Tk S bx (ai bx (cB S bx V))∧bS S w (bV S w0 M0 s0 env.bx (ai bx (cB S bx V)) μ w) t x v:=by
 have hl:=ju S w0 M0 s0 env.bx (ai bx (cB S bx V)) μ w
 have one: ∀ (W:Sy.V S.C),V=W→cB S bx V=cg S bx W→bn P S w (aC S w0 M0 s0 env.bx μ w) μ env.bx W v→a_ t=false→cu S bx t W=some x→
  Tk S bx (ai bx (cB S bx V))∧bS S w (bV S w0 M0 s0 env.bx (ai bx (cB S bx V)) μ w) t x v:=by
  intro W hW hfr hv ht hx
  have htk:Tk S bx (ai bx (cB S bx V)):=by rw [hfr]; exact Tk.cg bx W
  refine ⟨htk, ?_⟩
  obtain ⟨n,hn⟩:=vU h hk htk ht (fun b e l hm hb=>by
   rw [hfr]
   subst hm
   simp only [Sy.cg,hb]
   exact aL _ _ _) hv hx
  refine ⟨?_,n, ?_⟩
  · rw [ht]
    cases n with
    | zero=>exact hn.elim
    | succ n=>cases t with
     | int k=>simp [ay] at hn; subst hn; rfl
     | bool=>simp [ay] at hn; subst hn; rfl
     | str=>simp [ay] at hn; subst hn; rfl
     | pt=>simp [ay] at hn; subst hn; rfl
     | sl e=>obtain ⟨a,cap,h1,_⟩:=hn; simp at h1; subst h1; rfl
     | st u=>simp [a_] at ht
  · have :v.cells.toList= [v]:=by
     cases n with
     | zero=>exact hn.elim
     | succ n=>cases t with
      | int k=>simp [ay] at hn; subst hn; rfl
      | bool=>simp [ay] at hn; subst hn; rfl
      | str=>simp [ay] at hn; subst hn; rfl
      | pt=>simp [ay] at hn; subst hn; rfl
      | sl e=>obtain ⟨a,cap,h1,_⟩:=hn; simp at h1; subst h1; rfl
      | st u=>simp [a_] at ht
    rw [this]; exact hn
 cases V with
 | agg u vs=>
  obtain ⟨cs,rfl,hlen,_,hvs⟩:=hv
  cases t with
  | st u'=>
   simp only [datum] at hx
   split at hx
   · rename_i e
     subst e
     have hfz:=pO (S:=S) bx vs bx (fun i=> .inl rfl)
     obtain ⟨n,hn⟩:=x8 hS h hk hfz.2 (t:= .st u) (vs:=vs) (fun V hV b e l hm hb=>wZ bx bx vs V b e l (List.mem_of_mem_take hV) hm hb (fun i=> .inl rfl)) hvs hx
     have hcl:=aF.length P S hvs
     refine ⟨hfz.2,rfl,n, ?_⟩
     rw [show Ty.sz S (.st u)=cs.toList.length from by show (S.F u).length=_; rw [hcl,hlen]] at hn
     rw [List.take_length] at hn
     exact hn
   · cases hx
  | _=>cases hx
 | d u y=>
  cases t with
  | st u'=>
   obtain ⟨rfl,rfl⟩:=di (show dx S u (.st u') y=some x from hx)
   exact ⟨Tk.refl S bx,bS.mono S hl hv⟩
  | int k=>exact one _ rfl rfl hv rfl hx
  | bool=>exact one _ rfl rfl hv rfl hx
  | str=>exact one _ rfl rfl hv rfl hx
  | pt=>exact one _ rfl rfl hv rfl hx
  | sl e=>exact one _ rfl rfl hv rfl hx
 | fy vs=>cases t <;> simp [datum,cu] at hx
 | dS f vs=>cases t <;> simp [datum,cu] at hx
 | undef=>cases t <;> simp [datum,cu] at hx
 | skip=>cases t <;> simp [datum,cu] at hx
 | pre b n=>cases t <;> simp [datum,cu] at hx
 | split b c=>cases t <;> simp [datum,cu] at hx
 | iF c=>cases t <;> simp [datum,cu] at hx
 | win b i n=>cases t <;> simp [datum,cu] at hx
 | pr p i=>cases t with
  | st u'=>cases hx
  | _=>exact one _ rfl rfl hv rfl hx
 | aT b e l=>cases t with
  | st u'=>cases hx
  | _=>exact one _ rfl rfl hv rfl hx
 | aH b=>cases t with
  | st u'=>cases hx
  | _=>exact one _ rfl rfl hv rfl hx
 | ptr b o=>cases t <;> simp [datum,cu] at hx
 | bW b n=>cases t <;> simp [datum,cu] at hx
 | err b=>cases t <;> simp [datum,cu] at hx
 | dL b i o=>cases t <;> simp [datum,cu] at hx
 | cH t' y=>cases t <;> simp [datum,cu] at hx
 | nil=>cases t <;> simp [datum,cu] at hx
 | b7=>cases t with
  | st u'=>cases hx
  | _=>exact one _ rfl rfl hv rfl hx
 | fv a r g=>cases t <;> simp [datum,cu] at hx
end
end Go.Sy
namespace Go.Sy
section
variable {P:Program} {S:aN}
variable {w0:World} {M0 s0:St} {dq:List Deferred} {env:Env S.C} {a:Act} {w:World} {μ:Nat→Loc}
def bM (S:aN) (env:Env S.C) (μ:Nat→Loc) (bx aa:Bx S.C) (M:St):Prop:=
 ∀ b o,M b o→ ∃ i,live S env.bx i∧live S bx i∧aa i=some .dead∧(μ i).aB b o
theorem bM.none {bx aa:Bx S.C} {M:St} (h:fA M):bM S env μ bx aa M:=fun b o hm=>(h b o hm).elim
theorem kG {bx aa:Bx S.C} (h:Tk S bx aa) {i:Nat} (hd:bx i=some .dead):aa i=some .dead:=by
 rcases h i with e | ⟨e,_⟩ | ⟨e,l,e1,_⟩
 · exact e.trans hd
 · exact e
 · rw [hd] at e1; cases e1
theorem bM.later {bx aa fS:Bx S.C} {M:St} (h:bM S env μ bx aa M) (hk:Tk S aa fS):bM S env μ bx fS M:=
 fun b o hm=>let ⟨i,h1,h2,h3,h4⟩:=h b o hm; ⟨i,h1,h2,kG hk h3,h4⟩
theorem bM.Bl {bx aa fS:Bx S.C} {M:St} (h:bM S env μ aa fS M) (hk:Tk S bx aa):bM S env μ bx fS M:=
 fun b o hm=>let ⟨i,h1,h2,h3,h4⟩:=h b o hm; ⟨i,h1,(dr S (hk.cS h2)).1 h2,h3,h4⟩
theorem bM.apart (h:Inv P S w0 M0 s0 dq env a w μ) {bx aa fS:Bx S.C} {M M':St} (h1:bM S env μ bx aa M) (h2:bM S env μ aa fS M'): ∀ b o,M b o→M' b o→False:=by
 intro b o hm hm'
 obtain ⟨i,a1,a2,a3,a4⟩:=h1 b o hm
 obtain ⟨j,b1,b2,b3,b4⟩:=h2 b o hm'
 refine h.cG i j (fun e=> ?_) a1 b1 b o a4 b4
 subst e
 unfold live at b2
 rw [a3] at b2
 exact b2
theorem bM.union {bx aa fS:Bx S.C} {M M':St} (h1:bM S env μ bx aa M) (h2:bM S env μ aa fS M') (hk:Tk S bx aa) (hk':Tk S aa fS):bM S env μ bx fS (fun b o=>M b o∨M' b o):=
 fun b o hm=>hm.elim (h1.later hk' b o) (h2.Bl hk b o)
theorem Et (hS:ct S) (h:Inv P S w0 M0 s0 dq env a w μ) {bx:Bx S.C} (hk:Tk S env.bx bx) {c:CK} {vs:List (V S.C)} {cs:List Value} {x:c.den S.C} {us:aG S.C}
 (hv:aF P S w (aC S w0 M0 s0 env.bx μ w) μ env.bx vs cs) (hx:cT S bx c vs=some (x,us)):
 Tk S bx (ai bx us)∧ ∃ M,hY S w (bV S w0 M0 s0 env.bx (ai bx us) μ w) M c x (cs.take (CK.sz S c))∧bM S env μ bx (ai bx us) M∧(cs.take (CK.sz S c)).length=CK.sz S c:=by
 cases c with
 | data t=>
  simp only [cT] at hx
  obtain ⟨y,hy,hx⟩:=Option.bind_eq_some_iff.1 hx
  cases hx
  have hfz:=pO (S:=S) bx (vs.take (Ty.sz S t)) bx (fun i=> .inl rfl)
  obtain ⟨n,hn⟩:=x8 hS h hk hfz.2 (fun V hV b e l hm hb=>wZ bx bx _ V b e l hV hm hb (fun i=> .inl rfl)) hv hy
  exact ⟨hfz.2,fun _ _=>False,⟨fun _ _ h=>h,n,hn⟩,bM.none (fun _ _ h=>h),hn.length⟩
 | aT e=>
  simp only [cT] at hx
  split at hx
  · rename_i b e' l r
    split at hx
    · rename_i hb
      obtain ⟨y,hy,hx⟩:=Option.bind_eq_some_iff.1 hx
      cases hx
      obtain ⟨he,rfl⟩:=di hy
      cases he
      obtain ⟨c,r',rfl,hv1,ff⟩:=hv
      have hlb:live S bx b:=by unfold live; rw [hb]; trivial
      have hb0:env.bx b=some .tail:=(hk.cS hlb).symm.trans hb
      have htk:Tk S bx (ai bx [(b, .dead)]):=Tk.oB hlb
      obtain ⟨a',cap,rfl,qc⟩:=hv1.2 hb0
      obtain ⟨_,n,hn⟩:=hv1.1
      refine ⟨htk,(μ b).aB,⟨a',cap,μ b,rfl,⟨n,hn.mono S (ju S w0 M0 s0 env.bx _ μ w) (Nat.le_refl _)⟩,qc,h.bE b _ hb0,fun _ _=>Iff.rfl⟩,fun b' o hm=>⟨b,(dr S (hk.cS hlb)).1 hlb,hlb,aL _ _ _,hm⟩,rfl⟩
    · cases hx
  · rename_i r
    cases hx
    obtain ⟨c,r',rfl,hv1,ff⟩:=hv
    cases hv1
    exact ⟨Tk.refl S bx,fun _ _=>False,⟨none,0,⟨0,0,0,0,true⟩,rfl,⟨1,none,0,rfl,Nat.le_refl _, .inl rfl⟩, .inl ⟨rfl,rfl,rfl⟩,fun j hj=>absurd hj (Nat.not_lt_zero j),fun b o=>⟨fun h=>h.elim,fun h=>by have h1:=h.2.1; have h2:=h.2.2; simp at h2⟩⟩,bM.none (fun _ _ h=>h),rfl⟩
  · cases hx
 | aH e=>
  simp only [cT] at hx
  split at hx
  · rename_i b r
    split at hx
    · rename_i e' l hb
      obtain ⟨y,hy,hx⟩:=Option.bind_eq_some_iff.1 hx
      cases hx
      obtain ⟨he,rfl⟩:=di hy
      cases he
      obtain ⟨c,r',rfl,hv1,ff⟩:=hv
      have hlb:live S bx b:=by unfold live; rw [hb]; trivial
      have hb0:env.bx b=some (.arr e l):=(hk.cS hlb).symm.trans hb
      have htk:Tk S bx (ai bx [(b, .dead)]):=Tk.oB hlb
      obtain ⟨a',cap,rfl,hao⟩:=hv1.2 e l (.inl hb0)
      obtain ⟨g1,g2,g3,g4,g5⟩:=h.bE b _ hb0
      refine ⟨htk,(μ b).aB,⟨a',cap,μ b,rfl,hao,g4,fun _ _=>Iff.rfl,fun i z hi=> ?_⟩,fun b' o hm=>⟨b,(dr S (hk.cS hlb)).1 hlb,hlb,aL _ _ _,hm⟩,rfl⟩
      obtain ⟨ds,d1,d2,n,d3⟩:=g5 i z hi
      exact ⟨ds,d1,d2,n,d3.mono S (ju S w0 M0 s0 env.bx _ μ w) (Nat.le_refl _)⟩
    · cases hx
  · rename_i b n r
    split at hx
    · rename_i e' l hb
      obtain ⟨y,hy,hx⟩:=Option.bind_eq_some_iff.1 hx
      cases hx
      obtain ⟨he,rfl⟩:=di hy
      cases he
      obtain ⟨c,r',rfl,hv1,ff⟩:=hv
      have hlb:live S bx b:=by unfold live; rw [hb]; trivial
      have hb0:env.bx b=some (.arr e l):=(hk.cS hlb).symm.trans hb
      have htk:Tk S bx (ai bx [(b, .dead)]):=Tk.oB hlb
      obtain ⟨hn0,hnl,a',cap,rfl,hao⟩:=hv1.2 e l hb0
      obtain ⟨g1,g2,g3,g4,g5⟩:=h.bE b _ hb0
      have hlen:(List.take n.toNat l).length=n.toNat:=by rw [List.length_take]; omega
      refine ⟨htk,(μ b).aB,⟨a',cap,μ b, ?_, ?_,g4,fun _ _=>Iff.rfl,fun i z hi=> ?_⟩,fun b' o hm=>⟨b,(dr S (hk.cS hlb)).1 hlb,hlb,aL _ _ _,hm⟩,rfl⟩
      · show [_]= [_]
        rw [hlen]
      · rw [hlen]; exact hao
      · have hi':l[i]? =some z:=by
         rw [List.getElem?_take] at hi
         split at hi
         · exact hi
         · cases hi
        obtain ⟨ds,d1,d2,n,d3⟩:=g5 i z hi'
        exact ⟨ds,d1,d2,n,d3.mono S (ju S w0 M0 s0 env.bx _ μ w) (Nat.le_refl _)⟩
    · cases hx
  · rename_i r
    cases hx
    obtain ⟨c,r',rfl,hv1,ff⟩:=hv
    cases hv1
    exact ⟨Tk.refl S bx,fun _ _=>False,⟨none,0,⟨0,0,0,0,true⟩,rfl,⟨rfl,rfl,by simp,fun _=>rfl,Nat.le_refl _⟩,fun j hj=>absurd hj (Nat.not_lt_zero j),fun b o=>⟨fun h=>h.elim,fun h=>by have h1:=h.2.1; have h2:=h.2.2; simp at h2⟩,fun i x hi=>by simp at hi⟩,bM.none (fun _ _ h=>h),rfl⟩
  · cases hx
theorem Eu (hS:ct S) (h:Inv P S w0 M0 s0 dq env a w μ): ∀ (ps:List CK) {bx:Bx S.C} (hk:Tk S env.bx bx) {vs:List (V S.C)} {cs:List Value} {x:bl S.C ps} {us:aG S.C},
 aF P S w (aC S w0 M0 s0 env.bx μ w) μ env.bx vs cs→cQ S bx ps vs=some (x,us)→
 Tk S bx (ai bx us)∧ ∃ M,e9 S w (bV S w0 M0 s0 env.bx (ai bx us) μ w) M ps x (cs.take (CK.bT S ps))∧bM S env μ bx (ai bx us) M∧(cs.take (CK.bT S ps)).length=CK.bT S ps
 | [],bx,hk,vs,cs,x,us,hv,hx=>by
  cases hx
  exact ⟨Tk.refl S bx,fun _ _=>False,⟨fun _ _ h=>h,by simp [CK.bT]⟩,bM.none (fun _ _ h=>h),by simp [CK.bT]⟩
 | c::ps,bx,hk,vs,cs,x,us,hv,hx=>by
  simp only [cQ] at hx
  obtain ⟨⟨y,u1⟩,hy,hx⟩:=Option.bind_eq_some_iff.1 hx
  obtain ⟨⟨z,u2⟩,hz,hx⟩:=Option.bind_eq_some_iff.1 hx
  cases hx
  obtain ⟨k1,M1,r1,f1,n1⟩:=Et hS h hk hv hy
  obtain ⟨k2,M2,r2,f2,n2⟩:=Eu hS h ps (hk.trans S k1) (hv.drop P S (CK.sz S c)) hz
  dsimp only at *
  rw [fN]
  refine ⟨k1.trans S k2,fun b o=>M1 b o∨M2 b o,⟨M1,M2,cs.take (CK.sz S c),(cs.drop (CK.sz S c)).take (CK.bT S ps),⟨fun _ _=>Iff.rfl,bM.apart h f1 f2⟩, ?_,n1, ?_, ?_⟩,bM.union f1 f2 k1 k2, ?_⟩
  · rw [CK.bT,List.take_add]
  · rw [show bl.head (bl.cons y z)=y from by cases ps <;> rfl]
    exact r1.mono S (ox S k2)
  · rw [show bl.tail (bl.cons y z)=z from by cases ps <;> rfl]
    exact r2
  · rw [CK.bT,List.take_add,List.length_append,n1,n2]
theorem jv {w:World} {b o n o' n':Nat} (h:w.there b o n) (h1:o≤o') (h2:o'+n'≤o+n):w.there b o' n':=fun j hj=>by
 have :=h (o' - o+j) (by omega)
 rw [show o+(o' - o+j)=o'+j from by omega] at this
 exact this
theorem Du {w:World} {b o:Nat} {cs:List Value} (h:w.rangeAt b o cs) (k:Nat):w.rangeAt b (o+k) (cs.drop k):=fun j v hj=>by
 rw [Nat.add_assoc]
 exact h (k+j) v (by simpa using hj)
theorem Dx {w:World} {b o:Nat} {cs:List Value} (h:w.rangeAt b o cs) (k:Nat):w.rangeAt b o (cs.take k):=fun j v hj=>by
 rw [List.getElem?_take] at hj
 split at hj
 · exact h j v hj
 · cases hj
theorem yD (hS:ct S) (h:Inv P S w0 M0 s0 dq env a w μ) {bx:Bx S.C} (hk:Tk S env.bx bx) {b off:Nat} {ws:List (V S.C)} (hb:bx b=some (.cells ws)) {ps:List CK} {x:bl S.C ps} {us:aG S.C} {v:Value}
 (hv:bn P S w (aC S w0 M0 s0 env.bx μ w) μ env.bx (.ptr b off) v) (hx:cQ S (ah bx b (some .dead)) ps (ws.drop off)=some (x,us)):
 Tk S bx (ai bx ((b, .dead)::us))∧ ∃ M,c7 S w (bV S w0 M0 s0 env.bx (ai bx ((b, .dead)::us)) μ w) M ps x v∧bM S env μ bx (ai bx ((b, .dead)::us)) M:=by
 have hlb:live S bx b:=by unfold live; rw [hb]; trivial
 have hb0:env.bx b=some (.cells ws):=(hk.cS hlb).symm.trans hb
 have hl0:live S env.bx b:=(dr S (hk.cS hlb)).1 hlb
 have k1:Tk S bx (ah bx b (some .dead)):=Tk.oB hlb
 obtain ⟨g1,g2,g3,cs,g4,g5⟩:=h.bE b _ hb0
 obtain ⟨k2,M2,r2,f2,n2⟩:=Eu hS h ps (hk.trans S k1) (g5.drop P S off) hx
 have qi:v=_:=hv
 subst qi
 have hlen:=aF.length P S g5
 have hsz:off+CK.bT S ps≤cs.length∨CK.bT S ps=0:=by
  rw [List.length_take,List.length_drop] at n2
  omega
 refine ⟨k1.trans S k2,fun b' o'=>(b'=(μ b).b∧(μ b).o+off≤o'∧o'<(μ b).o+off+((cs.drop off).take (CK.bT S ps)).length)∨M2 b' o',⟨_,_,(cs.drop off).take (CK.bT S ps),M2,rfl, ?_,Dx (Du g4 off) _,⟨fun _ _=>Iff.rfl, ?_⟩,r2⟩, ?_⟩
 · rcases hsz with hsz | hsz
   · exact jv g3 (by omega) (by rw [n2]; omega)
   · intro j hj; rw [n2,hsz] at hj; exact absurd hj (Nat.not_lt_zero _)
 · rintro b' o' ⟨rfl,h1,h2⟩ hm
   obtain ⟨i,a1,a2,a3,a4⟩:=f2 _ _ hm
   refine h.cG b i (fun e=> ?_) hl0 a1 _ _ ⟨rfl,by omega, ?_⟩ a4
   · subst e
     unfold live at a2
     rw [aL] at a2
     exact a2
   · rw [n2] at h2
     rcases hsz with hsz | hsz <;> omega
 · rintro b' o' (⟨rfl,h1,h2⟩ | hm)
   · refine ⟨b,hl0,hlb,kG k2 (aL _ _ _),rfl,by omega, ?_⟩
     rw [n2] at h2
     rcases hsz with hsz | hsz <;> omega
   · exact f2.Bl k1 _ _ hm
theorem AM (hS:ct S) (h:Inv P S w0 M0 s0 dq env a w μ) {bx:Bx S.C} (hk:Tk S env.bx bx) {t:Ty} {V:V S.C} {v:Value} {x:t.den S.C}
 (hv:bn P S w (aC S w0 M0 s0 env.bx μ w) μ env.bx V v) (hx:iW S bx t V=some x):iS S w (bV S w0 M0 s0 env.bx bx μ w) t x v:=by
 have hl:=ju S w0 M0 s0 env.bx bx μ w
 cases V with
 | ptr b off=>
  cases off with
  | succ n=>cases hx
  | zero=>
   simp only [iW] at hx
   split at hx
   · rename_i ws hb
     have hb0:env.bx b=some (.bw ws):=by
      rcases hk b with e | ⟨e,_⟩ | ⟨e,l,_,e1⟩
      · exact e.symm.trans hb
      · rw [hb] at e; cases e
      · rw [hb] at e1; cases e1
     obtain ⟨g1,cs,g2,g3⟩:=h.bE b _ hb0
     have qi:v=_:=hv
     subst qi
     cases hnm:ws.all (C9 S) with
     | false=>rw [hnm] at hx; cases hx
     | true=>
     rw [hnm] at hx
     obtain ⟨n,hn⟩:=x8 hS h hk (Tk.refl S bx) (t:=t) (vs:=ws) (fun V hV b' e l hm hb'=>by
      have :=(List.all_eq_true.1 hnm) V (List.mem_of_mem_take hV)
      subst hm
      cases this) g3 hx
     refine ⟨_,_,cs.take (Ty.sz S t),rfl,fun j u hj=> ?_,hn.length,n,hn⟩
     rw [List.getElem?_take] at hj
     split at hj
     · have :=(g2.later hl) j u hj
       simpa using this
     · cases hj
   · cases hx
 | cH u y=>
  obtain ⟨rfl,rfl⟩:=di (show dx S u t y=some x from hx)
  exact iS.mono S hl hv
 | _=>cases hx
theorem v8 (hS:ct S) (h:Inv P S w0 M0 s0 dq env a w μ) {bx:Bx S.C} (hk:Tk S env.bx bx): ∀ (ts:List Ty) {vs:List (V S.C)} {cs:List Value} {x:ag S.C ts},
 aF P S w (aC S w0 M0 s0 env.bx μ w) μ env.bx vs cs→caps S bx ts vs=some x→eI S w (bV S w0 M0 s0 env.bx bx μ w) ts x cs
 | [],[],cs,x,hv,_=>hv
 | [],_::_,_,_,_,hx=>by cases hx
 | _::_,[],_,_,_,hx=>by cases hx
 | t::ts,V::vs,cs,x,⟨c,r,hcs,h1,h2⟩,hx=>by
  simp only [caps] at hx
  obtain ⟨y,hy,hx⟩:=Option.bind_eq_some_iff.1 hx
  obtain ⟨z,hz,hx⟩:=Option.bind_eq_some_iff.1 hx
  cases hx
  refine ⟨c,r,hcs, ?_, ?_⟩
  · rw [show ag.head (ag.cons y z)=y from by cases ts <;> rfl]
    exact AM hS h hk h1 hy
  · rw [show ag.tail (ag.cons y z)=z from by cases ts <;> rfl]
    exact v8 hS h hk ts h2 hz
theorem Hv (hS:ct S) (h:Inv P S w0 M0 s0 dq env a w μ) {bx:Bx S.C} (hk:Tk S env.bx bx) {fs:List (eJ S)} (jO: ∀ e ∈ fs,eK P S e) {A R:List Ty} {V:V S.C} {v:Value} {g:ag S.C A→Option (ag S.C R)}
 (hv:RV P S w (aC S w0 M0 s0 env.bx μ w) μ env.bx V v) (hx:lS S fs bx A R V=some g):iQ P S w (bV S w0 M0 s0 env.bx bx μ w) A R g v:=by
 have hl:=ju S w0 M0 s0 env.bx bx μ w
 cases V with
 | fv A' R' g'=>
  simp only [lS] at hx
  split at hx
  · rename_i e1
    split at hx
    · rename_i e2
      subst e1 e2
      cases hx
      exact iQ.mono P S hl hv
    · cases hx
  · cases hx
 | dS f vs=>
  obtain ⟨cs,rfl,hvs⟩:=hv
  simp only [lS] at hx
  obtain ⟨e,he,hx1⟩:=List.exists_of_findSome?_eq_some hx
  clear hx
  split at hx1
  · rename_i ef
    split at hx1
    · rename_i e1
      split at hx1
      · rename_i e2
        obtain ⟨y,hy,hx2⟩:=Option.bind_eq_some_iff.1 hx1
        clear hx1
        obtain ⟨f',A',c',R',sp⟩:=e
        dsimp only at *
        subst ef e1 e2
        have hx3:=Option.some.inj hx2
        subst hx3
        have s7:=v8 hS h hk _ hvs hy
        refine ⟨f', #[],cs,rfl,(jO _ he).1,fun w1 s1 bQ w8 x args z hargs hg=> ?_⟩
        have :=(jO _ he).2 w1 s1 x y z args cs.toList w8 hargs (eI.mono bQ _ _ _ s7) hg
        rw [show #[]++args.toArray++cs=(args++cs.toList).toArray from by simp]
        exact this
      · cases hx1
    · cases hx1
  · cases hx1
 | _=>cases hx
theorem EB (hS:ct S) (h:Inv P S w0 M0 s0 dq env a w μ) {bx:Bx S.C} (hk:Tk S env.bx bx) {ps:List CK} {b:Nat} {x:bl S.C ps} {us:aG S.C} (hx:eA S bx ps b=some (x,us)):
 Tk S bx (ai bx us)∧ ∃ M,c7 S w (bV S w0 M0 s0 env.bx (ai bx us) μ w) M ps x (.pointer (some ⟨(μ b).b,(μ b).o,none⟩))∧bM S env μ bx (ai bx us) M:=by
 unfold eA at hx
 split at hx
 · rename_i ws hb
   cases hw:Nat.beq ws.length (CK.bT S ps) with
   | false=>rw [hw] at hx; cases hx
   | true=>
    rw [hw,cond_true] at hx
    obtain ⟨⟨y,u'⟩,hy,hx⟩:=Option.bind_eq_some_iff.1 hx
    cases hx
    exact yD hS h hk hb (show bn P S w (aC S w0 M0 s0 env.bx μ w) μ env.bx (.ptr b 0) _ from rfl) hy
 · cases hx
theorem Nu (hS:ct S) (h:Inv P S w0 M0 s0 dq env a w μ) {bx:Bx S.C} (hk:Tk S env.bx bx) {fs:List (eJ S)} (jO: ∀ e ∈ fs,eK P S e) {k:K} {V:V S.C} {v:Value} {x:k.den S.C} {us:aG S.C}
 (hv:RV P S w (aC S w0 M0 s0 env.bx μ w) μ env.bx V v) (hx:bP S fs bx k V=some (x,us)):
 Tk S bx (ai bx us)∧ ∃ M,iR P S w (bV S w0 M0 s0 env.bx (ai bx us) μ w) M k x v∧bM S env μ bx (ai bx us) M:=by
 have ck: ∀ (c:CK),(∀ t,c≠ .data t)→CK.sz S c=1→ ∀ (y:c.den S.C),cT S bx c [V]=some (y,us)→Tk S bx (ai bx us)∧ ∃ M,(hY S w (bV S w0 M0 s0 env.bx (ai bx us) μ w) M c y v.cells.toList∧isAgg v=false)∧bM S env μ bx (ai bx us) M:=by
  intro c hc h1 y hy
  have hv1:bn P S w (aC S w0 M0 s0 env.bx μ w) μ env.bx V v:=by
   cases V with
   | agg u ws=>cases c <;> first | exact absurd rfl (hc _) | cases hy
   | fy ws=>cases c <;> first | exact absurd rfl (hc _) | cases hy
   | dS f ws=>cases c <;> first | exact absurd rfl (hc _) | cases hy
   | _=>exact hv
  obtain ⟨k1,M,r1,f1,n1⟩:=Et hS h hk (vs:= [V]) (cs:= [v]) ⟨v,[],rfl,hv1,rfl⟩ hy
  rw [h1] at r1
  have hag:isAgg v=false:=by
   cases c with
   | data t=>exact absurd rfl (hc t)
   | aT e=>obtain ⟨a',cap,L,he,_⟩:=r1; simp at he; subst he; rfl
   | aH e=>obtain ⟨a',cap,L,he,_⟩:=r1; simp at he; subst he; rfl
  refine ⟨k1,M,⟨?_,hag⟩,f1⟩
  rw [ay.ig (t:= .bool) (by rw [hag]; rfl) rfl]
  exact r1
 have obj: ∀ (ps:List CK) (b off:Nat) (ws:List (Sy.V S.C)) (y:bl S.C ps) (us':aG S.C),V= .ptr b off→bx b=some (.cells ws)→cQ S (ah bx b (some .dead)) ps (ws.drop off)=some (y,us')→us=(b, .dead)::us'→
  Tk S bx (ai bx us)∧ ∃ M,c7 S w (bV S w0 M0 s0 env.bx (ai bx us) μ w) M ps y v∧bM S env μ bx (ai bx us) M:=by
  intro ps b off ws y us' hV hb hy hu
  subst hV hu
  exact yD hS h hk hb hv hy
 cases k with
 | val c=>
  cases c with
  | data t=>
   simp only [bP] at hx
   obtain ⟨y,hy,hx⟩:=Option.bind_eq_some_iff.1 hx
   cases hx
   obtain ⟨k1,r1⟩:=sH hS h hk hv hy
   exact ⟨k1,fun _ _=>False,⟨⟨fun _ _ h=>h,r1.2⟩,r1.1⟩,bM.none (fun _ _ h=>h)⟩
  | aT e=>exact ck (.aT e) (by simp) rfl x hx
  | aH e=>exact ck (.aH e) (by simp) rfl x hx
 | obj ps=>
  simp only [bP] at hx
  split at hx
  · split at hx
    · rename_i b off _ ws hb
      cases hw:Nat.beq off 0&&Nat.beq ws.length (CK.bT S ps) with
      | false=>rw [hw] at hx; cases hx
      | true=>
       rw [hw,cond_true] at hx
       obtain ⟨⟨y,u'⟩,hy,hx⟩:=Option.bind_eq_some_iff.1 hx
       cases hx
       exact obj ps _ _ _ _ _ rfl hb hy rfl
    · cases hx
  · cases hx
 | opt ps=>
  simp only [bP] at hx
  split at hx
  · cases hx
    exact ⟨Tk.refl S bx,fun _ _=>False,⟨fun _ _ h=>h,hv⟩,bM.none (fun _ _ h=>h)⟩
  · split at hx
    · rename_i b off _ ws hb
      cases hw:Nat.beq off 0&&Nat.beq ws.length (CK.bT S ps) with
      | false=>rw [hw] at hx; cases hx
      | true=>
       rw [hw,cond_true] at hx
       obtain ⟨⟨y,u'⟩,hy,hx⟩:=Option.bind_eq_some_iff.1 hx
       cases hx
       exact obj ps _ _ _ _ _ rfl hb hy rfl
    · cases hx
  · cases hx
 | bW ps=>
  simp only [bP] at hx
  split at hx
  · split at hx
    · rename_i b n _ ws hb
      cases hw:Nat.beq n ws.length&&Nat.beq ws.length (CK.bT S ps) with
      | false=>rw [hw] at hx; cases hx
      | true=>
       rw [hw,cond_true] at hx
       rw [Bool.and_eq_true] at hw
       have w1:=Nat.eq_of_beq_eq_true hw.1
       have w2:=Nat.eq_of_beq_eq_true hw.2
       obtain ⟨⟨y,u'⟩,hy,hx⟩:=Option.bind_eq_some_iff.1 hx
       cases hx
       have hv:v= .slice (some ⟨(μ b).b,(μ b).o,none⟩) n n:=hv
       obtain ⟨k1,M,r1,f1⟩:=yD hS h hk (v:= .pointer (some ⟨(μ b).b,(μ b).o,none⟩)) hb (show bn P S w (aC S w0 M0 s0 env.bx μ w) μ env.bx (.ptr b 0) _ from rfl) hy
       exact ⟨k1,M,⟨_,by rw [hv,w1,w2],r1⟩,f1⟩
    · cases hx
  · cases hx
 | err=>
  simp only [bP] at hx
  split at hx
  · cases hx
    exact ⟨Tk.refl S bx,fun _ _=>False,⟨fun _ _ h=>h,hv⟩,bM.none (fun _ _ h=>h)⟩
  · cases hx
 | aV=>
  simp only [bP] at hx
  split at hx
  · split at hx
    · split at hx
      · rename_i b off _ j hb _ l hj
        cases hw:Nat.beq off 0 with
        | false=>rw [hw] at hx; cases hx
        | true=>
         rw [hw] at hx
         cases hx
         have ho:=Nat.eq_of_beq_eq_true hw
         subst ho
         have hne:j≠b:=fun e=>by subst e; rw [hb] at hj; cases hj
         have lb:live S bx b:=by unfold live; rw [hb]; trivial
         have lj:live S bx j:=by unfold live; rw [hj]; trivial
         have hb0:env.bx b=some (.aV j):=(hk.cS lb).symm.trans hb
         have hj0:env.bx j=some (.buf x):=(hk.cS lj).symm.trans hj
         have CS:live S env.bx b:=(dr S (hk.cS lb)).1 lb
         have C2:live S env.bx j:=(dr S (hk.cS lj)).1 lj
         obtain ⟨g1,g2,g3,u,g4,g5⟩:=h.bE b _ hb0
         have gj:ku S w (μ j) x:=h.bE j _ hj0
         have hv:v= .pointer (some ⟨(μ b).b,(μ b).o+0,none⟩):=hv
         have k1:Tk S bx (ah bx b (some .dead)):=Tk.oB lb
         have J5:live S (ah bx b (some .dead)) j:=by unfold live; rw [aY _ _ hne,hj]; trivial
         have k2:Tk S (ah bx b (some .dead)) (ah (ah bx b (some .dead)) j (some .dead)):=Tk.oB J5
         have fb: ∀ b' o',(Loc.mk (μ b).b 0 2 0 false).aB b' o'→(μ b).aB b' o':=fun b' o' ⟨q1,q2,q3⟩=>⟨q1,by omega,by have :o'<0+2:=q3; omega⟩
         refine ⟨k1.trans S k2,fun b' o'=>(Loc.mk (μ b).b 0 2 0 false).aB b' o'∨(μ j).aB b' o',⟨(μ b).b,μ j,by rw [hv,g1],g5 _ hj0▸g4,gj,fun _ _=>Iff.rfl,fun b' o' q1 q2=>h.cG j b hne C2 CS _ _ q2 (fb _ _ q1)⟩, ?_⟩
         rintro b' o' (q | q)
         · exact ⟨b,CS,lb,(aY _ _ hne.symm).trans (aL _ _ _),fb _ _ q⟩
         · exact ⟨j,C2,lj,aL _ _ _,q⟩
      · cases hx
    · cases hx
  · cases hx
 | nil=>
  simp only [bP] at hx
  split at hx
  · cases hx
    exact ⟨Tk.refl S bx,fun _ _=>False,⟨fun _ _ h=>h,hv⟩,bM.none (fun _ _ h=>h)⟩
  · cases hx
 | bD t ps=>
  simp only [bP] at hx
  split at hx
  · rename_i b c
    obtain ⟨⟨y,u1⟩,hy,hx⟩:=Option.bind_eq_some_iff.1 hx
    obtain ⟨⟨z,u2⟩,hz,hx⟩:=Option.bind_eq_some_iff.1 hx
    cases hx
    obtain ⟨kb,q,e1,e2,e3,e4⟩:=hv
    obtain ⟨k1,M1,r1,f1⟩:=EB hS h hk hy
    obtain ⟨k2,M2,r2,f2⟩:=EB hS h (hk.trans S k1) hz
    dsimp only at *
    rw [fN]
    rw [e3,e4] at r2
    exact ⟨k1.trans S k2,fun b o=>M1 b o∨M2 b o,⟨kb,q,⟨(μ c).b,(μ c).o,none⟩,M1,M2,e1,e2.later (ju S _ _ _ _ _ _ _),⟨fun _ _=>Iff.rfl,bM.apart h f1 f2⟩,c7.mono S (ox S k2) r1,r2⟩,bM.union f1 f2 k1 k2⟩
  · cases hx
 | ro t=>
  simp only [bP] at hx
  obtain ⟨y,hy,hx⟩:=Option.bind_eq_some_iff.1 hx
  cases hx
  have hv1:bn P S w (aC S w0 M0 s0 env.bx μ w) μ env.bx V v:=by
   cases V <;> first | exact hv | cases hy
  exact ⟨Tk.refl S bx,fun _ _=>False,⟨fun _ _ h=>h,AM hS h hk hv1 hy⟩,bM.none (fun _ _ h=>h)⟩
 | fn A R=>
  simp only [bP] at hx
  obtain ⟨y,hy,hx⟩:=Option.bind_eq_some_iff.1 hx
  cases hx
  exact ⟨Tk.refl S bx,fun _ _=>False,⟨fun _ _ h=>h,Hv hS h hk jO hv hy⟩,bM.none (fun _ _ h=>h)⟩
def dQ (P:Program) (S:aN) (w:World) (s:St) (μ:Nat→Loc) (bx:Bx S.C):List (V S.C)→List Value→Prop
 | [],cs=>cs= []
 | v::vs,cs=> ∃ c r,cs=c::r∧RV P S w s μ bx v c∧dQ P S w s μ bx vs r
theorem rI (hS:ct S) (h:Inv P S w0 M0 s0 dq env a w μ) {fs:List (eJ S)} (jO: ∀ e ∈ fs,eK P S e): ∀ (ks:List K) {bx:Bx S.C} (hk:Tk S env.bx bx) {vs:List (V S.C)} {cs:List Value} {x:Ks S.C ks} {us:aG S.C},
 dQ P S w (aC S w0 M0 s0 env.bx μ w) μ env.bx vs cs→cZ S fs bx ks vs=some (x,us)→
 Tk S bx (ai bx us)∧ ∃ M,bL P S w (bV S w0 M0 s0 env.bx (ai bx us) μ w) M ks x cs∧bM S env μ bx (ai bx us) M
 | [],bx,hk,[],cs,x,us,hv,hx=>by
  cases hx
  exact ⟨Tk.refl S bx,fun _ _=>False,⟨fun _ _ h=>h,hv⟩,bM.none (fun _ _ h=>h)⟩
 | [],_,_,_::_,_,_,_,_,hx=>by cases hx
 | _::_,_,_,[],_,_,_,_,hx=>by cases hx
 | k::ks,bx,hk,V::vs,cs,x,us,⟨c,r,hcs,hv1,ff⟩,hx=>by
  simp only [cZ] at hx
  obtain ⟨⟨y,u1⟩,hy,hx⟩:=Option.bind_eq_some_iff.1 hx
  obtain ⟨⟨z,u2⟩,hz,hx⟩:=Option.bind_eq_some_iff.1 hx
  cases hx
  obtain ⟨k1,M1,r1,f1⟩:=Nu hS h hk jO hv1 hy
  obtain ⟨k2,M2,r2,f2⟩:=rI hS h jO ks (hk.trans S k1) ff hz
  dsimp only at *
  rw [fN]
  refine ⟨k1.trans S k2,fun b o=>M1 b o∨M2 b o,⟨M1,M2,c,r,⟨fun _ _=>Iff.rfl,bM.apart h f1 f2⟩,hcs, ?_, ?_⟩,bM.union f1 f2 k1 k2⟩
  · rw [show Ks.head (Ks.cons y z)=y from by cases ks <;> rfl]
    exact r1.mono P S (ox S k2)
  · rw [show Ks.tail (Ks.cons y z)=z from by cases ks <;> rfl]
    exact r2
end
end Go.Sy
namespace Go.Sy
theorem fQ.left {M A B:St} (h:fQ M A B) {b o:Nat} (ha:A b o):M b o:=(h.1 b o).2 (.inl ha)
theorem fQ.right {M A B:St} (h:fQ M A B) {b o:Nat} (ha:B b o):M b o:=(h.1 b o).2 (.inr ha)
section
variable {P:Program} {S:aN}
def Agree (us:aG S.C) (lam:Nat→Loc) (μ:Nat→Loc) (bx:Bx S.C):Prop:= ∀ u ∈ us,bx u.1=some u.2∧μ u.1=lam u.1
structure bO (P:Program) (S:aN) (w:World) (s:St) (I:Nat→Prop) (us:aG S.C) (lam:Nat→Loc) (M:St):Prop where
 dX: ∀ u ∈ us,I u.1
 one: ∀ u ∈ us, ∀ u' ∈ us,u.1=u'.1→u=u'
 rb: ∀ μ bx,Agree us lam μ bx→ ∀ u ∈ us,RB P S w s μ bx (lam u.1) u.2
 lv: ∀ bx:Bx S.C, ∀ u ∈ us,bx u.1=some u.2→live S bx u.1
 aB: ∀ b o,M b o↔ ∃ u ∈ us,(lam u.1).aB b o
 cG: ∀ u ∈ us, ∀ u' ∈ us,u.1≠u'.1→ ∀ b o,(lam u.1).aB b o→(lam u'.1).aB b o→False
 ref: ∀ u ∈ us, ∀ vs,(u.2= .cells vs∨u.2= .bw vs)→ ∀ v ∈ vs, ∀ j ∈ aj S v, ∃ u' ∈ us,u'.1=j
theorem bO.nil {w:World} {s:St} {I:Nat→Prop} {M:St} (h:fA M) (lam:Nat→Loc):bO P S w s I [] lam M:=
 ⟨by simp,by simp,by simp,by simp,fun b o=>⟨fun hm=>(h b o hm).elim,by simp⟩,by simp,by simp⟩
def both (us:aG S.C) (l1 l2:Nat→Loc):Nat→Loc:=fun i=>if i ∈ us.map (·.1) then l1 i else l2 i
theorem bO.both {w:World} {s:St} {I1 I2:Nat→Prop} {cL jw:aG S.C} {l1 l2:Nat→Loc} {M M1 M2:St} (h1:bO P S w s I1 cL l1 M1) (h2:bO P S w s I2 jw l2 M2)
 (hI: ∀ i,I1 i→I2 i→False) (hM:fQ M M1 M2):bO P S w s (fun i=>I1 i∨I2 i) (cL++jw) (both cL l1 l2) M∧
  (∀ μ bx,Agree (cL++jw) (Sy.both cL l1 l2) μ bx→Agree cL l1 μ bx∧Agree jw l2 μ bx):=by
 have e1: ∀ u ∈ cL,Sy.both cL l1 l2 u.1=l1 u.1:=fun u hu=>if_pos (List.mem_map.2 ⟨u,hu,rfl⟩)
 have e2: ∀ u ∈ jw,Sy.both cL l1 l2 u.1=l2 u.1:=fun u hu=>if_neg fun hm=>by
  obtain ⟨u',aI,he⟩:=List.mem_map.1 hm
  exact hI u.1 (he▸h1.dX u' aI) (h2.dX u hu)
 have hag: ∀ μ bx,Agree (cL++jw) (Sy.both cL l1 l2) μ bx→Agree cL l1 μ bx∧Agree jw l2 μ bx:=fun μ bx h=>
  ⟨fun u hu=>⟨(h u (by simp [hu])).1,(h u (by simp [hu])).2.trans (e1 u hu)⟩,fun u hu=>⟨(h u (by simp [hu])).1,(h u (by simp [hu])).2.trans (e2 u hu)⟩⟩
 refine ⟨⟨?_, ?_, ?_, ?_, ?_, ?_, ?_⟩,hag⟩
 · intro u hu
   rcases List.mem_append.1 hu with hu | hu
   · exact .inl (h1.dX u hu)
   · exact .inr (h2.dX u hu)
 · intro u hu u' aI he
   rcases List.mem_append.1 hu with hu | hu <;> rcases List.mem_append.1 aI with aI | aI
   · exact h1.one u hu u' aI he
   · exact (hI u.1 (h1.dX u hu) (he▸h2.dX u' aI)).elim
   · exact (hI u'.1 (h1.dX u' aI) (he▸h2.dX u hu)).elim
   · exact h2.one u hu u' aI he
 · intro μ bx ha u hu
   rcases List.mem_append.1 hu with hu | hu
   · rw [e1 u hu]; exact h1.rb μ bx (hag μ bx ha).1 u hu
   · rw [e2 u hu]; exact h2.rb μ bx (hag μ bx ha).2 u hu
 · intro bx u hu hb
   rcases List.mem_append.1 hu with hu | hu
   · exact h1.lv bx u hu hb
   · exact h2.lv bx u hu hb
 · intro b o
   rw [hM.1 b o,h1.aB,h2.aB]
   constructor
   · rintro (⟨u,hu,hf⟩ | ⟨u,hu,hf⟩)
     · exact ⟨u,by simp [hu],by rw [e1 u hu]; exact hf⟩
     · exact ⟨u,by simp [hu],by rw [e2 u hu]; exact hf⟩
   · rintro ⟨u,hu,hf⟩
     rcases List.mem_append.1 hu with hu | hu
     · rw [e1 u hu] at hf; exact .inl ⟨u,hu,hf⟩
     · rw [e2 u hu] at hf; exact .inr ⟨u,hu,hf⟩
 · intro u hu u' aI hne b o hf hf'
   rcases List.mem_append.1 hu with hu | hu <;> rcases List.mem_append.1 aI with aI | aI
   · rw [e1 u hu] at hf; rw [e1 u' aI] at hf'
     exact h1.cG u hu u' aI hne b o hf hf'
   · rw [e1 u hu] at hf; rw [e2 u' aI] at hf'
     exact hM.2 b o ((h1.aB b o).2 ⟨u,hu,hf⟩) ((h2.aB b o).2 ⟨u',aI,hf'⟩)
   · rw [e2 u hu] at hf; rw [e1 u' aI] at hf'
     exact hM.2 b o ((h1.aB b o).2 ⟨u',aI,hf'⟩) ((h2.aB b o).2 ⟨u,hu,hf⟩)
   · rw [e2 u hu] at hf; rw [e2 u' aI] at hf'
     exact h2.cG u hu u' aI hne b o hf hf'
 · intro u hu vs hvs v hv j hj
   rcases List.mem_append.1 hu with hu | hu
   · obtain ⟨u',aI,he⟩:=h1.ref u hu vs hvs v hv j hj
     exact ⟨u',by simp [aI],he⟩
   · obtain ⟨u',aI,he⟩:=h2.ref u hu vs hvs v hv j hj
     exact ⟨u',by simp [aI],he⟩
theorem bO.weaken {w:World} {s:St} {I I':Nat→Prop} {us:aG S.C} {lam:Nat→Loc} {M:St} (h:bO P S w s I us lam M) (hI: ∀ i,I i→I' i):bO P S w s I' us lam M:=
 ⟨fun u hu=>hI _ (h.dX u hu),h.one,h.rb,h.lv,h.aB,h.cG,h.ref⟩
theorem EH {w:World} {s:St} {n:Nat} (μ:Nat→Loc) (bx:Bx S.C): ∀ (ts:List Ty) (hts:ts.all (fun t=> !a_ t)=true) (x:ag S.C ts) (cs:List Value),
 bk S (fun t x cs=>ay S w s n t x cs) ts x cs→aF P S w s μ bx (lq S ts x) cs∧(lq S ts x).all (br S)=true∧ ∀ v ∈ lq S ts x,aj S v= []
 | [],_,x,cs,h=>⟨h,rfl,by simp [lq]⟩
 | t::ts,hts,x,cs,⟨c,r,hcs,h1,h2⟩=>by
  simp only [List.all_cons,Bool.and_eq_true,Bool.not_eq_true'] at hts
  obtain ⟨r1,r2,r3⟩:=EH μ bx ts hts.2 _ _ h2
  have hc:isAgg c=false:=by
   cases n with
   | zero=>exact h1.elim
   | succ n=>cases t with
    | int k=>simp [ay] at h1; subst h1; rfl
    | bool=>simp [ay] at h1; subst h1; rfl
    | str=>simp [ay] at h1; subst h1; rfl
    | pt=>simp [ay] at h1; subst h1; rfl
    | sl e=>obtain ⟨a,cap,h,_⟩:=h1; simp at h; subst h; rfl
    | st u=>simp [a_] at hts
  refine ⟨⟨c,r,hcs,⟨by rw [hc,hts.1],n, ?_⟩,r1⟩, ?_, ?_⟩
  · rw [ay.ig (t:=t) (by rw [hc,hts.1]) hts.1]
    exact h1
  · simp only [lq,List.all_cons,Bool.and_eq_true]
    exact ⟨by cases t <;> first | rfl | simp [a_] at hts,r2⟩
  · intro v hv
    simp only [lq,List.mem_cons] at hv
    rcases hv with rfl | hv
    · rfl
    · exact r3 v hv
theorem iX (hS:ct S) {w:World} {s:St} {n:Nat} (μ:Nat→Loc) (bx:Bx S.C) {t:Ty} {x:t.den S.C} {cs:List Value} (h:ay S w s n t x cs):
 aF P S w s μ bx (fU S t x) cs∧(fU S t x).all (br S)=true∧ ∀ v ∈ fU S t x,aj S v= []:=by
 have one:a_ t=false→fU S t x= [.d t x]→aF P S w s μ bx (fU S t x) cs∧(fU S t x).all (br S)=true∧ ∀ v ∈ fU S t x,aj S v= []:=by
  intro ht he
  rw [he]
  have hl:=h.length S
  rw [show Ty.sz S t=1 from by cases t <;> first | rfl | simp [a_] at ht] at hl
  obtain ⟨c,rfl⟩:=List.length_eq_one_iff.1 hl
  have hc:isAgg c=false:=by
   cases n with
   | zero=>exact h.elim
   | succ n=>cases t with
    | int k=>simp [ay] at h; subst h; rfl
    | bool=>simp [ay] at h; subst h; rfl
    | str=>simp [ay] at h; subst h; rfl
    | pt=>simp [ay] at h; subst h; rfl
    | sl e=>obtain ⟨a,cap,h,_⟩:=h; simp at h; subst h; rfl
    | st u=>simp [a_] at ht
  refine ⟨⟨c,[],rfl,⟨by rw [hc,ht],n, ?_⟩,rfl⟩, ?_, ?_⟩
  · rw [ay.ig (t:=t) (by rw [hc,ht]) ht]
    exact h
  · cases t <;> first | rfl | simp [a_] at ht
  · intro v hv
    simp at hv
    subst hv
    rfl
 cases t with
 | st u=>
  cases n with
  | zero=>exact h.elim
  | succ n=>exact EH μ bx (S.F u) (hS.flat u) _ _ h
 | int k=>exact one rfl rfl
 | bool=>exact one rfl rfl
 | str=>exact one rfl rfl
 | pt=>exact one rfl rfl
 | sl e=>exact one rfl rfl
theorem tL (hS:ct S) {w:World} {s M:St} (id:Nat) {c:CK} {x:c.den S.C} {cs:List Value} (h:hY S w s M c x cs):
 id≤(bR S id c x).2.2∧ ∃ lam,bO P S w s (fun i=>id≤i∧i<(bR S id c x).2.2) (bR S id c x).2.1 lam M∧
  (bR S id c x).1.all (br S)=true∧(∀ v ∈ (bR S id c x).1, ∀ j ∈ aj S v, ∃ u ∈ (bR S id c x).2.1,u.1=j)∧
  ∀ μ bx,Agree (bR S id c x).2.1 lam μ bx→aF P S w s μ bx (bR S id c x).1 cs:=by
 cases c with
 | data t=>
  obtain ⟨hM,n,hn⟩:=h
  have ho:=fun μ bx=>iX (P:=P) hS μ bx hn
  refine ⟨Nat.le_refl _,fun _=>⟨0,0,0,0,true⟩,bO.nil hM _,(ho (fun _=>⟨0,0,0,0,true⟩) (fun _=>none)).2.1, ?_,fun μ bx _=>(ho μ bx).1⟩
  intro v hv j hj
  rw [(ho (fun _=>⟨0,0,0,0,true⟩) (fun _=>none)).2.2 v hv] at hj
  simp at hj
 | aT e=>
  obtain ⟨a,cap,L,rfl,⟨n,hn⟩,qc,b6,hM⟩:=h
  refine ⟨Nat.le_succ _,fun _=>L,⟨?_, ?_, ?_, ?_, ?_, ?_, ?_⟩,rfl, ?_, ?_⟩
  · intro u hu; simp [bR] at hu; subst hu; simp [bR]
  · intro u hu u' aI _; simp [bR] at hu aI; rw [hu,aI]
  · intro μ bx ha u hu; simp [bR] at hu; subst hu; exact b6
  · intro bx u hu hb; simp [bR] at hu; subst hu; unfold live; rw [hb]; trivial
  · intro b o; rw [hM]; simp [bR]
  · intro u hu u' aI hne; simp [bR] at hu aI; subst hu aI; exact absurd rfl hne
  · intro u hu vs hvs; simp [bR] at hu; subst hu; rcases hvs with hvs | hvs <;> cases hvs
  · intro v hv j hj; simp [bR] at hv; subst hv; simp [aj] at hj; subst hj; exact ⟨(j, .tail),by simp [bR],rfl⟩
  · intro μ bx ha
    refine ⟨_,[],rfl,⟨⟨rfl,n,hn⟩,fun _=>⟨a,cap,rfl, ?_⟩⟩,rfl⟩
    rw [(ha (id, .tail) (by simp [bR])).2]
    exact qc
 | aH e=>
  obtain ⟨a,cap,L,rfl,hao,b6,hM,hel⟩:=h
  refine ⟨Nat.le_succ _,fun _=>L,⟨?_, ?_, ?_, ?_, ?_, ?_, ?_⟩,rfl, ?_, ?_⟩
  · intro u hu; simp [bR] at hu; subst hu; simp [bR]
  · intro u hu u' aI _; simp [bR] at hu aI; rw [hu,aI]
  · intro μ bx ha u hu; simp [bR] at hu; subst hu
    exact ⟨hao.cells,hao.isNil,by have :=hao.fits; have :=hao.gG; omega,b6,hel⟩
  · intro bx u hu hb; simp [bR] at hu; subst hu; unfold live; rw [hb]; trivial
  · intro b o; rw [hM]; simp [bR]
  · intro u hu u' aI hne; simp [bR] at hu aI; subst hu aI; exact absurd rfl hne
  · intro u hu vs hvs; simp [bR] at hu; subst hu; rcases hvs with hvs | hvs <;> cases hvs
  · intro v hv j hj; simp [bR] at hv; subst hv; simp [aj] at hj; subst hj; exact ⟨(j, .arr e x),by simp [bR],rfl⟩
  · intro μ bx ha
    refine ⟨_,[],rfl,⟨⟨_,_,_,rfl⟩,fun e' l' hb=> ?_⟩,rfl⟩
    obtain ⟨h1,h2⟩:=ha (id, .arr e x) (by simp [bR])
    dsimp only at h1 h2
    rcases hb with hb | hb
    · rw [h1] at hb
      cases hb
      exact ⟨a,cap,rfl,by rw [h2]; exact hao⟩
    · rw [h1] at hb; cases hb
theorem yx (hS:ct S) {w:World} {s:St} : ∀ (cs:List CK) {M:St} (id:Nat) {x:bl S.C cs} {vs:List Value},e9 S w s M cs x vs→
 id≤(bf S id cs x).2.2∧ ∃ lam,bO P S w s (fun i=>id≤i∧i<(bf S id cs x).2.2) (bf S id cs x).2.1 lam M∧
  (bf S id cs x).1.all (br S)=true∧(∀ v ∈ (bf S id cs x).1, ∀ j ∈ aj S v, ∃ u ∈ (bf S id cs x).2.1,u.1=j)∧
  ∀ μ bx,Agree (bf S id cs x).2.1 lam μ bx→aF P S w s μ bx (bf S id cs x).1 vs
 | [],M,id,x,vs,h=>⟨Nat.le_refl _,fun _=>⟨0,0,0,0,true⟩,bO.nil h.1 _,rfl,by simp [bf],fun _ _ _=>h.2⟩
 | c::cs,M,id,x,vs,⟨M1,M2,v1,v2,hM,hvs,_,h1,h2⟩=>by
  obtain ⟨qt,l1,g1,s1,r1,j4⟩:=tL (P:=P) hS id h1
  obtain ⟨yh,l2,g2,s2,r2,j5⟩:=yx hS cs (bR S id c (bl.head x)).2.2 h2
  obtain ⟨g,hag⟩:=bO.both g1 g2 (fun i hi hi'=>by omega) hM
  refine ⟨Nat.le_trans qt yh,_,g.weaken (fun i hi=> ?_), ?_, ?_, ?_⟩
  · show id≤i∧i<(bf S (bR S id c (bl.head x)).2.2 cs (bl.tail x)).2.2
    rcases hi with hi | hi
    · exact ⟨hi.1,Nat.lt_of_lt_of_le hi.2 yh⟩
    · exact ⟨Nat.le_trans qt hi.1,hi.2⟩
  · show ((bR S id c (bl.head x)).1++(bf S (bR S id c (bl.head x)).2.2 cs (bl.tail x)).1).all (br S)=true
    rw [List.all_append,s1,s2]; rfl
  · intro v hv j hj
    rcases List.mem_append.1 hv with hv | hv
    · obtain ⟨u,hu,he⟩:=r1 v hv j hj
      exact ⟨u,List.mem_append.2 (.inl hu),he⟩
    · obtain ⟨u,hu,he⟩:=r2 v hv j hj
      exact ⟨u,List.mem_append.2 (.inr hu),he⟩
  · intro μ bx ha
    obtain ⟨a1,a2⟩:=hag μ bx ha
    rw [hvs]
    exact aF.append P S (j4 μ bx a1) (j5 μ bx a2)
end
end Go.Sy
namespace Go.Sy
section
variable {P:Program} {S:aN}
theorem oC: ∀ (us:aG S.C) (bx:Bx S.C) {i:Nat},(∀ u ∈ us,u.1≠i)→ai bx us i=bx i
 | [],_,_,_=>rfl
 | u::us,bx,i,h=>(oC us _ fun u' aI=>h u' (by simp [aI])).trans (aY _ _ (Ne.symm (h u (by simp))))
theorem vl: ∀ (us:aG S.C) (bx:Bx S.C),(∀ u ∈ us, ∀ u' ∈ us,u.1=u'.1→u=u')→ ∀ u ∈ us,ai bx us u.1=some u.2
 | [],_,_,_,h=>by simp at h
 | v::us,bx,h1,u,hu=>by
  by_cases e: ∃ u' ∈ us,u'.1=u.1
  · obtain ⟨u',aI,e⟩:=e
    have :u'=u:=h1 u' (by simp [aI]) u hu e
    subst this
    exact vl us _ (fun a ha b hb=>h1 a (by simp [ha]) b (by simp [hb])) u' aI
  · rcases List.mem_cons.1 hu with rfl | hu
    · show ai (ah bx u.1 (some u.2)) us u.1=some u.2
      rw [oC us _ fun u' aI he=>e ⟨u',aI,he⟩,aL]
    · exact absurd ⟨u,hu,rfl⟩ e
theorem kF {v c:Value} (h:v.cells.toList= [c]) (ha:isAgg v=false):v=c:=by
 rw [ay.ig (t:= .bool) ha rfl] at h
 simpa using h
theorem lY (cs:List CK): ∀ (id:Nat) (x:bl S.C cs) (n:Nat),(bf S id cs x).2.2+n=id+cs.foldl oneMore n:=by
 induction cs with
 | nil=>intro id x n; rfl
 | cons c cs ih=>
  intro id x n
  have :=ih (bR S id c (bl.head x)).2.2 (bl.tail x)
  simp only [bf,List.foldl_cons]
  cases c with
  | data t=>exact this n
  | aT e=>have :=this (n+1); simp only [bR,oneMore] at this ⊢; omega
  | aH e=>have :=this (n+1); simp only [bR,oneMore] at this ⊢; omega
theorem iT {w:World} {s:St} {μ:Nat→Loc} {bx:Bx S.C} {V:V S.C} {v:Value} (h:bn P S w s μ bx V v):RV P S w s μ bx V v:=by
 cases V <;> first | exact h | exact (h:False).elim
theorem nN (hS:ct S) {w:World} {s M:St} (id:Nat) {cs:List CK} {x:bl S.C cs} {v:Value} (h:c7 S w s M cs x v):
 ∃ lam,bO P S w s (fun i=>id≤i∧i<(bf S (id+1) cs x).2.2) ((id, .cells (bf S (id+1) cs x).1)::(bf S (id+1) cs x).2.1) lam M∧
  id<(bf S (id+1) cs x).2.2∧
  ∀ μ bx,Agree ((id, .cells (bf S (id+1) cs x).1)::(bf S (id+1) cs x).2.1) lam μ bx→bn P S w s μ bx (.ptr id 0) v:=by
 obtain ⟨b,o,ds,M',rfl,b6,gN,hM,hcs⟩:=h
 obtain ⟨le,l2,g2,s2,r2,j5⟩:=yx (P:=P) hS cs (id+1) hcs
 have hne: ∀ u ∈ (bf S (id+1) cs x).2.1,u.1≠id:=fun u hu e=>by have :=(g2.dX u hu).1; omega
 let lam:Nat→Loc:=fun i=>if i=id then ⟨b,o,ds.length,0,false⟩ else l2 i
 have e1:lam id=⟨b,o,ds.length,0,false⟩:=if_pos rfl
 have e2: ∀ u ∈ (bf S (id+1) cs x).2.1,lam u.1=l2 u.1:=fun u hu=>if_neg (hne u hu)
 have hag: ∀ μ bx,Agree ((id, .cells (bf S (id+1) cs x).1)::(bf S (id+1) cs x).2.1) lam μ bx→Agree (bf S (id+1) cs x).2.1 l2 μ bx:=
  fun μ bx h u hu=>⟨(h u (by simp [hu])).1,(h u (by simp [hu])).2.trans (e2 u hu)⟩
 refine ⟨lam,⟨?_, ?_, ?_, ?_, ?_, ?_, ?_⟩,by omega, ?_⟩
 · intro u hu
   rcases List.mem_cons.1 hu with rfl | hu
   · exact ⟨Nat.le_refl _,by show id<_; omega⟩
   · have :=g2.dX u hu; omega
 · intro u hu u' aI he
   rcases List.mem_cons.1 hu with rfl | hu <;> rcases List.mem_cons.1 aI with rfl | aI
   · rfl
   · exact absurd he.symm (hne u' aI)
   · exact absurd he (hne u hu)
   · exact g2.one u hu u' aI he
 · intro μ bx ha u hu
   rcases List.mem_cons.1 hu with rfl | hu
   · show RB P S w s μ bx (lam id) (.cells _)
     rw [e1]
     have hr:=j5 μ bx (hag μ bx ha)
     exact ⟨s2,(aF.length P S hr),b6,ds,gN,hr⟩
   · rw [e2 u hu]
     exact g2.rb μ bx (hag μ bx ha) u hu
 · intro bx u hu hb
   rcases List.mem_cons.1 hu with rfl | hu
   · unfold live; rw [hb]; trivial
   · exact g2.lv bx u hu hb
 · intro b' o'
   rw [hM.1 b' o',g2.aB]
   constructor
   · rintro (h | ⟨u,hu,hf⟩)
     · refine ⟨_,List.mem_cons_self, ?_⟩
       show (lam id).aB b' o'
       rw [e1]; exact h
     · exact ⟨u,by simp [hu],by rw [e2 u hu]; exact hf⟩
   · rintro ⟨u,hu,hf⟩
     rcases List.mem_cons.1 hu with rfl | hu
     · have hf:(lam id).aB b' o':=hf
       rw [e1] at hf; exact .inl hf
     · rw [e2 u hu] at hf; exact .inr ⟨u,hu,hf⟩
 · intro u hu u' aI hn b' o' hf hf'
   rcases List.mem_cons.1 hu with rfl | hu <;> rcases List.mem_cons.1 aI with rfl | aI
   · exact hn rfl
   · have hf:(lam id).aB b' o':=hf
     rw [e1] at hf; rw [e2 u' aI] at hf'
     exact hM.2 b' o' hf ((g2.aB b' o').2 ⟨u',aI,hf'⟩)
   · have hf':(lam id).aB b' o':=hf'
     rw [e1] at hf'; rw [e2 u hu] at hf
     exact hM.2 b' o' hf' ((g2.aB b' o').2 ⟨u,hu,hf⟩)
   · rw [e2 u hu] at hf; rw [e2 u' aI] at hf'
     exact g2.cG u hu u' aI hn b' o' hf hf'
 · intro u hu vs hvs v hv j hj
   rcases List.mem_cons.1 hu with rfl | hu
   · rcases hvs with hvs | hvs
     · cases hvs
       obtain ⟨u',aI,he⟩:=r2 v hv j hj
       exact ⟨u',by simp [aI],he⟩
     · cases hvs
   · obtain ⟨u',aI,he⟩:=g2.ref u hu vs hvs v hv j hj
     exact ⟨u',by simp [aI],he⟩
 · intro μ bx ha
   have :=(ha (id, .cells (bf S (id+1) cs x).1) (by simp)).2
   dsimp only at this
   show _=_
   rw [this,e1]
   rfl
theorem vW {w:World} {s M:St} (i j:Nat) (hne:j≠i) (L:Loc) (h0:L.o=0) (h2:L.n=2) {x:List UInt8} {v:Value} (hv:v= .pointer (some ⟨L.b,L.o,none⟩)) (h:rV S w M x v):
 ∃ lam,lam i=L∧bO P S w s (fun k=>k=i∨k=j) [(i, .aV j),(j, .buf x)] lam M:=by
 obtain ⟨b,R,hb,hh,hr,hM⟩:=h
 rw [hb] at hv
 have hb':b=L.b:=by
  simp only [Value.pointer.injEq,Option.some.injEq,Addr.mk.injEq] at hv
  exact hv.1
 subst hb'
 let lam:Nat→Loc:=fun k=>if k=i then L else R
 have e1:lam i=L:=if_pos rfl
 have e2:lam j=R:=if_neg hne
 have fL: ∀ b' o',(Loc.mk L.b 0 2 0 false).aB b' o'↔L.aB b' o':=fun b' o'=>by
  unfold Loc.aB
  show b'=L.b∧0≤o'∧o'<0+2↔b'=L.b∧L.o≤o'∧o'<L.o+L.n
  rw [h0,h2]
 refine ⟨lam,e1,⟨?_, ?_, ?_, ?_, ?_, ?_, ?_⟩⟩
 · intro u hu
   simp only [List.mem_cons,List.not_mem_nil,or_false] at hu
   rcases hu with rfl | rfl
   · exact .inl rfl
   · exact .inr rfl
 · intro u hu u' aI he
   simp only [List.mem_cons,List.not_mem_nil,or_false] at hu aI
   rcases hu with rfl | rfl <;> rcases aI with rfl | rfl
   · rfl
   · exact absurd he.symm hne
   · exact absurd he hne
   · rfl
 · intro μ bx ha u hu
   have a1:=ha (i, .aV j) (by simp)
   have a2:=ha (j, .buf x) (by simp)
   simp only [List.mem_cons,List.not_mem_nil,or_false] at hu
   rcases hu with rfl | rfl
   · show RB P S w s μ bx (lam i) (.aV j)
     rw [e1]
     refine ⟨h0,h2,by rw [a2.1]; simp,_,hh,fun l hl=> ?_⟩
     rw [a2.1] at hl
     cases hl
     rw [a2.2,e2]
   · show RB P S w s μ bx (lam j) (.buf x)
     rw [e2]
     exact hr
 · intro bx u hu hb
   simp only [List.mem_cons,List.not_mem_nil,or_false] at hu
   rcases hu with rfl | rfl <;> · unfold live; rw [hb]; trivial
 · intro b' o'
   rw [hM.1 b' o',fL]
   constructor
   · rintro (h | h)
     · exact ⟨(i, .aV j),by simp,by show (lam i).aB b' o'; rw [e1]; exact h⟩
     · exact ⟨(j, .buf x),by simp,by show (lam j).aB b' o'; rw [e2]; exact h⟩
   · rintro ⟨u,hu,hf⟩
     simp only [List.mem_cons,List.not_mem_nil,or_false] at hu
     rcases hu with rfl | rfl
     · have hf:(lam i).aB b' o':=hf
       rw [e1] at hf; exact .inl hf
     · have hf:(lam j).aB b' o':=hf
       rw [e2] at hf; exact .inr hf
 · intro u hu u' aI hn b' o' hf hf'
   simp only [List.mem_cons,List.not_mem_nil,or_false] at hu aI
   rcases hu with rfl | rfl <;> rcases aI with rfl | rfl
   · exact hn rfl
   · have hf:(lam i).aB b' o':=hf
     have hf':(lam j).aB b' o':=hf'
     rw [e1] at hf; rw [e2] at hf'
     exact hM.2 b' o' ((fL _ _).2 hf) hf'
   · have hf':(lam i).aB b' o':=hf'
     have hf:(lam j).aB b' o':=hf
     rw [e1] at hf'; rw [e2] at hf
     exact hM.2 b' o' ((fL _ _).2 hf') hf
   · exact hn rfl
 · intro u hu vs hvs
   simp only [List.mem_cons,List.not_mem_nil,or_false] at hu
   rcases hu with rfl | rfl <;> rcases hvs with hvs | hvs <;> cases hvs
theorem HF (hS:ct S) {w:World} {s M:St} (id:Nat) {k:K} (hk:(match k with | .opt _=>false | _=>true)=true) {x:k.den S.C} {v:Value} (h:iR P S w s M k x v):
 ∃ lam,bO P S w s (fun i=>id≤i∧i<id+jQ k) (dH S id k x).2 lam M∧(∀ j ∈ av S (dH S id k x).1, ∃ u ∈ (dH S id k x).2,u.1=j)∧
  ∀ μ bx,Agree (dH S id k x).2 lam μ bx→RV P S w s μ bx (dH S id k x).1 v:=by
 cases k with
 | val c=>
  obtain ⟨h1,h2⟩:=h
  obtain ⟨le,lam,g,s1,r1,rv⟩:=tL (P:=P) hS id h1
  cases c with
  | data t=>
   obtain ⟨hM,n,hn⟩:=h1
   exact ⟨fun _=>⟨0,0,0,0,true⟩,bO.nil hM _,by simp [dH,av,aj],fun μ bx _=>⟨h2,n,hn⟩⟩
  | aT e=>
   refine ⟨lam,g,fun j hj=>r1 (.aT id e x) (by simp [bR]) j hj,fun μ bx ha=> ?_⟩
   obtain ⟨c,r,hc,hv,hr⟩:=rv μ bx ha
   cases hr
   rw [kF hc h2]
   exact iT hv
  | aH e=>
   refine ⟨lam,g,fun j hj=>r1 (.aH id) (by simp [bR]) j hj,fun μ bx ha=> ?_⟩
   obtain ⟨c,r,hc,hv,hr⟩:=rv μ bx ha
   cases hr
   rw [kF hc h2]
   exact iT hv
 | obj cs=>
  obtain ⟨lam,g,le,rv⟩:=nN (P:=P) hS id h
  refine ⟨lam,g.weaken fun i hi=> ?_,fun j hj=>⟨(id, .cells (bf S (id+1) cs x).1),by simp [dH],by simp [dH,av,aj] at hj; exact hj.symm⟩,fun μ bx ha=>iT (rv μ bx ha)⟩
  have :=lY cs (id+1) x 0
  simp only [jQ]
  omega
 | opt cs=>cases hk
 | bD t cs=>
  obtain ⟨b0,o0,p,M1,M2,hv,cC,hM,h1,h2⟩:=h
  obtain ⟨l1,g1,qt,j4⟩:=nN (P:=P) hS id h1
  obtain ⟨l2,g2,yh,j5⟩:=nN (P:=P) hS (id+1) h2
  have hz:=lY cs (id+1+1) x.2 0
  obtain ⟨g,hag⟩:=bO.both g1 g2 (fun i q1 q2=>by
   have K1:i<id+1:=q1.2
   omega) hM
  refine ⟨_,g.weaken fun i hi=> ?_,fun j hj=> ?_,fun μ bx ha=> ?_⟩
  · simp only [jQ]
    rcases hi with hi | hi
    · have K1:i<id+1:=hi.2
      omega
    · omega
  · have hj:j ∈ [id+1,id]:=hj
    simp only [List.mem_cons,List.not_mem_nil,or_false] at hj
    rcases hj with rfl | rfl
    · exact ⟨(id+1,_),List.mem_cons_of_mem _ (List.mem_cons_self),rfl⟩
    · exact ⟨(j,_),List.mem_cons_self,rfl⟩
  · obtain ⟨a1,a2⟩:=hag μ bx ha
    have e1:Value.pointer (some p)= .pointer (some ⟨(μ id).b,(μ id).o+0,none⟩):=j4 μ bx a1
    have e2:Value.pointer (some ⟨b0,o0+1,none⟩)= .pointer (some ⟨(μ (id+1)).b,(μ (id+1)).o+0,none⟩):=j5 μ bx a2
    cases e1
    simp only [Value.pointer.injEq,Option.some.injEq,Addr.mk.injEq] at e2
    exact ⟨b0,o0,hv,cC,e2.1.symm,by omega⟩
 | bW cs=>
  obtain ⟨p,hv,h⟩:=h
  obtain ⟨lam,g,le,rv⟩:=nN (P:=P) hS id h
  refine ⟨lam,g.weaken fun i hi=> ?_,fun j hj=>⟨(id, .cells (bf S (id+1) cs x).1),by simp [dH],by simp [dH,av,aj] at hj; exact hj.symm⟩,fun μ bx ha=>iT ?_⟩
  · have :=lY cs (id+1) x 0
    simp only [jQ]
    omega
  · have :Value.pointer (some p)= .pointer (some ⟨(μ id).b,(μ id).o+0,none⟩):=rv μ bx ha
    show v= .slice (some ⟨(μ id).b,(μ id).o,none⟩) (CK.bT S cs) (CK.bT S cs)
    rw [hv]
    cases this
    rfl
 | err=>exact ⟨fun _=>⟨0,0,0,0,true⟩,bO.nil h.1 _,by simp [dH,av,aj],fun μ bx _=>h.2⟩
 | aV=>
  have h:rV S w M x v:=h
  obtain ⟨b,R,hb,_⟩:=Iff.mp Iff.rfl h
  obtain ⟨lam,e,g⟩:=vW (P:=P) (s:=s) id (id+1) (by omega) ⟨b,0,2,0,false⟩ rfl rfl hb h
  refine ⟨lam,g.weaken fun i hi=> ?_,fun j hj=>⟨(id, .aV (id+1)),by simp [dH],by simp [dH,av,aj] at hj; exact hj.symm⟩,fun μ bx ha=>iT ?_⟩
  · simp only [jQ]; omega
  · have a1:=(ha (id, .aV (id+1)) (by simp [dH])).2
    show v= .pointer (some ⟨(μ id).b,(μ id).o+0,none⟩)
    rw [hb,show μ id=lam id from a1,e]
 | nil=>exact ⟨fun _=>⟨0,0,0,0,true⟩,bO.nil h.1 _,by simp [dH,av,aj],fun μ bx _=>h.2⟩
 | ro t=>exact ⟨fun _=>⟨0,0,0,0,true⟩,bO.nil h.1 _,by simp [dH,av,aj],fun μ bx _=>h.2⟩
 | fn a r=>exact ⟨fun _=>⟨0,0,0,0,true⟩,bO.nil h.1 _,by simp [dH,av,aj],fun μ bx _=>h.2⟩
def oS (a:Act):List Nat→List Value→Prop
 | [],vs=>vs= []
 | t::sl,vs=> ∃ v r,vs=v::r∧a.tmps.getD t Go.undef=v∧oS a sl r
theorem Bn (hS:ct S) {w:World} {s:St} (a:Act): ∀ (ks:List K) (sl:List Nat) {M:St} {x:Ks S.C ks} {vs:List Value} (env:Env S.C),gW sl ks=true→bL P S w s M ks x vs→oS a sl vs→
 ∃ us lam,bO P S w s (fun i=> ∃ t ∈ sl,16*t≤i∧i<16*t+16) us lam M∧(dR S ks sl x env).bx=ai env.bx us∧
  (∀ t,t ∉ sl→(dR S ks sl x env).tm t=env.tm t)∧
  ∀ t ∈ sl,(∀ j ∈ av S ((dR S ks sl x env).tm t), ∃ u ∈ us,u.1=j)∧ ∀ μ bx,Agree us lam μ bx→RV P S w s μ bx ((dR S ks sl x env).tm t) (a.tmps.getD t Go.undef)
 | [],[],M,x,vs,env,_,h,_=>⟨[],fun _=>⟨0,0,0,0,true⟩,bO.nil h.1 _,rfl,fun _ _=>rfl,by simp⟩
 | [],_::_,_,_,_,_,h,_,_=>by cases h
 | _::_,[],_,_,_,_,h,_,_=>by cases h
 | k::ks,t::sl,M,x,vs,env,hok,⟨M1,M2,v,r,hM,hvs,h1,h2⟩,⟨v',r',qh,ht,eC⟩=>by
  simp only [gW,Bool.and_eq_true,Bool.not_eq_true'] at hok
  obtain ⟨⟨⟨o1,o2⟩,o3⟩,o4⟩:=hok
  have ot:t ∉ sl:=by
   intro hm
   have :=List.contains_iff_mem.2 hm
   rw [o2] at this; cases this
  rw [hvs] at qh
  cases qh
  obtain ⟨l1,g1,r1,j4⟩:=HF (P:=P) hS (16*t) o3 h1
  obtain ⟨jw,l2,g2,hb,hto,tg⟩:=Bn hS a ks sl (env.apply (some t) (dH S (16*t) k (Ks.head x)).1 (dH S (16*t) k (Ks.head x)).2) o4 h2 eC
  obtain ⟨g,hag⟩:=bO.both (g1.weaken (I':=fun i=>16*t≤i∧i<16*t+16) fun i hi=>⟨hi.1,by have :=Nat.le_of_ble_eq_true o1; omega⟩) g2 (fun i hi ⟨t',ht',h1,h2⟩=>ot (by
   have :t'=t:=by omega
   exact this▸ht')) hM
  refine ⟨_,_,g.weaken fun i hi=> ?_, ?_, ?_, ?_⟩
  · rcases hi with hi | ⟨t',ht',hi⟩
    · exact ⟨t,by simp,hi⟩
    · exact ⟨t',by simp [ht'],hi⟩
  · rw [fN]; exact hb
  · intro t' ht'
    have e1:=hto t' (fun h=>ht' (by simp [h]))
    rw [show (dR S (k::ks) (t::sl) x env).tm t'=_ from e1]
    exact aY _ _ (fun h=>ht' (by simp [h]))
  · intro t' ht'
    by_cases e:t'=t
    · subst e
      have e1:=hto t' ot
      rw [show (dR S (k::ks) (t'::sl) x env).tm t'=_ from e1]
      rw [show (env.apply (some t') (dH S (16*t') k (Ks.head x)).1 (dH S (16*t') k (Ks.head x)).2).tm t'=(dH S (16*t') k (Ks.head x)).1 from aL _ _ _]
      refine ⟨fun j hj=> ?_,fun μ bx ha=> ?_⟩
      · obtain ⟨u,hu,he⟩:=r1 j hj
        exact ⟨u,List.mem_append.2 (.inl hu),he⟩
      · rw [ht]; exact j4 μ bx (hag μ bx ha).1
    · have Ja:t' ∈ sl:=by rcases List.mem_cons.1 ht' with h | h; exact absurd h e; exact h
      obtain ⟨h1,h2⟩:=tg t' Ja
      refine ⟨fun j hj=> ?_,fun μ bx ha=>h2 μ bx (hag μ bx ha).2⟩
      obtain ⟨u,hu,he⟩:=h1 j hj
      exact ⟨u,List.mem_append.2 (.inr hu),he⟩
theorem Bm: ∀ (ks:List K) (sl:List Nat) (x:Ks S.C ks) (env:Env S.C),(dR S ks sl x env).df=env.df
 | [],_,_,_=>rfl
 | _::_,[],_,_=>rfl
 | k::r,t::sl,x,env=>Bm r sl (Ks.tail x) _
theorem Bo (hS:ct S) {w0:World} {M0 s0:St} {dq:List Deferred} {w:World} {s M:St} {a:Act} {ks:List K} {sl:List Nat} {x:Ks S.C ks} {vs:List Value}
 (hok:gW sl ks=true) (h:bL P S w s M ks x vs) (eC:oS a sl vs) (hs: ∀ b o,s b o→b<w.heap.size∧(s0 b o∨M0 b o∨w0.heap.size≤b)∧ ¬ M b o)
 (hM: ∀ b o,M b o→w0.heap.size≤b∨M0 b o) (hc:aW w0 w M0) {df:Bool} (hd:a.defers=cond df dq []) (hG:fO S w0 M0): ∃ μ,Inv P S w0 M0 s0 dq (dR S ks sl x (Env.none S df)) a w μ:=by
 obtain ⟨us,lam,g,hb,hto,tg⟩:=Bn (P:=P) hS a ks sl (Env.none S df) hok h eC
 have hin: ∀ i B,(dR S ks sl x (Env.none S df)).bx i=some B→(i,B) ∈ us:=by
  intro i B hi
  rw [hb] at hi
  by_cases e: ∃ u ∈ us,u.1=i
  · obtain ⟨u,hu,rfl⟩:=e
    rw [vl us _ g.one u hu] at hi
    cases hi
    exact hu
  · rw [oC us _ fun u hu he=>e ⟨u,hu,he⟩] at hi
    cases hi
 have hag:Agree us lam lam (dR S ks sl x (Env.none S df)).bx:=fun u hu=>⟨by rw [hb]; exact vl us _ g.one u hu,rfl⟩
 have bG: ∀ i,live S (dR S ks sl x (Env.none S df)).bx i→ ∃ u ∈ us,u.1=i:=by
  intro i hi
  unfold live at hi
  cases e:(dR S ks sl x (Env.none S df)).bx i with
  | none=>rw [e] at hi; exact hi.elim
  | some B=>exact ⟨(i,B),hin i B e,rfl⟩
 have hl:bC w s w (aC S w0 M0 s0 (dR S ks sl x (Env.none S df)).bx lam w):=fun b o I9=>by
  obtain ⟨h1,h2,h3⟩:=hs b o I9
  refine ⟨⟨h1,h2,fun i hi hf=> ?_⟩,rfl⟩
  obtain ⟨u,hu,rfl⟩:=bG i hi
  exact h3 ((g.aB b o).2 ⟨u,hu,hf⟩)
 have bZ: ∀ i B0,(dR S ks sl x (Env.none S df)).bx i=some B0→ ∃ B,(dR S ks sl x (Env.none S df)).bx i=some B∧cc S (lam i) (lam i) B0 B:=fun i B hi=>⟨B,hi,cc.refl S _ _⟩
 have nH: ∀ j,(∃ u ∈ us,u.1=j)→(dR S ks sl x (Env.none S df)).bx j≠none:=by
  rintro j ⟨u,hu,rfl⟩
  rw [(hag u hu).1]; simp
 refine ⟨lam,⟨fun t=> ?_,fun i B hi=> ?_,fun i j hij li lj b o fi fj=> ?_,fun i li b o fi=> ?_,fun t i hi=> ?_,fun i vs' hvs v hv j hj=> ?_,hc,by rw [Bm]; exact hd,hG⟩⟩
 · by_cases ht:t ∈ sl
   · obtain ⟨h1,h2⟩:=tg t ht
     exact RV.step P S hl bZ (fun i hi=>nH i (h1 i hi)) (h2 lam _ hag)
   · rw [hto t ht]; trivial
 · have hu:=hin i B hi
   have hr:=g.rb lam _ hag (i,B) hu
   cases B with
   | cells vs'=>
    obtain ⟨h1,h2,h3,cs,h4,h5⟩:=hr
    exact ⟨h1,h2,h3,cs,h4,aF.step P S hl bZ (fun v hv j hj=>nH j (g.ref _ hu vs' (.inl rfl) v hv j hj)) h5⟩
   | bw vs'=>
    obtain ⟨h1,cs,h4,h5⟩:=hr
    exact ⟨h1,cs,h4.later hl,aF.step P S hl bZ (fun v hv j hj=>nH j (g.ref _ hu vs' (.inr rfl) v hv j hj)) h5⟩
   | arr e l=>
    obtain ⟨h1,h2,h3,h4,h5⟩:=hr
    refine ⟨h1,h2,h3,h4,fun k y hk=> ?_⟩
    obtain ⟨ds,d1,d2,n,d3⟩:=h5 k y hk
    exact ⟨ds,d1,d2,n,d3.mono S hl (Nat.le_refl _)⟩
   | bp e l=>
    obtain ⟨h2,h3,h5⟩:=hr
    refine ⟨h2,h3,fun k y hk=> ?_⟩
    obtain ⟨ds,d1,d2,n,d3⟩:=h5 k y hk
    exact ⟨ds,d1,d2.later hl,n,d3.mono S hl (Nat.le_refl _)⟩
   | tail=>exact hr
   | dead=>trivial
   | aV j=>exact hr
   | buf l=>exact hr
 · obtain ⟨u,hu,rfl⟩:=bG i li
   obtain ⟨u',aI,rfl⟩:=bG j lj
   exact g.cG u hu u' aI hij b o fi fj
 · obtain ⟨u,hu,rfl⟩:=bG i li
   exact hM b o ((g.aB b o).2 ⟨u,hu,fi⟩)
 · by_cases ht:t ∈ sl
   · exact nH i ((tg t ht).1 i hi)
   · rw [hto t ht] at hi
     simp [Env.none,av,aj] at hi
 · rcases hvs with hvs | hvs
   · exact nH j (g.ref _ (hin i _ hvs) vs' (.inl rfl) v hv j hj)
   · exact nH j (g.ref _ (hin i _ hvs) vs' (.inr rfl) v hv j hj)
end
end Go.Sy
namespace Go.Sy
def Tr.leaf {X:Type} :Tr X→X→Prop
 | .fail,_=>False
 | .ret y,x=>y=x
 | .ite p _ a b,x=>(p∧a.leaf x)∨(¬ p∧b.leaf x)
 | .bind _ m f,x=> ∃ y,m=some y∧(f y).leaf x
 | .opt _ m n s,x=>(m=none∧n.leaf x)∨ ∃ y,m=some y∧(s y).leaf x
theorem Tr.mz {X R:Type} : ∀ (t:Tr X) {k:X→Option R} {r:R},t.run k=some r→ ∃ x,t.leaf x∧k x=some r
 | .fail,_,_,h=>by cases h
 | .ret x,_,_,h=>⟨x,rfl,h⟩
 | .ite p i a b,k,r,h=>by
  by_cases hp:p
  · rw [Tr.run,if_pos hp] at h
    obtain ⟨x,h1,h2⟩:=Tr.mz a h
    exact ⟨x, .inl ⟨hp,h1⟩,h2⟩
  · rw [Tr.run,if_neg hp] at h
    obtain ⟨x,h1,h2⟩:=Tr.mz b h
    exact ⟨x, .inr ⟨hp,h1⟩,h2⟩
 | .bind _ m f,k,r,h=>by
  obtain ⟨y,hy,h⟩:=Option.bind_eq_some_iff.1 h
  obtain ⟨x,h1,h2⟩:=Tr.mz (f y) h
  exact ⟨x,⟨y,hy,h1⟩,h2⟩
 | .opt _ m n s,k,r,h=>by
  cases m with
  | none=>
   obtain ⟨x,h1,h2⟩:=Tr.mz n h
   exact ⟨x, .inl ⟨rfl,h1⟩,h2⟩
  | some y=>
   obtain ⟨x,h1,h2⟩:=Tr.mz (s y) h
   exact ⟨x, .inr ⟨y,rfl,h1⟩,h2⟩
theorem Tr.yj {X:Type} : ∀ (gs:List Gd) {t:Tr X} {x:X},(Tr.gd gs t).leaf x→(∀ g ∈ gs,g.p)∧t.leaf x
 | [],_,_,h=>⟨by simp,h⟩
 | g::gs,t,x,h=>by
  rcases h with ⟨h1,h2⟩ | ⟨_,h2⟩
  · obtain ⟨h3,h4⟩:=Tr.yj gs h2
    exact ⟨fun g' hg=>(List.mem_cons.1 hg).elim (fun e=>e▸h1) (h3 g'),h4⟩
  · exact h2.elim
section
variable {P:Program} {S:aN}
variable {w0:World} {M0 s0:St} {dq:List Deferred} {env:Env S.C} {a:Act} {w:World} {μ:Nat→Loc}
theorem Inv.tk (h:Inv P S w0 M0 s0 dq env a w μ) {aa:Bx S.C} (hk:Tk S env.bx aa):Inv P S w0 M0 s0 dq { env with bx:=aa } a w μ:=by
 have hf: ∀ i, ¬ aa i=env.bx i→live S aa i→False:=fun i hi hl=>hi (hk.cS hl)
 refine h.step (T:=fun _ _=>False) (U:=fun i=> ¬ aa i=env.bx i) (aW.refl w _) (fun _ _ h=>h.elim) (fun i hi=>⟨Classical.not_not.1 hi,rfl⟩)
  (fun i hi hl=>(hf i hi hl).elim) (fun i B0 bq=> ?_) (fun i _ hi _ _ hl=>(hf i hi hl).elim) (fun i B hi hB=> ?_) (fun i vs hi hvs=> ?_)
 · rcases hk i with e | ⟨e,hl⟩ | ⟨e,l,e1,e2⟩
   · exact ⟨B0,e.trans bq,cc.refl S _ _⟩
   · refine ⟨_,e, ?_⟩
     cases B0 <;> rfl
   · rw [bq] at e1
     cases e1
     exact ⟨_,e2,rfl,rfl,rfl⟩
 · rcases hk i with e | ⟨e,_⟩ | ⟨e,l,e1,e2⟩
   · exact absurd e hi
   · rw [e] at hB; cases hB; trivial
   · rw [e2] at hB
     cases hB
     have bG:live S env.bx i:=by unfold live; rw [e1]; trivial
     obtain ⟨g1,g2,g3,g4,h3⟩:=h.bE i _ e1
     have hl:bC w (aC S w0 M0 s0 env.bx μ w) w (aC S w0 M0 s0 aa μ w):=h.later (T:=fun _ _=>False) (U:=fun i=> ¬ aa i=env.bx i) (aW.refl w _) (fun _ _ h=>h.elim) (fun i hi=>⟨Classical.not_not.1 hi,rfl⟩)
      (fun i hi hl=>(hf i hi hl).elim)
     refine ⟨g2,g3,fun k x pY=> ?_⟩
     obtain ⟨ds,d1,d2,n,d3⟩:=h3 k x pY
     refine ⟨ds,d1,fun j u hj=>⟨d2 j u hj, ?_⟩,n,d3.mono S hl (Nat.le_refl _)⟩
     have hj':=(List.getElem?_eq_some_iff.1 hj).1
     have nG:=(List.getElem?_eq_some_iff.1 pY).1
     have fe:(μ i).aB (μ i).b ((μ i).o+k*Ty.sz S e+j):=by
      refine ⟨rfl,by omega, ?_⟩
      have :(k+1)*Ty.sz S e≤(μ i).cap*Ty.sz S e:=Nat.mul_le_mul_right _ (by omega)
      rw [Nat.add_mul,Nat.one_mul] at this
      omega
     refine ⟨(iC P S (h.bE i) bG fe).1,(h.own i bG _ _ fe).elim (fun h=> .inr (.inr h)) (fun h=> .inr (.inl h)),fun j pX hf'=> ?_⟩
     have hj0:=(dr S (hk.cS pX)).1 pX
     refine h.cG j i (fun e'=> ?_) hj0 bG _ _ hf' fe
     subst e'
     unfold live at pX
     rw [e2] at pX
     exact pX
 · rcases hk i with e | ⟨e,_⟩ | ⟨e,l,e1,e2⟩
   · exact absurd e hi
   · rcases hvs with hvs | hvs <;> · rw [e] at hvs; cases hvs
   · rcases hvs with hvs | hvs <;> · rw [e2] at hvs; cases hvs
theorem Inv.yz (h:Inv P S w0 M0 s0 dq env a w μ) {w':World} (hw:aW w w' (fun _ _=>False)) {i:Nat} (hi:env.bx i=none) {B:cR S.C} {L:Loc}
 (hf: ∀ b o,L.aB b o→w.heap.size≤b)
 (hb:bC w (aC S w0 M0 s0 env.bx μ w) w' (aC S w0 M0 s0 (ah env.bx i (some B)) (ah μ i L) w')→
  (∀ V v,RV P S w (aC S w0 M0 s0 env.bx μ w) μ env.bx V v→(∀ j ∈ av S V,env.bx j≠none)→RV P S w' (aC S w0 M0 s0 (ah env.bx i (some B)) (ah μ i L) w') (ah μ i L) (ah env.bx i (some B)) V v)→
  (∀ V v,bn P S w (aC S w0 M0 s0 env.bx μ w) μ env.bx V v→(∀ j ∈ aj S V,env.bx j≠none)→bn P S w' (aC S w0 M0 s0 (ah env.bx i (some B)) (ah μ i L) w') (ah μ i L) (ah env.bx i (some B)) V v)→
  RB P S w' (aC S w0 M0 s0 (ah env.bx i (some B)) (ah μ i L) w') (ah μ i L) (ah env.bx i (some B)) L B)
 (hr: ∀ vs,(B= .cells vs∨B= .bw vs)→ ∀ v ∈ vs, ∀ j ∈ aj S v,env.bx j≠none):
 Inv P S w0 M0 s0 dq { env with bx:=ah env.bx i (some B) } a w' (ah μ i L)∧
  bC w (aC S w0 M0 s0 env.bx μ w) w' (aC S w0 M0 s0 (ah env.bx i (some B)) (ah μ i L) w')∧
  (∀ V v,RV P S w (aC S w0 M0 s0 env.bx μ w) μ env.bx V v→(∀ j ∈ av S V,env.bx j≠none)→RV P S w' (aC S w0 M0 s0 (ah env.bx i (some B)) (ah μ i L) w') (ah μ i L) (ah env.bx i (some B)) V v):=by
 have hU: ∀ j, ¬ j=i→ah env.bx i (some B) j=env.bx j∧ah μ i L j=μ j:=fun j hj=>⟨aY _ _ hj,aY _ _ hj⟩
 have Cj: ∀ j,j=i→live S (ah env.bx i (some B)) j→ ∀ b o,(ah μ i L j).aB b o→w.heap.size≤b∨ ∃ k,k=i∧live S env.bx k∧(μ k).aB b o:=by
  rintro j rfl _ b o hfo
  rw [aL] at hfo
  exact .inl (hf b o hfo)
 have hc: ∀ j B0,env.bx j=some B0→ ∃ B',ah env.bx i (some B) j=some B'∧cc S (μ j) (ah μ i L j) B0 B':=by
  intro j B0 hj
  have :j≠i:=fun e=>by subst e; rw [hi] at hj; cases hj
  rw [aY _ _ this,aY _ _ this]
  exact ⟨B0,hj,cc.refl S _ _⟩
 have hl:=h.later (T:=fun _ _=>False) (U:=fun j=>j=i) hw (fun _ _ h=>h.elim) hU Cj
 have jL:=fun V v (hv:RV P S w (aC S w0 M0 s0 env.bx μ w) μ env.bx V v) hr=>RV.step P S hl hc hr hv
 have HU:=fun V v (hv:bn P S w (aC S w0 M0 s0 env.bx μ w) μ env.bx V v) hr=>bn.step P S hl hc hr hv
 refine ⟨h.step (T:=fun _ _=>False) (U:=fun j=>j=i) hw (fun _ _ h=>h.elim) hU Cj hc ?_ ?_ ?_,hl,jL⟩
 · rintro j k rfl rfl hne; exact absurd rfl hne
 · rintro j B' rfl eO
   rw [aL] at eO
   cases eO
   rw [aL]
   exact hb hl jL HU
 · rintro j vs rfl hvs v hv k hk
   rw [aL] at hvs
   have h0:=hr vs (by rcases hvs with hvs | hvs <;> · cases hvs; simp) v hv k hk
   obtain ⟨B0,bq⟩:=Option.ne_none_iff_exists'.1 h0
   obtain ⟨B',eO,_⟩:=hc k B0 bq
   rw [eO]; simp
theorem bg (h:Inv P S w0 M0 s0 dq env a w μ) {x:Operand} {V:V S.C} (hx:aK S env.tm x=some V):
 RV P S w (aC S w0 M0 s0 env.bx μ w) μ env.bx V (a.eval x)∧ ∀ i ∈ av S V,env.bx i≠none:=by
 cases x with
 | tmp t=>cases hx; exact ⟨h.gi t,h.ref t⟩
 | const v=>
  simp only [aK,Bb] at hx
  split at hx <;> cases hx
  · exact ⟨⟨rfl,1,rfl⟩,by simp [av,aj]⟩
  · exact ⟨⟨rfl,1,rfl⟩,by simp [av,aj]⟩
  · rename_i s
    refine ⟨⟨rfl,1, ?_⟩,by simp [av,aj]⟩
    show [Value.string s]= [Value.string ⟨s.data.toList.toArray⟩]
    cases s; simp
  · exact ⟨rfl,by simp [av,aj]⟩
  · exact ⟨rfl,by simp [av,aj]⟩
 | func f=>cases hx; exact ⟨⟨#[],rfl,rfl⟩,by simp [av]⟩
 | global g=>cases hx
theorem wp_pure (h:Inv P S w0 M0 s0 dq env a w μ) {o:Oper} {K:Act→World→Prop} {Q:Exit→Act→World→Prop} {V:V S.C} {v:Value}
 (hrun:(execOp a.eval o).run P w= .ok (.value v) w) (hd: ∀ d,o.dst=some d→d<a.tmps.size)
 (hv:RV P S w (aC S w0 M0 s0 env.bx μ w) μ env.bx V v) (hr: ∀ i ∈ av S V,env.bx i≠none)
 (hK: ∀ a' w' μ',Inv P S w0 M0 s0 dq (env.apply o.dst V []) a' w' μ'→a'.tmps.size=a.tmps.size→K a' w'):o.wp P a w K Q:=by
 unfold Oper.wp
 rw [hrun]
 refine hK _ w μ (h.put hd hv hr) ?_
 cases o.dst <;> simp [Act.put]
theorem OD (h:Inv P S w0 M0 s0 dq env a w μ) {o:Oper} {K:Act→World→Prop} {Q:Exit→Act→World→Prop} {V:V S.C} {v:Value} {us:aG S.C}
 (hrun:(execOp a.eval o).run P w= .ok (.value v) w) (hd: ∀ d,o.dst=some d→d<a.tmps.size) (hk:Tk S env.bx (ai env.bx us))
 (hv:Inv P S w0 M0 s0 dq { env with bx:=ai env.bx us } a w μ→RV P S w (aC S w0 M0 s0 (ai env.bx us) μ w) μ (ai env.bx us) V v) (hr: ∀ i ∈ av S V,ai env.bx us i≠none)
 (hK: ∀ a' w' μ',Inv P S w0 M0 s0 dq (env.apply o.dst V us) a' w' μ'→a'.tmps.size=a.tmps.size→K a' w'):o.wp P a w K Q:=by
 unfold Oper.wp
 rw [hrun]
 have hI:=h.tk hk
 refine hK _ w μ (hI.put hd (hv hI) hr) ?_
 cases o.dst <;> simp [Act.put]
theorem Er {aa:Bx S.C} (hk:Tk S env.bx aa):bC w (aC S w0 M0 s0 env.bx μ w) w (aC S w0 M0 s0 aa μ w):=fun b o ⟨h1,h2,h3⟩=>
 ⟨⟨h1,h2,fun i hi=>h3 i ((dr S (hk.cS hi)).1 hi)⟩,rfl⟩
theorem lA (h:Inv P S w0 M0 s0 dq env a w μ) {o:Oper} {K:Act→World→Prop} {Q:Exit→Act→World→Prop} {w':World} {V:V S.C} {v:Value} {i:Nat} {B:cR S.C} {L:Loc}
 (hrun:(execOp a.eval o).run P w= .ok (.value v) w') (hd: ∀ d,o.dst=some d→d<a.tmps.size) (hw:aW w w' (fun _ _=>False)) (hi:env.bx i=none)
 (hf: ∀ b o,L.aB b o→w.heap.size≤b)
 (hb:bC w (aC S w0 M0 s0 env.bx μ w) w' (aC S w0 M0 s0 (ah env.bx i (some B)) (ah μ i L) w')→
  (∀ V v,RV P S w (aC S w0 M0 s0 env.bx μ w) μ env.bx V v→(∀ j ∈ av S V,env.bx j≠none)→RV P S w' (aC S w0 M0 s0 (ah env.bx i (some B)) (ah μ i L) w') (ah μ i L) (ah env.bx i (some B)) V v)→
  (∀ V v,bn P S w (aC S w0 M0 s0 env.bx μ w) μ env.bx V v→(∀ j ∈ aj S V,env.bx j≠none)→bn P S w' (aC S w0 M0 s0 (ah env.bx i (some B)) (ah μ i L) w') (ah μ i L) (ah env.bx i (some B)) V v)→
  RB P S w' (aC S w0 M0 s0 (ah env.bx i (some B)) (ah μ i L) w') (ah μ i L) (ah env.bx i (some B)) L B∧
  RV P S w' (aC S w0 M0 s0 (ah env.bx i (some B)) (ah μ i L) w') (ah μ i L) (ah env.bx i (some B)) V v)
 (hr: ∀ vs,(B= .cells vs∨B= .bw vs)→ ∀ v ∈ vs, ∀ j ∈ aj S v,env.bx j≠none) (hV: ∀ j ∈ av S V,j=i∨env.bx j≠none)
 (hK: ∀ a' w' μ',Inv P S w0 M0 s0 dq (env.apply o.dst V [(i,B)]) a' w' μ'→a'.tmps.size=a.tmps.size→K a' w'):o.wp P a w K Q:=by
 unfold Oper.wp
 rw [hrun]
 have qi:RV P S w' (aC S w0 M0 s0 (ah env.bx i (some B)) (ah μ i L) w') (ah μ i L) (ah env.bx i (some B)) V v:=by
  obtain ⟨_,hl,jL⟩:=h.yz hw hi hf (fun h1 h2 h3=>(hb h1 h2 h3).1) hr
  refine (hb hl jL (fun V v hv hr=> ?_)).2
  refine bn.step P S hl (fun j B0 hj=> ?_) hr hv
  have :j≠i:=fun e=>by subst e; rw [hi] at hj; cases hj
  rw [aY _ _ this,aY _ _ this]
  exact ⟨B0,hj,cc.refl S _ _⟩
 obtain ⟨hI,_,_⟩:=h.yz hw hi hf (fun h1 h2 h3=>(hb h1 h2 h3).1) hr
 refine hK _ w' _ (hI.put hd qi fun j hj=> ?_) ?_
 · rcases hV j hj with rfl | hj
   · show ah env.bx j (some B) j≠none
     rw [aL]; simp
   · by_cases e:j=i
     · subst e; exact absurd hi hj
     · show ah env.bx i (some B) j≠none
       rw [aY _ _ e]; exact hj
 · cases o.dst <;> simp [Act.put]
end
end Go.Sy
namespace Go.Sy
section
variable (P:Program) (S:aN) (af:Nat→Nat)
def oI:Ty→Value
 | .int k=> .int k 0
 | .bool=> .bool false
 | .str=> .string ⟨#[]⟩
 | .sl _=> .slice none 0 0
 | .pt=> .pointer none
 | .st _=> .bool false
def mQ:Ty→List Value
 | .st u=>(S.F u).map oI
 | t=> [oI t]
def lF:(ts:List Ty)→ag S.C ts
 | []=>()
 | t::ts=>ag.cons (Ty.zero S t) (lF ts)
def bu (t:Nat) (T:Ty):Prop:=
 (∃ i z,P.info? t=some i∧i.size=Ty.sz S T∧i.zero=some z∧isAgg z=a_ T∧z.cells.toList=mQ S T)∧
 match T with
 | .int k=>P.underlying t=some (.int k)
 | .bool=>P.underlying t=some .bool
 | .str=>P.underlying t=some .string
 | .pt=> ∃ e,P.underlying t=some (.pointer e)
 | .sl e=> ∃ te ie,P.underlying t=some (.slice te)∧S.ty te=some e∧P.info? te=some ie∧ie.bytes=af t∧1≤af t
 | .st u=>(S.ex u (S.z u)=lF S (S.F u)∧(P.built t []).isSome=true)∧match S.ar t with
  | none=> ∃ fs,P.underlying t=some (.struct fs)∧
   ∀ f o T',S.dB u f=some (o,T')→ ∃ fd,fs[f]? =some fd∧fd.offset=o∧S.ty fd.type=some T'∧1≤Ty.sz S T'∧o+Ty.sz S T'≤(S.F u).length
  | some (n,e)=> ∃ te,P.underlying t=some (.array n te)∧S.ty te=some e∧((Ty.sz S e=1∧a_ e=false∧S.F u=List.replicate n e)∨ ∃ w,e= .st w∧S.F u=(List.replicate n (S.F w)).flatten)∧ ∀ f o T',S.dB u f=some (o,T')→o=f*Ty.sz S e∧T'=e∧f<n
def oM (S:aN):List Field→List Ty→Nat→Prop
 | [],[],_=>True
 | fd::fs,T::ts,i=>fd.offset=i∧fd.name≠ "_" ∧S.ty fd.type=some T∧(match T with | .int _=>True | .bool=>True | .str=>True | _=>False)∧oM S fs ts (i+1)
 | _,_,_=>False
def oN (P:Program) (S:aN):List Field→List Ty→Nat→Prop
 | [],ts,_=>ts= []
 | fd::fs,ts,i=>fd.offset=i∧fd.name≠ "_" ∧
  ((∃ T r,ts=T::r∧S.ty fd.type=some T∧(match T with | .int _=>True | .bool=>True | .str=>True | _=>False)∧oN P S fs r (i+1))∨
   ∃ v r gs,ts=S.F v++r∧S.ty fd.type=some (.st v)∧P.underlying fd.type=some (.struct gs)∧P.stoodInHeld fd.type=false∧1≤(S.F v).length∧oM S gs.toList (S.F v) 0∧oN P S fs r (i+(S.F v).length))
def EqAt (P:Program) (S:aN) (t:Nat):Prop:=
 ∃ u,S.ty t=some (.st u)∧(∃ fs,P.underlying t=some (.struct fs)∧oN P S fs.toList (S.F u) 0)∧P.stoodInHeld t=false∧P.eqGuardType P.depth t=false
structure aO:Prop extends ct S where
 ty: ∀ t T,S.ty t=some T→bu P S af t T
 pt: ∀ t,S.pt t=true→ ∃ e,P.underlying t=some (.pointer e)
 eq: ∀ t,S.eq t=true→EqAt P S t
 kK: ∀ t,S.kK t=true→ ∃ ms,P.underlying t=some (.interface ms)
 bt: ∀ p,S.bt=some p→p.1≠p.2∧ ∃ i z,P.info? p.1=some i∧i.zero=some z∧z.cells= #[.pointer none, .slice none 0 0]
variable {P S af}
theorem aO.agg (h:aO P S af) {t:Nat} {T:Ty} (ht:S.ty t=some T) (w:World):(Go.isAgg t).run P w= .ok (a_ T) w:=by
 obtain ⟨_,h2⟩:=h.ty t T ht
 unfold Go.isAgg
 cases T with
 | int k=>simp [run_underlying h2,a_]
 | bool=>simp [run_underlying h2,a_]
 | str=>simp [run_underlying h2,a_]
 | pt=>obtain ⟨e,h2⟩:=h2; simp [run_underlying h2,a_]
 | sl e=>obtain ⟨te,ie,hu,_⟩:=h2; simp [run_underlying hu,a_]
 | st u=>
  obtain ⟨_,h2⟩:=h2
  cases ha:S.ar t with
  | none=>rw [ha] at h2; obtain ⟨fs,hu,_⟩:=h2; simp [run_underlying hu,a_]
  | some p=>rw [ha] at h2; obtain ⟨te,hu,_⟩:=h2; simp [run_underlying hu,a_]
theorem aO.size (h:aO P S af) {t:Nat} {T:Ty} (ht:S.ty t=some T) (w:World):(Go.sizeOf t).run P w= .ok (Ty.sz S T) w:=by
 obtain ⟨⟨i,z,h1,h2,_⟩,_⟩:=h.ty t T ht
 simp [Go.sizeOf,typeInfo,h1,h2]
theorem aO.ET (h:aO P S af) {t:Nat} {T:Ty} (ht:S.ty t=some T): ∃ d,P.underlying t=some d:=by
 obtain ⟨_,h2⟩:=h.ty t T ht
 cases T with
 | int k=>exact ⟨_,h2⟩
 | bool=>exact ⟨_,h2⟩
 | str=>exact ⟨_,h2⟩
 | pt=>obtain ⟨e,h2⟩:=h2; exact ⟨_,h2⟩
 | sl e=>obtain ⟨te,ie,hu,_⟩:=h2; exact ⟨_,hu⟩
 | st u=>
  obtain ⟨_,h2⟩:=h2
  cases ha:S.ar t with
  | none=>rw [ha] at h2; obtain ⟨fs,hu,_⟩:=h2; exact ⟨_,hu⟩
  | some p=>rw [ha] at h2; obtain ⟨te,hu,_⟩:=h2; exact ⟨_,hu⟩
theorem dF {bx:Bx S.C} {ids:List Nat} {i:Nat} {B:cR S.C} (h:restrict S bx ids i=some B):bx i=some B:=by
 unfold restrict at h
 cases e:ids.contains i with
 | true=>rw [e] at h; exact h
 | false=>rw [e] at h; cases h
variable {w0:World} {M0 s0:St} {dq:List Deferred} {env:Env S.C} {a:Act} {w:World} {μ:Nat→Loc} {K:Act→World→Prop} {Q:Exit→Act→World→Prop} {o:Oper} {V:V S.C} {us:aG S.C}
def Goal (P:Program) (S:aN) (w0:World) (M0 s0:St) (dq:List Deferred) (env:Env S.C) (a:Act) (dst:Option Nat) (V:Sy.V S.C) (us:aG S.C) (K:Act→World→Prop):Prop:=
 ∀ a' w' μ',Inv P S w0 M0 s0 dq (env.apply dst V us) a' w' μ'→a'.tmps.size=a.tmps.size→K a' w'
theorem bh {V V':Sy.V S.C} {us us':aG S.C} (h:(ax S V us).leaf (V',us')):V'=V∧us'=us:=by
 have :(V,us)=(V',us'):=h
 cases this; exact ⟨rfl,rfl⟩
theorem yy {nl:Bool} (h:Inv P S w0 M0 s0 dq env a w μ) (hd: ∀ d,o.dst=some d→d<a.tmps.size) {x:Operand} {B:Nat} (ho:execOp a.eval o=pure (.value (a.eval x)))
 (hnew: ∀ u ∈ us,B≤u.1→u.1<B+16→env.bx u.1=none)
 (hl:(match aK S env.tm x with
  | some .b7=>cond nl (ax S .b7 []) (match dG S o.type with
   | some e=>ax S (.aT B e []) [(B, .tail)]
   | none=> .fail)
  | some v=>ax S v []
  | none=> .fail).leaf (V,us)) (hK:Goal P S w0 M0 s0 dq env a o.dst V us K):o.wp P a w K Q:=by
 have hrun:(execOp a.eval o).run P w= .ok (.value (a.eval x)) w:=by rw [ho]; rfl
 split at hl
 · rename_i hx
   obtain ⟨hv,_⟩:=bg h hx
   cases nl with
   | true=>
    obtain ⟨rfl,rfl⟩:=bh hl
    exact wp_pure h hrun hd hv (by simp [av,aj]) hK
   | false=>
   rw [cond_false] at hl
   split at hl
   · rename_i e he
     obtain ⟨rfl,rfl⟩:=bh hl
     have hB:=hnew (B, .tail) (by simp) (Nat.le_refl _) (by show B<B+16; omega)
     have hv:a.eval x= .slice none 0 0:=hv
     refine lA (i:=B) (B:= .tail) (L:=⟨0,0,0,0,true⟩) h hrun hd (aW.refl w _) hB (fun b o hf=> ?_) (fun _ _ _=>⟨fun j hj=>absurd hj (Nat.not_lt_zero j), ?_⟩) (by simp) (fun j hj=> .inl (by simpa [av,aj] using hj)) hK
     · have h1:=hf.2.1; have h2:=hf.2.2; simp at h2
     · rw [hv]
       refine ⟨⟨rfl,1,none,0,rfl,Nat.le_refl _, .inl rfl⟩,fun _=>⟨none,0,rfl, ?_⟩⟩
       rw [aL]
       exact .inl ⟨rfl,rfl,rfl⟩
   · exact hl.elim
 · rename_i v hne hx
   obtain ⟨rfl,rfl⟩:=bh hl
   obtain ⟨hv,hr⟩:=bg h hx
   exact wp_pure h hrun hd hv hr hK
 · exact hl.elim
theorem oR {w:World} {s:St} {k:IntKind} {n:Int} {v:Value} (h:bS S w s (.int k) n v):v= .int k n:=by
 obtain ⟨ha,m,hm⟩:=h
 cases m with
 | zero=>exact hm.elim
 | succ m=>exact kF hm ha
theorem lJ {w:World} {s:St} {b:Bool} {v:Value} (h:bS S w s .bool b v):v= .bool b:=by
 obtain ⟨ha,m,hm⟩:=h
 cases m with
 | zero=>exact hm.elim
 | succ m=>exact kF hm ha
theorem kA {w:World} {s:St} {b:List UInt8} {v:Value} (h:bS S w s .str b v):v= .string ⟨b.toArray⟩:=by
 obtain ⟨ha,m,hm⟩:=h
 cases m with
 | zero=>exact hm.elim
 | succ m=>exact kF hm ha
theorem h_ {w:World} {s:St} {e:Ty} {l:List (e.den S.C)} {v:Value} (h:bS S w s (.sl e) l v):
 ∃ a cap,v= .slice a l.length cap∧l.length≤cap∧(l.length=0∨ ∃ b o n,a=some ⟨b,o,none⟩∧oL S (fun t x cs=>ay S w s n t x cs) w s e b o l):=by
 obtain ⟨ha,m,hm⟩:=h
 cases m with
 | zero=>exact hm.elim
 | succ m=>
  obtain ⟨a,cap,h1,h2,h3⟩:=hm
  exact ⟨a,cap,kF h1 ha,h2,h3.imp id fun ⟨b,o,h4,h5⟩=>⟨b,o,m,h4,h5⟩⟩
theorem fH (w:World) (s:St) (k:IntKind) (n:Int):bS S w s (.int k) n (.int k n):=⟨rfl,1,rfl⟩
theorem jG (w:World) (s:St) (b:Bool):bS S w s .bool b (.bool b):=⟨rfl,1,rfl⟩
theorem rG (w:World) (s:St) (b:List UInt8):bS S w s .str b (.string ⟨b.toArray⟩):=⟨rfl,1,rfl⟩
theorem fW {w:World} {s:St} {bx:Bx S.C} {V:Sy.V S.C} {v:Value} {k:IntKind} {n:Int} (h:RV P S w s μ bx V v) (hi:V.int?=some (k,n)):v= .int k n:=by
 unfold Sy.V.int? at hi
 split at hi
 · cases hi; exact oR h
 · cases hi
theorem vf {w:World} {s:St} {bx:Bx S.C} {V:Sy.V S.C} {v:Value} {b:List UInt8} (h:RV P S w s μ bx V v) (hi:V.k9=some b):v= .string ⟨b.toArray⟩:=by
 unfold Sy.V.k9 at hi
 split at hi
 · cases hi; exact kA h
 · cases hi
theorem Az {w:World} {s:St} {bx:Bx S.C} {V:Sy.V S.C} {v:Value} {b:Bool} (h:RV P S w s μ bx V v) (hi:V.bool?=some b):v= .bool b:=by
 unfold Sy.V.bool? at hi
 split at hi
 · cases hi; exact lJ h
 · cases hi; exact h
 · cases hi
theorem Bw (h:Inv P S w0 M0 s0 dq env a w μ) {x:Operand} {b:Bool} (hx:aK S env.tm x=some (.d .bool b)):a.eval x= .bool b:=
 lJ (bg h hx).1
theorem KV (h:Inv P S w0 M0 s0 dq env a w μ) (hd: ∀ d,o.dst=some d→d<a.tmps.size) {c x y:Operand} (ho:o.op= .pick c x y)
 (hl:(match aK S env.tm c with
  | some (.d .bool b)=>match (b:Bool) with
   | true=>match aK S env.tm x with
    | some v=>ax S v []
    | none=> .fail
   | false=>match aK S env.tm y with
    | some v=>ax S v []
    | none=> .fail
  | _=> .fail).leaf (V,us)) (hK:Goal P S w0 M0 s0 dq env a o.dst V us K):o.wp P a w K Q:=by
 split at hl
 · rename_i b hc
   have hb:=Bw h hc
   cases b with
   | true=>
    dsimp only at hl
    split at hl
    · rename_i v hx
      obtain ⟨rfl,rfl⟩:=bh hl
      obtain ⟨hv,hr⟩:=bg h hx
      exact wp_pure h (by simp [execOp,ho,hb,asBool]) hd hv hr hK
    · exact hl.elim
   | false=>
    dsimp only at hl
    split at hl
    · rename_i v hx
      obtain ⟨rfl,rfl⟩:=bh hl
      obtain ⟨hv,hr⟩:=bg h hx
      exact wp_pure h (by simp [execOp,ho,hb,asBool]) hd hv hr hK
    · exact hl.elim
 · exact hl.elim
end
end Go.Sy
namespace Go.Sy
section
variable {P:Program} {S:aN} {af:Nat→Nat}
variable {w0:World} {M0 s0:St} {dq:List Deferred} {env:Env S.C} {a:Act} {w:World} {μ:Nat→Loc} {K:Act→World→Prop} {Q:Exit→Act→World→Prop} {o:Oper} {V:V S.C} {us:aG S.C}
theorem mX {α:Type} [BEq α] [LawfulBEq α] [DecidableEq α] (x y:α):(x == y)=decide (x=y):=by rw [Bool.eq_iff_iff]; simp
theorem eg {gs:List Gd} {V':Sy.V S.C} {us':aG S.C} (h:(Tr.gd gs (ax S V' us')).leaf (V,us)):(∀ g ∈ gs,g.p)∧V=V'∧us=us':=by
 obtain ⟨h1,h2⟩:=Tr.yj gs h
 exact ⟨h1,bh h2⟩
theorem FU {op:BinOp} {k k':IntKind} (hk:CL op=true∨k=k') {x y:Int} {gs:List Gd} (h:arith S op k x y=some (gs,V)) (hg: ∀ g ∈ gs,g.p) (t:TypeId) (w:World):
 (∃ v,(binOp op t (.int k x) (.int k' y)).run P w= .ok v w∧ ∀ (w1:World) (s:St) (μ:Nat→Loc) (bx:Bx S.C),RV P S w1 s μ bx V v)∧av S V= []:=by
 cases op <;> simp only [arith] at h <;> cases h
 case add=>rcases hk with hk | rfl; cases hk; exact ⟨⟨_,by simp [binOp,Op.intArith],fun _ _ _ _=>fH ..⟩,rfl⟩
 case sub=>rcases hk with hk | rfl; cases hk; exact ⟨⟨_,by simp [binOp,Op.intArith],fun _ _ _ _=>fH ..⟩,rfl⟩
 case mul=>rcases hk with hk | rfl; cases hk; exact ⟨⟨_,by simp [binOp,Op.intArith],fun _ _ _ _=>fH ..⟩,rfl⟩
 case quo=>
  rcases hk with hk | rfl; cases hk
  have h0: ¬ y=0:=hg _ (List.mem_singleton.2 rfl)
  exact ⟨⟨_,by simp [binOp,Op.intDiv,h0],fun _ _ _ _=>fH ..⟩,rfl⟩
 case rem=>
  rcases hk with hk | rfl; cases hk
  have h0: ¬ y=0:=hg _ (List.mem_singleton.2 rfl)
  exact ⟨⟨_,by simp [binOp,Op.intDiv,h0],fun _ _ _ _=>fH ..⟩,rfl⟩
 case and=>rcases hk with hk | rfl; cases hk; exact ⟨⟨_,by simp [binOp,Op.intBits],fun _ _ _ _=>fH ..⟩,rfl⟩
 case shl=>
  have h0:0≤y:=hg _ (List.mem_singleton.2 rfl)
  have h0': ¬ y<0:=by omega
  exact ⟨⟨_,by simp [binOp,Op.shift,h0'],fun _ _ _ _=>fH ..⟩,rfl⟩
 case shr=>
  have h0:0≤y:=hg _ (List.mem_singleton.2 rfl)
  have h0': ¬ y<0:=by omega
  exact ⟨⟨_,by simp [binOp,Op.shift,h0'],fun _ _ _ _=>fH ..⟩,rfl⟩
 case eql=>rcases hk with hk | rfl; cases hk; exact ⟨⟨.bool (decide (x=y)),by simp [binOp,Op.intCmp,mX],fun _ _ _ _=>rfl⟩,rfl⟩
 case neq=>rcases hk with hk | rfl; cases hk; exact ⟨⟨.bool (decide (x≠y)),by simp [binOp,Op.intCmp,bne,mX],fun _ _ _ _=>rfl⟩,rfl⟩
 case lss=>rcases hk with hk | rfl; cases hk; exact ⟨⟨.bool (decide (x<y)),by simp [binOp,Op.intCmp],fun _ _ _ _=>rfl⟩,rfl⟩
 case leq=>rcases hk with hk | rfl; cases hk; exact ⟨⟨.bool (decide (x≤y)),by simp [binOp,Op.intCmp],fun _ _ _ _=>rfl⟩,rfl⟩
 case gtr=>rcases hk with hk | rfl; cases hk; exact ⟨⟨.bool (decide (y<x)),by simp [binOp,Op.intCmp],fun _ _ _ _=>rfl⟩,rfl⟩
 case geq=>rcases hk with hk | rfl; cases hk; exact ⟨⟨.bool (decide (y≤x)),by simp [binOp,Op.intCmp],fun _ _ _ _=>rfl⟩,rfl⟩
theorem M7 {op:BinOp} {x y:List UInt8} {gs:List Gd} (h:zL S op x y=some (gs,V)) (hg: ∀ g ∈ gs,g.p) (t:TypeId) (w:World):
 (∃ v,(binOp op t (.string ⟨x.toArray⟩) (.string ⟨y.toArray⟩)).run P w= .ok v w∧ ∀ (w1:World) (s:St) (μ:Nat→Loc) (bx:Bx S.C),RV P S w1 s μ bx V v)∧av S V= []:=by
 cases op <;> simp only [zL] at h <;> cases h
 case add=>
  have h0:x.length+y.length≤9223372036854775807:=hg _ (List.mem_singleton.2 rfl)
  refine ⟨⟨.string ⟨(x++y).toArray⟩, ?_,fun _ _ _ _=>rG ..⟩,rfl⟩
  have h1: ¬ (IntKind.i64.max<((ByteArray.size ⟨x.toArray⟩+ByteArray.size ⟨y.toArray⟩:Nat):Int)):=by
   show ¬ ((9223372036854775807:Int)<((x.toArray.size+y.toArray.size:Nat):Int))
   simp; omega
  have h2:(⟨x.toArray⟩:ByteArray)++⟨y.toArray⟩=⟨(x++y).toArray⟩:=by
   apply ByteArray.ext; simp
  simp only [binOp,Op.stringOp]
  rw [if_neg h1,h2]
  rfl
 case eql=>exact ⟨⟨.bool (decide (x=y)),by simp [binOp,Op.stringOp,mX],fun _ _ _ _=>rfl⟩,rfl⟩
 case neq=>exact ⟨⟨.bool (decide (x≠y)),by simp [binOp,Op.stringOp,mX],fun _ _ _ _=>rfl⟩,rfl⟩
def yP:Value→Bool
 | .agg _ | .nilIface=>false
 | _=>true
theorem wO {op:BinOp} {t:TypeId} {x y:Operand} {v u:Value} (h:yP v=true) (w:World):(eqGuard op t x y v u).run P w= .ok () w:=by
 unfold eqGuard
 cases v <;> first | (simp [yP] at h; done) | (simp; done) | (simp; split <;> rfl)
theorem Mk (d:Nat) {t:TypeId} (hu:P.underlying t=some .bool) (b c:Bool) (w:World):(Op.equalIn (d+1) t (.bool b) (.bool c)).run P w= .ok (b == c) w:=by
 unfold Op.equalIn
 simp [run_underlying hu]
theorem DT {t:TypeId} (hu:P.underlying t=some .bool) (b c:Bool) (w:World):(Op.equal t (.bool b) (.bool c)).run P w= .ok (b == c) w:=Mk 9999 hu b c w
theorem Ml (d:Nat) {t e:TypeId} (hu:P.underlying t=some (.pointer e))  (w:World):(Op.equalIn (d+1) t (.pointer none) (.pointer none)).run P w= .ok true w:=by
 unfold Op.equalIn
 simp [run_underlying hu]
theorem DU {t e:TypeId} (hu:P.underlying t=some (.pointer e))  (w:World):(Op.equal t (.pointer none) (.pointer none)).run P w= .ok true w:=Ml 9999 hu w
theorem Mm (d:Nat) {t e:TypeId} (hu:P.underlying t=some (.pointer e)) (p:Addr) (w:World):(Op.equalIn (d+1) t (.pointer (some p)) (.pointer none)).run P w= .ok false w:=by
 unfold Op.equalIn
 simp [run_underlying hu]
theorem DV {t e:TypeId} (hu:P.underlying t=some (.pointer e)) (p:Addr) (w:World):(Op.equal t (.pointer (some p)) (.pointer none)).run P w= .ok false w:=Mm 9999 hu p w
theorem F3 (hP:aO P S af) (h:Inv P S w0 M0 s0 dq env a w μ) (hd: ∀ d,o.dst=some d→d<a.tmps.size) {op:BinOp} {t t':TypeId} {x y:Operand} (ho:o.op= .binOp op t x y t')
 (hl:(match aK S env.tm x,aK S env.tm y with
  | some p,some q=>match sA S op t p q with
   | some (gs,v)=>Tr.gd gs (ax S v [])
   | none=> .fail
  | _,_=> .fail).leaf (V,us)) (hK:Goal P S w0 M0 s0 dq env a o.dst V us K):o.wp P a w K Q:=by
 split at hl
 · rename_i p q hx hy
   split at hl
   · rename_i gs v hb
     obtain ⟨hg,rfl,rfl⟩:=eg hl
     obtain ⟨hv1,_⟩:=bg h hx
     obtain ⟨ff,_⟩:=bg h hy
     have fin: ∀ (v1 v2:Value),a.eval x=v1→a.eval y=v2→yP v1=true→
      ((∃ v,(binOp op t v1 v2).run P w= .ok v w∧ ∀ (w1:World) (s:St) (μ:Nat→Loc) (bx:Bx S.C),RV P S w1 s μ bx V v)∧av S V= [])→o.wp P a w K Q:=by
      rintro v1 v2 e1 e2 ha ⟨⟨v,hr,hv⟩,hid⟩
      refine wp_pure h (v:=v) ?_ hd (hv ..) (by simp [hid]) hK
      unfold execOp
      simp only [ho,e1,e2]
      simp [wO ha,hr]
     unfold sA at hb
     split at hb
     · rename_i k i k' j h1 h2
       split at hb
       · rename_i hk
         exact fin _ _ (fW hv1 h1) (fW ff h2) rfl (FU hk hb hg t w)
       · cases hb
     · split at hb
       · rename_i h1 h2
         exact fin _ _ (vf hv1 h1) (vf ff h2) rfl (M7 hb hg t w)
       · split at hb
         · rename_i b c h1 h2
           have e1:=Az hv1 h1
           have e2:=Az ff h2
           cases hty:S.ty t with
           | none=>rw [hty] at hb; cases hb
           | some T=>
            rw [hty] at hb
            cases T with
            | bool=>
             have hu:P.underlying t=some .bool:=(hP.ty t _ hty).2
             refine fin _ _ e1 e2 rfl ?_
             dsimp only [cond] at hb
             split at hb <;> cases hb
             · exact ⟨⟨.bool (decide (b=c)),by simp [binOp,DT hu,mX],fun _ _ _ _=>rfl⟩,rfl⟩
             · exact ⟨⟨.bool (decide (b≠c)),by simp [binOp,DT hu,mX],fun _ _ _ _=>rfl⟩,rfl⟩
            | _=>cases hb
         · cases xM:S.pt t with
           | false=>rw [xM] at hb; cases hb
           | true=>
            rw [xM] at hb
            obtain ⟨e,hu⟩:=hP.pt t xM
            dsimp only [cond] at hb
            split at hb
            · have e1:a.eval x= .pointer none:=hv1
              have e2:a.eval y= .pointer none:=ff
              refine fin _ _ e1 e2 rfl ?_
              split at hb <;> cases hb
              · exact ⟨⟨.bool true,by simp [binOp,DU hu],fun _ _ _ _=>jG ..⟩,rfl⟩
              · exact ⟨⟨.bool false,by simp [binOp,DU hu],fun _ _ _ _=>jG ..⟩,rfl⟩
            · rename_i b off
              have e2:a.eval y= .pointer none:=ff
              have e1:a.eval x=_:=hv1
              refine fin _ _ e1 e2 rfl ?_
              split at hb <;> cases hb
              · exact ⟨⟨.bool false,by simp [binOp,DV hu],fun _ _ _ _=>jG ..⟩,rfl⟩
              · exact ⟨⟨.bool true,by simp [binOp,DV hu],fun _ _ _ _=>jG ..⟩,rfl⟩
            · cases hb
   · exact hl.elim
 · exact hl.elim
end
end Go.Sy
namespace Go.Sy
section
variable {P:Program} {S:aN} {af:Nat→Nat}
variable {w0:World} {M0 s0:St} {dq:List Deferred} {env:Env S.C} {a:Act} {w:World} {μ:Nat→Loc} {K:Act→World→Prop} {Q:Exit→Act→World→Prop} {o:Oper} {V:V S.C} {us:aG S.C}
theorem jI {t:Nat} {e:Ty} (h:dG S t=some e):S.ty t=some (.sl e):=by
 unfold dG at h
 split at h
 · rename_i e' he; cases h; exact he
 · cases h
theorem aO.sl (hP:aO P S af) {t:Nat} {e:Ty} (h:S.ty t=some (.sl e)): ∃ te ie z,P.underlying t=some (.slice te)∧S.ty te=some e∧P.info? te=some ie∧ie.bytes=af t∧1≤af t∧ie.size=Ty.sz S e∧ie.zero=some z∧isAgg z=a_ e∧z.cells.toList=mQ S e:=by
 obtain ⟨_,te,ie,h1,h2,h3,h4,h5⟩:=hP.ty t _ h
 obtain ⟨⟨i,z,g1,g2,g3,g4,g5⟩,_⟩:=hP.ty te e h2
 rw [h3] at g1
 cases g1
 exact ⟨te,ie,z,h1,h2,h3,h4,h5,g2,g3,g4,g5⟩
theorem zv (hP:aO P S af) {t:Nat} {e:Ty} (ht:S.ty t=some (.sl e)) {b o' n cap:Nat} {k:IntKind} {i:Int} (h0:0≤i) (h1:i<(n:Int)) (w:World):
 (Instr.indexAt t (.slice (some ⟨b,o',none⟩) n cap) (.int k i)).run P w= .ok (.pointer (some ⟨b,o'+i.toNat*Ty.sz S e,none⟩)) w:=by
 obtain ⟨te,ie,z,hu,he,_⟩:=hP.sl ht
 simp [Instr.indexAt,asIntOf,run_underlying hu,h0,h1,hP.size he w,Addr.add_mid]
theorem nu {e:Ty} {l:List (e.den S.C)} {i:Int} (h0:0≤i) (h1:i<(l.length:Int)):l[i.toNat]? =some (eN S e l i):=by
 have :i.toNat<l.length:=by omega
 unfold eN
 rw [List.getD_eq_getElem?_getD,List.getElem?_eq_getElem this]
 rfl
theorem Di {b:Nat} {i:Int} {p:Sy.V S.C×aG S.C} : ∀ (n j:Nat),(yO S b i j n).leaf p→ ∃ k:Nat,i=(k:Int)∧p=(.ptr b k,[])
 | 0,_,h=>h.elim
 | n+1,j,h=>by
  rcases h with ⟨h1,h2⟩ | ⟨_,h2⟩
  · exact ⟨j,h1,h2.symm⟩
  · exact Di n (j+1) h2
theorem Jr (hP:aO P S af) (h:Inv P S w0 M0 s0 dq env a w μ) (hd: ∀ d,o.dst=some d→d<a.tmps.size) {t:TypeId} {x i:Operand} {ids:List Nat} (ho:o.op= .indexAddr t x i)
 (hl:(match dG S t,aK S env.tm x,aK S env.tm i with
  | some e,some v,some w=>match w.int? with
   | some (_,n)=>x9 S e (restrict S env.bx ids) n v
   | none=> .fail
  | _,_,_=> .fail).leaf (V,us)) (hK:Goal P S w0 M0 s0 dq env a o.dst V us K):o.wp P a w K Q:=by
 split at hl
 · rename_i e v wv het hx hi
   have ht:=jI het
   obtain ⟨hv,cI⟩:=bg h hx
   obtain ⟨jP,_⟩:=bg h hi
   split at hl
   · rename_i k n hn
     have hin:=fW jP hn
     have data: ∀ (e':Ty) (l:List (e'.den S.C)),bS S w (aC S w0 M0 s0 env.bx μ w) (.sl e') l (a.eval x)→(if e'=e then Tr.gd (dj n l.length) (ax S (.cH e' (eN S e' l n)) []) else .fail).leaf (V,us)→o.wp P a w K Q:=by
      intro e' l hr bQ
      clear hl
      split at bQ
      · rename_i he
        subst he
        obtain ⟨hg,rfl,rfl⟩:=eg bQ
        have g0:0≤n:=hg ⟨0≤n,inferInstance⟩ (by simp [dj,gd])
        have g1:n<(l.length:Int):=hg ⟨n<(l.length:Int),inferInstance⟩ (by simp [dj,gd])
        obtain ⟨ad,cap,e1,e2,e3⟩:=h_ hr
        rcases e3 with e3 | ⟨b,o',m,rfl,hel⟩
        · omega
        · obtain ⟨ds,d1,d2,d3⟩:=hel n.toNat _ (nu g0 g1)
          refine wp_pure (V:= .cH e' (eN S e' l n)) h (v:= .pointer (some ⟨b,o'+n.toNat*Ty.sz S e',none⟩)) ?_ hd ⟨b,_,ds,rfl,d2,d1,m,d3⟩ (by simp [av,aj]) hK
          unfold execOp
          simp only [ho,e1,hin]
          simp [zv hP ht g0 g1]
      · exact bQ.elim
     have own: ∀ (b:Nat) (e':Ty) (l:List (e'.den S.C)),v= .aH b→(env.bx b=some (.arr e' l)∨env.bx b=some (.bp e' l))→(if e'=e then Tr.gd (dj n l.length) (ax S (.dL b n 0) []) else .fail).leaf (V,us)→o.wp P a w K Q:=by
      intro b e' l xS hb bQ
      clear hl
      split at bQ
      · rename_i he
        subst he
        obtain ⟨hg,rfl,rfl⟩:=eg bQ
        have g0:0≤n:=hg ⟨0≤n,inferInstance⟩ (by simp [dj,gd])
        have g1:n<(l.length:Int):=hg ⟨n<(l.length:Int),inferInstance⟩ (by simp [dj,gd])
        subst xS
        obtain ⟨ad,cap,e1,hao⟩:=hv.2 e' l hb
        have I0:(μ b).nil=false:=by
         cases iA:(μ b).nil with
         | false=>rfl
         | true=>have :=hao.isNil iA; have :=hao.gG; have :=hao.fits; omega
        have had:ad=some ⟨(μ b).b,(μ b).o,none⟩:=by rw [hao.addr,I0]; rfl
        subst had
        refine wp_pure (V:= .dL b n 0) h (v:= .pointer (some ⟨(μ b).b,(μ b).o+n.toNat*Ty.sz S e',none⟩)) ?_ hd ⟨⟨_,rfl⟩,fun e'' l'' pT=> ?_⟩ (fun j hj=>cI j (by simpa [av,aj] using hj)) hK
        · unfold execOp
          simp only [ho,e1,hin]
          simp [zv hP ht g0 g1]
        · have :(∃ h:e''=e',h▸l''=l):=by
           rcases hb with hb | hb <;> rcases pT with pT | pT <;> rw [hb] at pT <;> cases pT <;> exact ⟨rfl,rfl⟩
          obtain ⟨rfl,rfl⟩:=this
          exact ⟨g0,by show n.toNat<l''.length; have g1:n<(l''.length:Int):=g1; omega,rfl⟩
      · exact bQ.elim
     unfold x9 at hl
     split at hl
     · exact data _ _ hv hl
     · exact data _ _ hv.1 hl
     · rename_i b
       split at hl
       · rename_i hb; exact own _ _ _ rfl (.inl (dF hb)) hl
       · rename_i hb; exact own _ _ _ rfl (.inr (dF hb)) hl
       · exact hl.elim
     · rename_i b m
       split at hl
       · rename_i e1
         obtain ⟨hg,hl⟩:=Tr.yj _ hl
         have g0:0≤n:=hg ⟨0≤n,inferInstance⟩ (by simp [dj,gd])
         have g1:n<(m:Int):=hg ⟨n<(m:Int),inferInstance⟩ (by simp [dj,gd])
         obtain ⟨j,hj,hp⟩:=Di m 0 hl
         cases hp
         have hv:a.eval x= .slice (some ⟨(μ b).b,(μ b).o,none⟩) m m:=hv
         have e2:n.toNat=j:=by omega
         refine wp_pure (V:= .ptr b j) h (v:= .pointer (some ⟨(μ b).b,(μ b).o+j,none⟩)) ?_ hd rfl (fun j hj=>cI j (by simpa [av,aj] using hj)) hK
         unfold execOp
         simp only [ho,hv,hin]
         have :=zv hP ht (b:=(μ b).b) (o':=(μ b).o) (n:=m) (cap:=m) (k:=k) g0 g1
         rw [e2,show j*Ty.sz S (.sl e1)=j from Nat.mul_one j] at this
         simp [this]
       · exact hl.elim
     · exact hl.elim
   · exact hl.elim
 · exact hl.elim
theorem Jt (hP:aO P S af) (h:Inv P S w0 M0 s0 dq env a w μ) (hd: ∀ d,o.dst=some d→d<a.tmps.size) {t:TypeId} {x i:Operand} (ho:o.op= .index t x i)
 (hl:(match aK S env.tm x,aK S env.tm i with
  | some v,some w=>match S.ty t,v.k9,w.int? with
   | some .str,some s,some (_,n)=>Tr.gd (dj n s.length) (ax S (.d (.int .u8) (((s.getD n.toNat 0).toNat:Nat):Int)) [])
   | _,_,_=> .fail
  | _,_=> .fail).leaf (V,us)) (hK:Goal P S w0 M0 s0 dq env a o.dst V us K):o.wp P a w K Q:=by
 split at hl
 · rename_i v wv hx hi
   obtain ⟨hv,cI⟩:=bg h hx
   obtain ⟨jP,_⟩:=bg h hi
   split at hl
   · rename_i s k n ht hs hn
     obtain ⟨hg,rfl,rfl⟩:=eg hl
     have g0:0≤n:=hg ⟨0≤n,inferInstance⟩ (by simp [dj,gd])
     have g1:n<(s.length:Int):=hg ⟨n<(s.length:Int),inferInstance⟩ (by simp [dj,gd])
     have hu:P.underlying t=some .string:=(hP.ty t _ ht).2
     have hlt:n.toNat<s.length:=by omega
     refine wp_pure (V:= .d (.int .u8) (((s.getD n.toNat 0).toNat:Nat):Int)) h (v:= .int .u8 (((s.getD n.toNat 0).toNat:Nat):Int)) ?_ hd (fH ..) (by simp [av,aj]) hK
     unfold execOp
     simp only [ho,vf hv hs,fW jP hn]
     have e1:(⟨s.toArray⟩:ByteArray)[n.toNat]? =some (s.getD n.toNat 0):=by
      rw [List.getD_eq_getElem?_getD,List.getElem?_eq_getElem hlt]
      show (if h:n.toNat<s.toArray.size then some _ else none)=_
      rw [dif_pos (by simpa using hlt)]
      rfl
     simp [Instr.index,asIntOf,run_underlying hu,g0,e1]
   · exact hl.elim
 · exact hl.elim
theorem Hq (h:Inv P S w0 M0 s0 dq env a w μ) (hd: ∀ d,o.dst=some d→d<a.tmps.size) {x:Operand} {i:Nat} (ho:o.op= .extract x i)
 (hl:(match aK S env.tm x with
  | some (.fy vs)=>match vs[i]? with
   | some v=>ax S v []
   | none=> .fail
  | _=> .fail).leaf (V,us)) (hK:Goal P S w0 M0 s0 dq env a o.dst V us K):o.wp P a w K Q:=by
 split at hl
 · rename_i vs hx
   obtain ⟨⟨cs,hv,hvs⟩,cI⟩:=bg h hx
   split at hl
   · rename_i v hi
     obtain ⟨rfl,rfl⟩:=bh hl
     obtain ⟨c,hc,hr⟩:=aF.get P S i hvs hi
     refine wp_pure h (v:=c) ?_ hd (iT hr) (fun j hj=> ?_) hK
     · unfold execOp
       have :cs[i]? =some c:=by simpa using hc
       simp only [ho,hv]
       simp [Instr.extract,this]
     · refine cI j ?_
       simp only [av,List.mem_flatMap]
       refine ⟨V,List.mem_of_getElem? hi, ?_⟩
       cases V <;> first | exact hj | exact (hr:False).elim
   · exact hl.elim
 · exact hl.elim
theorem Kr (h:Inv P S w0 M0 s0 dq env a w μ) (hd: ∀ d,o.dst=some d→d<a.tmps.size) {x:Operand} (ho:o.op= .nilCheck x)
 (hl:(match aK S env.tm x with
  | some (.ptr b o)=>ax S (.ptr b o) []
  | some (.cH t x)=>ax S (.cH t x) []
  | some (.dL b i p)=>ax S (.dL b i p) []
  | some (.split b c)=>ax S (.split b c) []
  | _=> .fail).leaf (V,us)) (hK:Goal P S w0 M0 s0 dq env a o.dst V us K):o.wp P a w K Q:=by
 have fin: ∀ ad,a.eval x= .pointer (some ad)→aK S env.tm x=some V→us= []→o.wp P a w K Q:=by
  rintro ad he hx rfl
  obtain ⟨hv,hr⟩:=bg h hx
  refine wp_pure h (v:=a.eval x) ?_ hd hv hr hK
  unfold execOp
  simp only [ho,he]
  rfl
 split at hl
 · rename_i b off hx
   obtain ⟨rfl,rfl⟩:=bh hl
   have hv:a.eval x=_:=(bg h hx).1
   exact fin _ hv hx rfl
 · rename_i t y hx
   obtain ⟨rfl,rfl⟩:=bh hl
   obtain ⟨b,o',ds,hv,_⟩:=(bg h hx).1
   exact fin _ hv hx rfl
 · rename_i b i p hx
   obtain ⟨rfl,rfl⟩:=bh hl
   obtain ⟨⟨ad,hv⟩,_⟩:=(bg h hx).1
   exact fin _ hv hx rfl
 · rename_i b c hx
   obtain ⟨rfl,rfl⟩:=bh hl
   obtain ⟨k,q,hv,_⟩:=(bg h hx).1
   exact fin _ hv hx rfl
 · exact hl.elim
theorem Oq (h:Inv P S w0 M0 s0 dq env a w μ) (hd: ∀ d,o.dst=some d→d<a.tmps.size) {op:UnOp} {t:TypeId} {x:Operand} (ho:o.op= .unOp op t x)
 (hl:(match op,aK S env.tm x with
  | .not,some (.pr p i)=>ax S (.pr (¬ p) (@instDecidableNot p i)) []
  | .not,some (.d .bool b)=>ax S (.d .bool (Bool.not b)) []
  | .neg,some v=>match v.int? with
   | some (k,n)=>ax S (.d (.int k) (k.wrap (0 - n))) []
   | none=> .fail
  | _,_=> .fail).leaf (V,us)) (hK:Goal P S w0 M0 s0 dq env a o.dst V us K):o.wp P a w K Q:=by
 split at hl
 · rename_i p i hx
   obtain ⟨rfl,rfl⟩:=bh hl
   have hv:a.eval x= .bool (decide p):=(bg h hx).1
   refine wp_pure h (v:= .bool (!decide p)) ?_ hd ?_ (by simp [av,aj]) hK
   · unfold execOp; simp only [ho,hv]; rfl
   · show Value.bool (!decide p)= .bool (decide (¬ p))
     simp
 · rename_i b hx
   obtain ⟨rfl,rfl⟩:=bh hl
   have hv:=lJ (bg h hx).1
   refine wp_pure (V:= .d .bool (Bool.not b)) h (v:= .bool (Bool.not b)) ?_ hd (jG ..) (by simp [av,aj]) hK
   unfold execOp; simp only [ho,hv]; rfl
 · rename_i v hx
   split at hl
   · rename_i k n hn
     obtain ⟨rfl,rfl⟩:=bh hl
     have hv:=fW (bg h hx).1 hn
     refine wp_pure (V:= .d (.int k) (k.wrap (0 - n))) h (v:= .int k (k.wrap (0 - n))) ?_ hd (fH ..) (by simp [av,aj]) hK
     unfold execOp; simp only [ho,hv]; rfl
   · exact hl.elim
 · exact hl.elim
theorem foldl_push: ∀ (l:List Int) (r:ByteArray),l.foldl (fun r n=>r.push (UInt8.ofNat n.toNat)) r=⟨r.data++(bytesOf l).toArray⟩
 | [],r=>by simp [bytesOf]
 | n::l,r=>by
  rw [List.foldl_cons,foldl_push l]
  simp [bytesOf,ByteArray.push]
theorem Mi {P:Program} {w:World} {s t te:TypeId} (q:List Int) (b o cap:Nat) (qg:P.underlying s=some (.slice te)) (xR:P.underlying te=some (.int .u8)) (nJ:P.underlying t=some .string)
 (hc: ∀ j x,q[j]? =some x→w.cell? ⟨b,o+j,none⟩=some (.int .u8 x)):(convert s t (.slice (some ⟨b,o,none⟩) q.length cap)).run P w= .ok (.string ⟨(bytesOf q).toArray⟩) w:=by
 have hcells:(loadCells ⟨b,o,none⟩ q.length).run P w= .ok (q.map (Value.int .u8)).toArray w:=by
  have :=run_loadCells_list (P:=P) (w:=w) ⟨b,o,none⟩ (q.map (Value.int .u8)) (fun j v hj=>by
   rw [List.getElem?_map] at hj
   obtain ⟨x,hx,rfl⟩:=Option.map_eq_some_iff.1 hj
   rw [Addr.add_lit]; exact hc j x hx)
  rw [List.length_map] at this
  exact this
 have hrun:=run_bytesToString (P:=P) w ⟨b,o,none⟩ q.length cap q hcells
 rw [foldl_push] at hrun
 rw [run_convert_bytes_string w s t te (some ⟨b,o,none⟩) q.length cap qg xR nJ,hrun]
 simp
theorem GQ (hP:aO P S af) (h:Inv P S w0 M0 s0 dq env a w μ) (hd: ∀ d,o.dst=some d→d<a.tmps.size) {s t:TypeId} {x:Operand} {ids:List Nat} (ho:o.op= .convert s t x)
 (hl:(match S.ty s,S.ty t,aK S env.tm x with
  | some _,some (.int k),some v=>match v.int? with
   | some (_,n)=>ax S (.d (.int k) (k.wrap n)) []
   | none=> .fail
  | some T,some .str,some v=>match v.k9 with
   | some s=>ax S (.d .str s) []
   | none=>match T,v with
    | .sl (.int .u8), .aH b=>match restrict S env.bx ids b with
     | some (.arr (.int .u8) (n::l))=>ax S (.d .str (bytesOf (n::l))) []
     | _=> .fail
    | _,_=> .fail
  | _,_,_=> .fail).leaf (V,us)) (hK:Goal P S w0 M0 s0 dq env a o.dst V us K):o.wp P a w K Q:=by
 split at hl
 · rename_i T k v hs ht hx
   obtain ⟨d,hu⟩:=hP.ET hs
   split at hl
   · rename_i k' n hn
     obtain ⟨rfl,rfl⟩:=bh hl
     have hv:=fW (bg h hx).1 hn
     have nJ:P.underlying t=some (.int k):=(hP.ty t _ ht).2
     refine wp_pure (V:= .d (.int k) (k.wrap n)) h (v:= .int k (k.wrap n)) ?_ hd (fH ..) (by simp [av,aj]) hK
     unfold execOp
     simp only [ho,hv]
     simp [convert,run_underlying hu,run_underlying nJ,Conv.intToInt]
   · exact hl.elim
 · rename_i T v hs ht hx
   obtain ⟨d,hu⟩:=hP.ET hs
   have nJ:P.underlying t=some .string:=(hP.ty t _ ht).2
   split at hl
   · rename_i b hn
     obtain ⟨rfl,rfl⟩:=bh hl
     have hv:=vf (bg h hx).1 hn
     refine wp_pure (V:= .d .str b) h (v:= .string ⟨b.toArray⟩) ?_ hd (rG ..) (by simp [av,aj]) hK
     unfold execOp
     simp only [ho,hv]
     simp [convert,run_underlying hu,run_underlying nJ]
   · split at hl
     · rename_i b _
       split at hl
       · rename_i n l gp
         obtain ⟨rfl,rfl⟩:=bh hl
         have hb:=dF gp
         obtain ⟨te,ie,qg,hte,_⟩:=(hP.ty s _ hs).2
         have xR:P.underlying te=some (.int .u8):=(hP.ty te _ hte).2
         obtain ⟨_,hv⟩:=(bg h hx).1
         obtain ⟨ad,cap,hv,hA⟩:=hv _ _ (.inl hb)
         have hR:=h.bE b _ hb
         have iA:(μ b).nil=false:=by
          cases hn:(μ b).nil with
          | false=>rfl
          | true=>
           have h1:=hA.isNil hn
           have h2:=hA.fits
           have h3:=hA.gG
           simp only [List.length_cons] at h2
           omega
         have had:ad=some ⟨(μ b).b,(μ b).o,none⟩:=by rw [hA.addr,iA]; rfl
         refine wp_pure (V:= .d .str (bytesOf (n::l))) h (v:= .string ⟨(bytesOf (n::l)).toArray⟩) ?_ hd (rG ..) (by simp [av,aj]) hK
         unfold execOp
         simp only [ho]
         rw [show a.eval x=_ from hv,had]
         have e:=Mi (P:=P) (w:=w) (s:=s) (t:=t) (n::l) (μ b).b (μ b).o cap qg xR nJ fun j x hx=>by
          obtain ⟨ds,hd1,Ik,m,s8⟩:=hR.2.2.2.2 j x hx
          cases m with
          | zero=>exact s8.elim
          | succ m=>
           have s8:ds= [.int .u8 x]:=s8
           subst s8
           have :=Ik 0 _ rfl
           rw [show Ty.sz S (.int .u8)=1 from rfl,Nat.mul_one,Nat.add_zero] at this
           exact this
         have e:(convert s t (.slice (some ⟨(μ b).b,(μ b).o,none⟩) (l.length+1) cap)).run P w=_:=e
         simp [e,Result.andThen]
       · exact hl.elim
     · exact hl.elim
 · exact hl.elim
end
end Go.Sy
namespace Go.Sy
section
variable {P:Program} {S:aN} {af:Nat→Nat}
variable {w0:World} {M0 s0:St} {dq:List Deferred} {env:Env S.C} {a:Act} {w:World} {μ:Nat→Loc} {K:Act→World→Prop} {Q:Exit→Act→World→Prop} {o:Oper} {V:V S.C} {us:aG S.C}
theorem Av {s:St} {bx:Bx S.C} {t:Ty} (ht:a_ t=false) {V:Sy.V S.C} {v:Value} {x:t.den S.C} (hv:bn P S w s μ bx V v) (hx:cu S (fun _=>none) t V=some x): ∃ n,ay S w s n t x [v]:=by
 have hd: ∀ (u:Ty) (y:u.den S.C),bS S w s u y v→dx S u t y=some x→ ∃ n,ay S w s n t x [v]:=by
  intro u y hr hc
  obtain ⟨rfl,rfl⟩:=di hc
  obtain ⟨h1,n,hn⟩:=hr
  rw [ay.ig h1 ht] at hn
  exact ⟨n,hn⟩
 cases V with
 | d u y=>exact hd u y hv hx
 | pr p i=>
  obtain ⟨rfl,rfl⟩:=di hx
  cases hv
  exact ⟨1,rfl⟩
 | aT b e l=>exact hd (.sl e) l hv.1 hx
 | b7=>
  cases t with
  | sl e=>cases hx; cases hv; exact ⟨1,none,0,rfl,Nat.le_refl _, .inl rfl⟩
  | _=>cases hx
 | _=>cases hx
theorem EJ {s:St} {bx:Bx S.C} : ∀ (ts:List Ty) (hts:ts.all (fun t=> !a_ t)=true) {vs:List (Sy.V S.C)} {cs:List Value} {x:ag S.C ts},
 aF P S w s μ bx vs cs→eZ S (fun _=>none) ts vs=some x→ ∃ n,bk S (fun t x cs=>ay S w s n t x cs) ts x (cs.take ts.length)
 | [],_,_,cs,_,_,_=>⟨0,by simp [bk]⟩
 | t::ts,hts,[],_,_,_,hx=>by simp [eZ] at hx
 | t::ts,hts,V::vs,cs,x,⟨c,r,hcs,hv,hr⟩,hx=>by
  simp only [List.all_cons,Bool.and_eq_true,Bool.not_eq_true'] at hts
  simp only [eZ] at hx
  obtain ⟨y,hy,hx⟩:=Option.bind_eq_some_iff.1 hx
  obtain ⟨z,hz,hx⟩:=Option.bind_eq_some_iff.1 hx
  cases hx
  obtain ⟨n,hn⟩:=Av hts.1 hv hy
  obtain ⟨m,hm⟩:=EJ ts hts.2 hr hz
  refine ⟨max n m,c,r.take ts.length,by simp [hcs], ?_, ?_⟩
  · rw [show ag.head (ag.cons y z)=y from by cases ts <;> rfl]
    exact hn.up S (by omega)
  · rw [show ag.tail (ag.cons y z)=z from by cases ts <;> rfl]
    exact bk.mono S (fun t x cs hr=>hr.up S (by omega)) _ _ _ hm
theorem CJ (hS:ct S) {s:St} {bx:Bx S.C} {t:Ty} {vs:List (Sy.V S.C)} {cs:List Value} {x:t.den S.C}
 (hv:aF P S w s μ bx vs cs) (hx:fh S (fun _=>none) t vs=some x): ∃ n,ay S w s n t x (cs.take (Ty.sz S t)):=by
 have one:a_ t=false→Ty.sz S t=1→(∃ V r,vs=V::r∧cu S (fun _=>none) t V=some x)→ ∃ n,ay S w s n t x (cs.take (Ty.sz S t)):=by
  rintro ht h1 ⟨V,vs',rfl,hx1⟩
  rw [h1]
  obtain ⟨c,r,hcs,hv,hr⟩:=hv
  subst hcs
  exact Av ht hv hx1
 cases t with
 | st u=>
  simp only [fh] at hx
  obtain ⟨y,hy,hx⟩:=Option.bind_eq_some_iff.1 hx
  cases hx
  obtain ⟨n,hn⟩:=EJ (S.F u) (hS.flat u) hv hy
  refine ⟨n+1, ?_⟩
  show bk S _ (S.F u) (S.ex u (S.im u y)) _
  rw [hS.ni]
  exact hn
 | int k=>exact one rfl rfl (by cases vs with | nil=>cases hx | cons V r=>exact ⟨V,r,rfl,hx⟩)
 | bool=>exact one rfl rfl (by cases vs with | nil=>cases hx | cons V r=>exact ⟨V,r,rfl,hx⟩)
 | str=>exact one rfl rfl (by cases vs with | nil=>cases hx | cons V r=>exact ⟨V,r,rfl,hx⟩)
 | pt=>exact one rfl rfl (by cases vs with | nil=>cases hx | cons V r=>exact ⟨V,r,rfl,hx⟩)
 | sl e=>exact one rfl rfl (by cases vs with | nil=>cases hx | cons V r=>exact ⟨V,r,rfl,hx⟩)
theorem yL (P:Program) (hS:ct S) {s:St} {n:Nat} {e:Ty} {x:e.den S.C} {cs:List Value} (h:ay S w s n e x cs) {off:Nat} {t:Ty} {y:t.den S.C} (hy:partOf S e x off t=some y):
 ∃ m,ay S w s m t y ((cs.drop off).take (Ty.sz S t)):=by
 have he:=(iX (P:=P) hS (fun _=>⟨0,0,0,0,true⟩) (fun _=>none) h).1
 exact CJ (P:=P) hS (he.drop P S off) hy
theorem At.part {s:St} {b o':Nat} {cs:List Value} (h:At w s b o' cs) (off n:Nat):At w s b (o'+off) ((cs.drop off).take n):=fun j v hj=>by
 rw [List.getElem?_take] at hj
 split at hj
 · rw [Nat.add_assoc]; exact h (off+j) v (by simpa using hj)
 · cases hj
theorem y4 {b o':Nat} {cs:List Value} (h:w.rangeAt b o' cs) (off n:Nat):w.rangeAt b (o'+off) ((cs.drop off).take n):=Dx (Du h off) n
theorem At.range {s:St} {b o':Nat} {cs:List Value} (h:At w s b o' cs):w.rangeAt b o' cs:=fun j v hj=>(h j v hj).1
def dI (T:Ty) (ds:List Value):Value:=match T with
 | .st _=> .agg ds.toArray
 | _=>ds.headD Go.undef
theorem run_load (hP:aO P S af) {t:Nat} {T:Ty} (ht:S.ty t=some T) {b o':Nat} {ds:List Value} (hr:w.rangeAt b o' ds) (hl:ds.length=Ty.sz S T):
 (Instr.loadAt t (.pointer (some ⟨b,o',none⟩))).run P w= .ok (dI T ds) w:=by
 have one:a_ T=false→Ty.sz S T=1→dI T ds=ds.headD Go.undef→(Instr.loadAt t (.pointer (some ⟨b,o',none⟩))).run P w= .ok (dI T ds) w:=by
  intro h1 h2 h3
  rw [h2] at hl
  obtain ⟨c,rfl⟩:=List.length_eq_one_iff.1 hl
  have hc:=hr 0 c rfl
  rw [h3]
  have hag:=hP.agg ht w
  rw [h1] at hag
  simp [Instr.loadAt,Instr.sureAddr,loadVar,hag]
  have :w.cell? ⟨b,o',none⟩=some c:=hc
  simp [this]
 cases T with
 | st u=>
  obtain ⟨⟨i,z,h1,h2,_⟩,_,h3⟩:=hP.ty t _ ht
  cases ha:S.ar t with
  | none=>rw [ha] at h3; obtain ⟨fs,hu,_⟩:=h3; exact run_loadAt_mid w b o' t ds (.struct fs) hr hu rfl (by rw [h1]; simp [h2,hl])
  | some p=>rw [ha] at h3; obtain ⟨te,hu,_⟩:=h3; exact run_loadAt_mid w b o' t ds (.array p.1 te) hr hu rfl (by rw [h1]; simp [h2,hl])
 | int k=>exact one rfl rfl rfl
 | bool=>exact one rfl rfl rfl
 | str=>exact one rfl rfl rfl
 | pt=>exact one rfl rfl rfl
 | sl e=>exact one rfl rfl rfl
theorem tN {s:St} {n:Nat} {T:Ty} {x:T.den S.C} {ds:List Value} (h:ay S w s n T x ds):bS S w s T x (dI T ds):=by
 have hl:=h.length S
 have one:a_ T=false→Ty.sz S T=1→dI T ds=ds.headD Go.undef→bS S w s T x (dI T ds):=by
  intro h1 h2 h3
  rw [h2] at hl
  obtain ⟨c,rfl⟩:=List.length_eq_one_iff.1 hl
  rw [h3]
  have hc:isAgg c=false:=by
   cases n with
   | zero=>exact h.elim
   | succ n=>cases T with
    | int k=>simp [ay] at h; subst h; rfl
    | bool=>simp [ay] at h; subst h; rfl
    | str=>simp [ay] at h; subst h; rfl
    | pt=>simp [ay] at h; subst h; rfl
    | sl e=>obtain ⟨a,cap,h,_⟩:=h; simp at h; subst h; rfl
    | st u=>simp [a_] at h1
  refine ⟨by rw [h1]; exact hc,n, ?_⟩
  show ay S w s n T x c.cells.toList
  rw [ay.ig (t:=T) (by rw [hc,h1]) h1]
  exact h
 cases T with
 | st u=>exact ⟨rfl,n,by simpa [dI,Value.cells] using h⟩
 | int k=>exact one rfl rfl rfl
 | bool=>exact one rfl rfl rfl
 | str=>exact one rfl rfl rfl
 | pt=>exact one rfl rfl rfl
 | sl e=>exact one rfl rfl rfl
theorem J6 (hP:aO P S af) (h:Inv P S w0 M0 s0 dq env a w μ) (hd: ∀ d,o.dst=some d→d<a.tmps.size) {t:TypeId} {x:Operand} {ids:List Nat} (ho:o.op= .load t x)
 (hl:(match S.ty t,aK S env.tm x with
  | some T,some v=>yu S T (restrict S env.bx ids) v
  | _,_=> .fail).leaf (V,us)) (hK:Goal P S w0 M0 s0 dq env a o.dst V us K):o.wp P a w K Q:=by
 split at hl
 · rename_i T v ht hx
   obtain ⟨hv,cI⟩:=bg h hx
   have fin: ∀ (b o':Nat) (ds:List Value) (V':Sy.V S.C),a.eval x= .pointer (some ⟨b,o',none⟩)→w.rangeAt b o' ds→ds.length=Ty.sz S T→V=V'→us= []→
    RV P S w (aC S w0 M0 s0 env.bx μ w) μ env.bx V' (dI T ds)→(∀ i ∈ av S V',env.bx i≠none)→o.wp P a w K Q:=by
    rintro b o' ds V' he hr hlen rfl rfl cv eo
    refine wp_pure (V:=V) h (v:=dI T ds) ?_ hd cv eo hK
    unfold execOp
    simp only [ho,he]
    simp [run_load hP ht hr hlen]
   have AQ: ∀ (b off:Nat) (vs:List (Sy.V S.C)) (cs:List Value),v= .ptr b off→vs.all (br S)=true→w.rangeAt (μ b).b (μ b).o cs→aF P S w (aC S w0 M0 s0 env.bx μ w) μ env.bx vs cs→
    (∀ v ∈ vs, ∀ j ∈ aj S v,env.bx j≠none)→
    (match T with
     | .st u=>cond (Nat.ble (off+(S.F u).length) vs.length) (ax S (.agg u ((vs.drop off).take (S.F u).length)) []) .fail
     | _=>match vs[off]? with
      | some v=>ax S v []
      | none=> .fail).leaf (V,us)→o.wp P a w K Q:=by
    intro b off vs cs xS kI gN cv CC bQ
    clear hl
    subst xS
    have fE:a.eval x=_:=hv
    have hlen:=aF.length P S cv
    have scalar:a_ T=false→Ty.sz S T=1→(∀ ds,dI T ds=ds.headD Go.undef)→(match vs[off]? with | some v=>ax S v [] | none=> .fail:Rt S).leaf (V,us)→o.wp P a w K Q:=by
     intro h1 h2 h3 pZ
     split at pZ
     · rename_i v hi
       obtain ⟨e1,e2⟩:=bh pZ
       obtain ⟨c,hc,hr⟩:=aF.get P S off cv hi
       refine fin _ _ [c] v fE (fun j u hj=> ?_) (by rw [h2]; rfl) e1 e2 (by rw [h3]; exact iT hr) (fun j hj=>CC v (List.mem_of_getElem? hi) j ?_)
       · cases j with
         | zero=>simp at hj; subst hj; exact gN off c hc
         | succ j=>simp at hj
       · cases v <;> first | exact hj | exact (hr:False).elim
     · exact pZ.elim
    cases T with
    | st u=>
     dsimp only at bQ
     cases hb:Nat.ble (off+(S.F u).length) vs.length with
     | false=>rw [hb] at bQ; exact bQ.elim
     | true=>
      rw [hb] at bQ
      obtain ⟨e1,e2⟩:=bh bQ
      have hle:=Nat.le_of_ble_eq_true hb
      refine fin _ _ ((cs.drop off).take (S.F u).length) _ fE (y4 gN off _) ?_ e1 e2 ?_ ?_
      · rw [List.length_take,List.length_drop]; show min _ _=(S.F u).length; omega
      · refine ⟨((cs.drop off).take (S.F u).length).toArray,rfl, ?_, ?_, ?_⟩
        · rw [List.length_take,List.length_drop]; omega
        · rw [List.all_eq_true] at kI ⊢
          exact fun v hv=>kI v (List.mem_of_mem_drop (List.mem_of_mem_take hv))
        · simpa using (cv.drop P S off).take P S (S.F u).length
      · intro j hj
        simp only [av,List.mem_flatMap] at hj
        obtain ⟨v,hv,hj⟩:=hj
        exact CC v (List.mem_of_mem_drop (List.mem_of_mem_take hv)) j hj
    | int k=>exact scalar rfl rfl (fun _=>rfl) bQ
    | bool=>exact scalar rfl rfl (fun _=>rfl) bQ
    | str=>exact scalar rfl rfl (fun _=>rfl) bQ
    | pt=>exact scalar rfl rfl (fun _=>rfl) bQ
    | sl e=>exact scalar rfl rfl (fun _=>rfl) bQ
   unfold yu at hl
   split at hl
   · rename_i b off
     split at hl
     · rename_i vs hb
       have hb:=dF hb
       obtain ⟨h1,h2,h3,cs,h4,h5⟩:=h.bE b _ hb
       exact AQ b off vs cs rfl h1 h4 h5 (h.gR b vs (.inl hb)) hl
     · rename_i vs hb
       have hb:=dF hb
       obtain ⟨h1,cs,h4,h5⟩:=h.bE b _ hb
       exact AQ b off vs cs rfl h1 h4.range h5 (h.gR b vs (.inr hb)) hl
     · exact hl.elim
   · rename_i u y
     obtain ⟨b,o',ds,he,cC,hlen,n,hr⟩:=hv
     split at hl
     · rename_i y' hc
       obtain ⟨rfl,rfl⟩:=di hc
       obtain ⟨e1,e2⟩:=bh hl
       exact fin b o' ds _ he cC.range hlen e1 e2 (tN hr) (by simp [av,aj])
     · exact hl.elim
   · rename_i c
     obtain ⟨kb,q,he,cC⟩:=hv
     split at hl
     · obtain ⟨e1,e2⟩:=bh hl
       refine fin kb q [.pointer (some ⟨(μ c).b,(μ c).o,none⟩)] _ he cC.range rfl e1 e2 rfl (fun j hj=>cI j (by simpa [av,aj] using hj))
     · exact hl.elim
   · rename_i b i off
     have Bk: ∀ (e:Ty) (l:List (e.den S.C)),(env.bx b=some (.arr e l)∨env.bx b=some (.bp e l))→
      (∀ i x,l[i]? =some x→ ∃ ds,ds.length=Ty.sz S e∧w.rangeAt (μ b).b ((μ b).o+i*Ty.sz S e) ds∧ ∃ n,ay S w (aC S w0 M0 s0 env.bx μ w) n e x ds)→
      (match partOf S e (eN S e l i) off T with
       | some y=>ax S (.d T y) []
       | none=> .fail:Rt S).leaf (V,us)→o.wp P a w K Q:=by
      intro e l hb hel bQ
      obtain ⟨g0,g1,he⟩:=hv.2 e l hb
      split at bQ
      · rename_i y hy
        obtain ⟨e1,e2⟩:=bh bQ
        obtain ⟨ds,d1,d2,n,d3⟩:=hel i.toNat _ (nu g0 (by omega))
        obtain ⟨m,hm⟩:=yL P hP.toct d3 hy
        exact fin _ _ _ _ he (y4 d2 off (Ty.sz S T)) (hm.length S) e1 e2 (tN hm) (by simp [av,aj])
      · exact bQ.elim
     split at hl
     · rename_i e l hb
       have hb:=dF hb
       exact Bk e l (.inl hb) (h.bE b _ hb).2.2.2.2 hl
     · rename_i e l hb
       have hb:=dF hb
       refine Bk e l (.inr hb) (fun i x hi=> ?_) hl
       obtain ⟨ds,d1,d2,d3⟩:=(h.bE b _ hb).2.2 i x hi
       exact ⟨ds,d1,d2.range,d3⟩
     · exact hl.elim
   · exact hl.elim
 · exact hl.elim
end
end Go.Sy
namespace Go.Sy
section
variable {P:Program} {S:aN} {af:Nat→Nat}
variable {w0:World} {M0 s0:St} {dq:List Deferred} {env:Env S.C} {a:Act} {w:World} {μ:Nat→Loc} {K:Act→World→Prop} {Q:Exit→Act→World→Prop} {o:Oper} {V:V S.C} {us:aG S.C}
theorem MW {t u:Nat} (h:gX S t=some u):S.ar t=none∧S.ty t=some (.st u):=by
 unfold gX at h
 cases ha:S.ar t with
 | some p=>rw [ha] at h; cases h
 | none=>
  rw [ha] at h
  refine ⟨rfl, ?_⟩
  dsimp only at h
  split at h
  · rename_i u' hu; cases h; exact hu
  · cases h
theorem aO.dB (hP:aO P S af) {t u:Nat} (ht:gX S t=some u) {f o':Nat} {T:Ty} (hf:S.dB u f=some (o',T)):
 ∃ fs fd,P.underlying t=some (.struct fs)∧fs[f]? =some fd∧fd.offset=o'∧S.ty fd.type=some T∧1≤Ty.sz S T∧o'+Ty.sz S T≤(S.F u).length:=by
 obtain ⟨ha,ht⟩:=MW ht
 obtain ⟨_,_,h⟩:=hP.ty t _ ht
 rw [ha] at h
 obtain ⟨fs,hu,hfl⟩:=h
 obtain ⟨fd,h1,h2,h3,h4,h5⟩:=hfl f o' T hf
 exact ⟨fs,fd,hu,h1,h2,h3,h4,h5⟩
theorem Mp (hP:aO P S af) {t u:Nat} (ht:gX S t=some u) {f o':Nat} {T:Ty} (hf:S.dB u f=some (o',T)) (ad:Addr) (w:World):
 (Instr.fieldAt t (.pointer (some ad)) f).run P w= .ok (.pointer (some (ad.add o'))) w:=by
 obtain ⟨fs,fd,hu,h1,h2,h3,h4,_⟩:=hP.dB ht hf
 have hn: ¬ Ty.sz S T=0:=by omega
 simp [Instr.fieldAt,run_underlying hu,h1,Instr.sureAddr,fieldPlace,hP.size h3,hn,h2]
theorem Hs (hP:aO P S af) (h:Inv P S w0 M0 s0 dq env a w μ) (hd: ∀ d,o.dst=some d→d<a.tmps.size) {t:TypeId} {x:Operand} {f:Nat} (ho:o.op= .fieldAddr t x f)
 (hl:(match aK S env.tm x with
  | some v=>wV S t f v
  | none=> .fail).leaf (V,us)) (hK:Goal P S w0 M0 s0 dq env a o.dst V us K):o.wp P a w K Q:=by
 split at hl
 · rename_i v hx
   obtain ⟨hv,cI⟩:=bg h hx
   have fin: ∀ (ad:Addr) (u gP:Nat) (T:Ty),a.eval x= .pointer (some ad)→gX S t=some u→S.dB u f=some (gP,T)→us= []→
    RV P S w (aC S w0 M0 s0 env.bx μ w) μ env.bx V (.pointer (some (ad.add gP)))→(∀ i ∈ av S V,env.bx i≠none)→o.wp P a w K Q:=by
    rintro ad u gP T he ht hf rfl cv eo
    refine wp_pure (V:=V) h ?_ hd cv eo hK
    unfold execOp
    simp only [ho,he]
    simp [Mp hP ht hf]
   unfold wV at hl
   split at hl
   · rename_i b off
     split at hl
     · rename_i u ht
       split at hl
       · rename_i o' T hf
         obtain ⟨e1,e2⟩:=bh hl
         subst e1
         refine fin _ u o' T hv ht hf e2 ?_ (fun i hi=>cI i hi)
         show Value.pointer _=_
         rw [Addr.add_mid,Nat.add_assoc]
       · exact hl.elim
     · exact hl.elim
   · rename_i u y
     split at hl
     · rename_i u' ht
       cases hb:Nat.beq u u' with
       | false=>rw [hb] at hl; exact hl.elim
       | true=>
       rw [hb] at hl
       obtain rfl:=Nat.eq_of_beq_eq_true hb
       dsimp only [cond] at hl
       split at hl
       · rename_i o' T hf
         split at hl
         · rename_i z hz
           obtain ⟨e1,e2⟩:=bh hl
           subst e1
           obtain ⟨b,gP,ds,he,cC,hlen,n,hr⟩:=hv
           obtain ⟨m,hm⟩:=yL P hP.toct hr hz
           exact fin _ u o' T he ht hf e2 ⟨b,_,_,by rw [Addr.add_mid],cC.part o' _,hm.length S,m,hm⟩ (by simp [av,aj])
         · exact hl.elim
       · exact hl.elim
     · exact hl.elim
   · rename_i b i off
     split at hl
     · rename_i u ht
       split at hl
       · rename_i o' T hf
         obtain ⟨e1,e2⟩:=bh hl
         subst e1
         obtain ⟨⟨ad,he⟩,ff⟩:=hv
         refine fin _ u o' T he ht hf e2 ⟨⟨_,rfl⟩,fun e' l' hb'=> ?_⟩ (fun i hi=>cI i hi)
         obtain ⟨HA,HB,he'⟩:=ff e' l' hb'
         refine ⟨HA,HB, ?_⟩
         rw [he'] at he
         cases he
         rw [Addr.add_mid,Nat.add_assoc]
       · exact hl.elim
     · exact hl.elim
   · rename_i b c
     obtain ⟨kb,q,he,cC,eu,xz⟩:=hv
     split at hl
     · rename_i u ht
       split at hl
       · rename_i o' T hf
         split at hl
         · obtain ⟨e1,e2⟩:=bh hl
           subst e1
           exact fin _ u 0 T he ht hf e2 ⟨kb,q,rfl,cC⟩ (fun i hi=>cI i (by simp [av,aj] at hi ⊢; exact .inr hi))
         · rename_i gP
           obtain ⟨e1,e2⟩:=bh hl
           subst e1
           refine fin _ u (gP+1) T he ht hf e2 ?_ (fun i hi=>cI i (by simp [av,aj] at hi ⊢; exact .inl hi))
           show Value.pointer _=_
           rw [Addr.add_mid,eu,xz,Nat.add_assoc,Nat.add_comm 1 gP]
       · exact hl.elim
     · exact hl.elim
   · exact hl.elim
 · exact hl.elim
theorem j0 (hP:aO P S af) {t:Nat} {T:Ty} (ht:S.ty t=some T) {cs:Array Value} {off:Nat} (hle:off+Ty.sz S T≤cs.size) (w:World):
 (part t cs off).run P w= .ok (dI T ((cs.toList.drop off).take (Ty.sz S T))) w:=by
 have one:a_ T=false→Ty.sz S T=1→(∀ ds,dI T ds=ds.headD Go.undef)→(part t cs off).run P w= .ok (dI T ((cs.toList.drop off).take (Ty.sz S T))) w:=by
  intro h1 h2 h3
  have hag:=hP.agg ht w
  rw [h1] at hag
  rw [h2] at hle
  have hlt:off<cs.size:=by omega
  unfold part
  simp [hag,hlt]
  rw [h3,h2,List.drop_eq_getElem_cons (by simpa using hlt)]
  simp
 cases T with
 | st u=>
  have hag:=hP.agg ht w
  have hsz:=hP.size ht w
  unfold part
  simp only [Sem.run_bind,hag,hsz,a_,Result.andThen_ok,if_true,Sem.run_pure]
  congr 2
  show _=((cs.toList.drop off).take (Ty.sz S (.st u))).toArray
  apply Array.ext'
  simp [Array.toList_extract,List.extract_eq_take_drop]
 | int k=>exact one rfl rfl (fun _=>rfl)
 | bool=>exact one rfl rfl (fun _=>rfl)
 | str=>exact one rfl rfl (fun _=>rfl)
 | pt=>exact one rfl rfl (fun _=>rfl)
 | sl e=>exact one rfl rfl (fun _=>rfl)
theorem Ht (hP:aO P S af) (h:Inv P S w0 M0 s0 dq env a w μ) (hd: ∀ d,o.dst=some d→d<a.tmps.size) {t:TypeId} {x:Operand} {f:Nat} (ho:o.op= .field t x f)
 (hl:(match gX S t,aK S env.tm x with
  | some u,some (.d (.st u') y)=>cond (Nat.beq u u') (match S.dB u' f with
   | some (o,w)=>match partOf S (.st u') y o w with
    | some z=>ax S (.d w z) []
    | none=> .fail
   | none=> .fail) .fail
  | some u,some (.agg u' vs)=>cond (Nat.beq u u'&&vs.length == (S.F u).length) (match S.dB u f with
   | some (o, .st w)=>ax S (.agg w ((vs.drop o).take (S.F w).length)) []
   | some (o,_)=>match vs[o]? with
    | some v=>ax S v []
    | none=> .fail
   | none=> .fail) .fail
  | _,_=> .fail).leaf (V,us)) (hK:Goal P S w0 M0 s0 dq env a o.dst V us K):o.wp P a w K Q:=by
 have fin: ∀ (u gP:Nat) (T:Ty) (cs:Array Value),a.eval x= .agg cs→cs.size=(S.F u).length→gX S t=some u→S.dB u f=some (gP,T)→us= []→
  RV P S w (aC S w0 M0 s0 env.bx μ w) μ env.bx V (dI T ((cs.toList.drop gP).take (Ty.sz S T)))→(∀ i ∈ av S V,env.bx i≠none)→o.wp P a w K Q:=by
  rintro u gP T cs he hsz ht hf rfl cv eo
  obtain ⟨fs,fd,hu,h1,h2,h3,h4,h5⟩:=hP.dB ht hf
  refine wp_pure (V:=V) h ?_ hd cv eo hK
  unfold execOp
  simp only [ho,he]
  simp [Instr.field,run_underlying hu,h1,asAgg,h2,j0 hP h3 (cs:=cs) (off:=gP) (by omega)]
 split at hl
 · rename_i u u' y ht hx
   obtain ⟨hv,cI⟩:=bg h hx
   cases hb:Nat.beq u u' with
   | false=>rw [hb] at hl; exact hl.elim
   | true=>
    rw [hb] at hl
    obtain rfl:=Nat.eq_of_beq_eq_true hb
    dsimp only [cond] at hl
    split at hl
    · rename_i o' T hf
      split at hl
      · rename_i z hz
        obtain ⟨e1,e2⟩:=bh hl
        subst e1
        obtain ⟨ha,n,hr⟩:=hv
        have : ∃ cs,a.eval x= .agg cs:=by
         cases e:a.eval x <;> rw [e] at ha <;> first | exact ⟨_,rfl⟩ | (simp [Go.Sy.isAgg,a_] at ha)
        obtain ⟨cs,he⟩:=this
        rw [he] at hr
        obtain ⟨m,hm⟩:=yL P hP.toct hr hz
        exact fin u o' T cs he (by have :=hr.length S; simpa [Value.cells,Ty.sz] using this) ht hf e2 (tN hm) (by simp [av,aj])
      · exact hl.elim
    · exact hl.elim
 · rename_i u u' vs ht hx
   obtain ⟨⟨cs,he,hlen,kI,hvs⟩,cI⟩:=bg h hx
   cases hb:(Nat.beq u u'&&vs.length == (S.F u).length) with
   | false=>rw [hb] at hl; exact hl.elim
   | true=>
    rw [hb] at hl
    rw [Bool.and_eq_true] at hb
    obtain rfl:=Nat.eq_of_beq_eq_true hb.1
    have hcl:=aF.length P S hvs
    have hsz:cs.size=(S.F u).length:=by rw [← hlen, ← hcl]; simp
    dsimp only [cond] at hl
    split at hl
    · rename_i o' rM hf
      obtain ⟨e1,e2⟩:=bh hl
      subst e1
      obtain ⟨fs,fd,hu,h1,h2,h3,h4,h5⟩:=hP.dB ht hf
      refine fin u o' _ cs he hsz ht hf e2 ⟨_,rfl, ?_, ?_, ?_⟩ (fun i hi=> ?_)
      · rw [List.length_take,List.length_drop]
        have :Ty.sz S (.st rM)=(S.F rM).length:=rfl
        omega
      · rw [List.all_eq_true] at kI ⊢
        exact fun v hv=>kI v (List.mem_of_mem_drop (List.mem_of_mem_take hv))
      · have :=(hvs.drop P S o').take P S (S.F rM).length
        simpa [Ty.sz] using this
      · simp only [av,List.mem_flatMap] at hi
        obtain ⟨v,hv,hi⟩:=hi
        exact cI i (by simp only [av,List.mem_flatMap]; exact ⟨v,List.mem_of_mem_drop (List.mem_of_mem_take hv),hi⟩)
    · rename_i o' T hne hf
      split at hl
      · rename_i v hi
        obtain ⟨e1,e2⟩:=bh hl
        subst e1
        obtain ⟨c,hc,hr⟩:=aF.get P S o' hvs hi
        have hT:a_ T=false:=by
         cases T with
         | st rM=>exact absurd rfl (hne rM)
         | _=>rfl
        have hmk:dI T ((cs.toList.drop o').take (Ty.sz S T))=c:=by
         have h1:Ty.sz S T=1:=by cases T <;> first | rfl | simp [a_] at hT
         have hlt:=(List.getElem?_eq_some_iff.1 hc).1
         have lX:=(List.getElem?_eq_some_iff.1 hc).2
         rw [h1,List.drop_eq_getElem_cons hlt]
         cases T <;> first | (simp [dI,lX]; done) | simp [a_] at hT
        refine fin u o' T cs he hsz ht hf e2 (by rw [hmk]; exact iT hr) (fun i hi'=> ?_)
        refine cI i ?_
        simp only [av,List.mem_flatMap]
        refine ⟨V,List.mem_of_getElem? hi, ?_⟩
        cases V <;> first | exact hi' | exact (hr:False).elim
      · exact hl.elim
    · exact hl.elim
 · exact hl.elim
end
end Go.Sy
namespace Go.Sy
section
variable {P:Program} {S:aN} {af:Nat→Nat}
variable {w0:World} {M0 s0:St} {dq:List Deferred} {env:Env S.C} {a:Act} {w:World} {μ:Nat→Loc} {K:Act→World→Prop} {Q:Exit→Act→World→Prop} {o:Oper} {V:V S.C} {us:aG S.C}
theorem Hp (s:List UInt8) (i j:Nat):(⟨s.toArray⟩:ByteArray).extract i j=⟨((s.take j).drop i).toArray⟩:=by
 apply ByteArray.ext
 apply Array.ext'
 rw [Lib.extract_data]
 simp [List.drop_take]
theorem D9 (s:List UInt8):ByteArray.size ⟨s.toArray⟩=s.length:=by show s.toArray.size=_; simp
theorem mw {k:IntKind} {i:Int} {y:Nat} (code:BoundsCode) (h0:0≤i) (h1:i≤(y:Int)) (w:World):(Instr.sliceBound (.int k i) y code).run P w= .ok i.toNat w:=by
 simp [Instr.sliceBound,asIntOf,h0,h1]
theorem Dd (h:Inv P S w0 M0 s0 dq env a w μ) {x:Option Operand} {l:Option (Sy.V S.C)} (hx:f_ S env.tm x=some l):
 (x=none∧l=none)∨ ∃ y v,x=some y∧l=some v∧RV P S w (aC S w0 M0 s0 env.bx μ w) μ env.bx v (a.eval y):=by
 cases x with
 | none=>cases hx; exact .inl ⟨rfl,rfl⟩
 | some y=>
  simp only [f_] at hx
  obtain ⟨v,hv,hx⟩:=Option.bind_eq_some_iff.1 hx
  cases hx
  exact .inr ⟨y,v,rfl,rfl,(bg h hv).1⟩
theorem lZ {s:St} {bx:Bx S.C} {V:Sy.V S.C} {v:Value} {n:Int} (h:RV P S w s μ bx V v) (hi:jR S V=some n): ∃ k,v= .int k n:=by
 unfold jR at hi
 cases e:V.int? with
 | none=>rw [e] at hi; cases hi
 | some p=>
  rw [e] at hi
  cases hi
  exact ⟨p.1,fW h e⟩
theorem lP (h:Inv P S w0 M0 s0 dq env a w μ) {lo hi:Option Operand} {l hh:Option (Sy.V S.C)} (hlo:f_ S env.tm lo=some l) (hhi:f_ S env.tm hi=some hh) {n cap:Nat} (hcap:n≤cap)
 {gs:List Gd} {i j:Int} (hb:bounds S n l hh=some (gs,i,j)) (hg: ∀ g ∈ gs,g.p) (Jw:Bool):
 (Instr.sliceBounds Jw n cap (lo.map a.eval) (hi.map a.eval) none).run P w= .ok (i.toNat,j.toNat,cap) w∧0≤i∧i≤j∧j≤(n:Int)∧(hh=none→j=n):=by
 rcases Dd h hlo with ⟨rfl,rfl⟩ | ⟨x,v,rfl,rfl,hv⟩ <;> rcases Dd h hhi with ⟨rfl,rfl⟩ | ⟨y,u,rfl,rfl,hu⟩
 · cases hb
   exact ⟨by simp [Instr.sliceBounds],by omega,by omega,by omega,fun _=>rfl⟩
 · simp only [bounds] at hb
   obtain ⟨m,hm,hb⟩:=Option.bind_eq_some_iff.1 hb
   cases hb
   obtain ⟨k,hk⟩:=lZ hu hm
   have g0:0≤j:=hg ⟨0≤j,inferInstance⟩ (by simp [gd])
   have g1:j≤(n:Int):=hg ⟨j≤(n:Int),inferInstance⟩ (by simp [gd])
   refine ⟨?_,by omega,by omega,g1,fun h=>by cases h⟩
   simp only [Option.map,hk,Instr.sliceBounds]
   simp [mw (P:=P) _ g0 (show j≤(cap:Int) by omega)]
 · simp only [bounds] at hb
   obtain ⟨m,hm,hb⟩:=Option.bind_eq_some_iff.1 hb
   cases hb
   obtain ⟨k,hk⟩:=lZ hv hm
   have g0:0≤i:=hg ⟨0≤i,inferInstance⟩ (by simp [gd])
   have g1:i≤(n:Int):=hg ⟨i≤(n:Int),inferInstance⟩ (by simp [gd])
   refine ⟨?_,g0,g1,by omega,fun _=>rfl⟩
   simp only [Option.map,hk,Instr.sliceBounds]
   simp [mw (P:=P) _ g0 g1]
 · simp only [bounds] at hb
   obtain ⟨m,hm,hb⟩:=Option.bind_eq_some_iff.1 hb
   obtain ⟨p,hp,hb⟩:=Option.bind_eq_some_iff.1 hb
   cases hb
   obtain ⟨k,hk⟩:=lZ hv hm
   obtain ⟨k',hk'⟩:=lZ hu hp
   have g0:0≤j:=hg ⟨0≤j,inferInstance⟩ (by simp [gd])
   have g1:j≤(n:Int):=hg ⟨j≤(n:Int),inferInstance⟩ (by simp [gd])
   have g2:0≤i:=hg ⟨0≤i,inferInstance⟩ (by simp [gd])
   have g3:i≤j:=hg ⟨i≤j,inferInstance⟩ (by simp [gd])
   refine ⟨?_,g2,g3,g1,fun h=>by cases h⟩
   simp only [Option.map,hk,hk',Instr.sliceBounds]
   simp [mw (P:=P) _ g0 (show j≤(cap:Int) by omega),mw (P:=P) .sliceB g2 (show i≤(j.toNat:Int) by omega)]
def gY (ad:Option Addr) (cap lo sz:Nat):Option Addr:=if cap=lo then ad else ad.map (·.add (lo*sz))
theorem Mu (hP:aO P S af) {t:Nat} {e:Ty} (ht:S.ty t=some (.sl e)) {ad:Option Addr} {n cap i j:Nat} {lo hi:Option Value}
 (hb:(Instr.sliceBounds true n cap lo hi none).run P w= .ok (i,j,cap) w):(Instr.sliceAt t (.slice ad n cap) lo hi none).run P w= .ok (.slice (gY ad cap i (Ty.sz S e)) (j - i) (cap - i)) w:=by
 obtain ⟨te,ie,z,hu,he,_⟩:=hP.sl ht
 simp [Instr.sliceAt,Instr.slice,run_underlying hu,hb,hP.size he,gY]
theorem wI {α:Type} (l:List α) {i j:Int} {hh:Option (Sy.V S.C)} (h0:0≤i) (h1:i≤j) (h2:j≤(l.length:Int)) (hn:hh=none→j=(l.length:Int)):
 gm S l i j hh=(l.take j.toNat).drop i.toNat:=by
 cases hh with
 | none=>
  have :=hn rfl
  show l.drop i.toNat=_
  rw [this,show ((l.length:Int)).toNat=l.length from by omega,List.take_length]
 | some v=>rfl
theorem KW {R:(t:Ty)→t.den S.C→List Value→Prop} {s:St} {e:Ty} {b o':Nat} {l:List (e.den S.C)} (h:oL S R w s e b o' l) (i j:Nat):oL S R w s e b (o'+i*Ty.sz S e) ((l.take j).drop i):=fun k x hk=>by
 have hk':l[i+k]? =some x:=by
  rw [List.getElem?_drop,List.getElem?_take] at hk
  split at hk
  · exact hk
  · cases hk
 obtain ⟨ds,d1,d2,d3⟩:=h (i+k) x hk'
 refine ⟨ds,d1, ?_,d3⟩
 rw [show o'+i*Ty.sz S e+k*Ty.sz S e=o'+(i+k)*Ty.sz S e from by rw [Nat.add_mul]; omega]
 exact d2
theorem zN {s:St} {e:Ty} {l:List (e.den S.C)} {ad:Option Addr} {cap:Nat} (h:bS S w s (.sl e) l (.slice ad l.length cap)) {i j:Nat} (h1:i≤j) (h2:j≤l.length):
 bS S w s (.sl e) ((l.take j).drop i) (.slice (gY ad cap i (Ty.sz S e)) (j - i) (cap - i)):=by
 obtain ⟨lO,cap',he,hle,hel⟩:=h_ h
 cases he
 have hlen:((l.take j).drop i).length=j - i:=by rw [List.length_drop,List.length_take]; omega
 rcases hel with hel | ⟨b,o',n,rfl,hel⟩
 · exact ⟨rfl,1,_,_,by rw [hlen]; rfl,by rw [hlen]; omega, .inl (by rw [hlen]; omega)⟩
 · by_cases hc:cap=i
   · exact ⟨rfl,1,_,_,by rw [hlen]; rfl,by rw [hlen]; omega, .inl (by rw [hlen]; omega)⟩
   · refine ⟨rfl,n+1,_,_,by rw [hlen]; rfl,by rw [hlen]; omega, .inr ⟨b,o'+i*Ty.sz S e, ?_,KW hel i j⟩⟩
     rw [gY,if_neg hc]
     simp [Addr.add_mid]
theorem Mw {t:Nat} (hu:P.underlying t=some .string) (s:List UInt8) {i j:Nat} {lo hi:Option Value}
 (hb:(Instr.sliceBounds false s.length s.length lo hi none).run P w= .ok (i,j,s.length) w):(Instr.sliceAt t (.string ⟨s.toArray⟩) lo hi none).run P w= .ok (.string ⟨((s.take j).drop i).toArray⟩) w:=by
 have e1:=Hp s i j
 have hsz:=D9 s
 simp [Instr.sliceAt,Instr.slice,run_underlying hu,hsz,hb,e1]
theorem F6 {n:Nat} {hh:Option (Sy.V S.C)} {gs:List Gd} {i j:Int} (hb:bounds S n none hh=some (gs,i,j)):i=0:=by
 cases hh with
 | none=>cases hb; rfl
 | some u=>
  simp only [bounds] at hb
  obtain ⟨m,hm,hb⟩:=Option.bind_eq_some_iff.1 hb
  cases hb; rfl
theorem zX {s':St} {bx:Bx S.C} {k:Nat} {e:Ty} {l:List (e.den S.C)} (hb:bx k=some (.arr e l)) {ad:Option Addr} {n cap:Nat} (ha:kq (μ k) ad n cap (Ty.sz S e)) {N:Nat} {lo hh:Option (Sy.V S.C)} {gs:List Gd} {i j:Int}
 (hbd:bounds S N lo hh=some (gs,i,j)) (h0:0≤i) (h1:i≤j) (h2:j≤(l.length:Int)) (h3:j≤(cap:Int)):
 RV P S w s' μ bx (kj S k i j lo) (.slice (gY ad cap i.toNat (Ty.sz S e)) (j.toNat - i.toNat) (cap - i.toNat)):=by
 have hn: ∀ e' (l':List (e'.den S.C)),bx k=some (.arr e' l')→e'=e∧l'.length=l.length∧Ty.sz S e'=Ty.sz S e:=by
  intro e' l' h
  rw [hb] at h
  cases h
  exact ⟨rfl,rfl,rfl⟩
 cases lo with
 | none=>
  have :=F6 hbd
  subst this
  refine ⟨⟨_,_,_,rfl⟩,fun e' l' hb'=> ?_⟩
  obtain ⟨_,q2,q3⟩:=hn e' l' hb'
  rw [q2,q3]
  have hs:gY ad cap 0 (Ty.sz S e)=ad:=by
   unfold gY
   split
   · rfl
   · rw [ha.addr]
     split
     · rfl
     · simp [Addr.add_mid]
  refine ⟨h1,by omega,ad,cap, ?_,ha.addr,ha.gG,ha.cells,ha.isNil,by omega⟩
  rw [show (0:Int).toNat=0 from rfl,hs]; rfl
 | some u=>
  refine ⟨⟨_,_,_,rfl⟩,fun e' l' hb'=> ?_⟩
  obtain ⟨_,q2,q3⟩:=hn e' l' hb'
  rw [q2,q3]
  refine ⟨h0,by omega,by omega,_,_,by rw [show (j - i).toNat=j.toNat - i.toNat from by omega],by omega, ?_⟩
  by_cases hz:(j - i).toNat=0
  · exact .inl hz
  · refine .inr ?_
    have iA:(μ k).nil=false:=by
     cases hn:(μ k).nil with
     | false=>rfl
     | true=>have :=ha.isNil hn; have :=ha.gG; omega
    unfold gY
    rw [if_neg (by omega),ha.addr,iA]
    simp [Addr.add_mid]
theorem MT (hP:aO P S af) (h:Inv P S w0 M0 s0 dq env a w μ) (hd: ∀ d,o.dst=some d→d<a.tmps.size) {t:TypeId} {x:Operand} {lo hi:Option Operand} {ids:List Nat} {vw:Bool} (ho:o.op= .slice t x lo hi none)
 (hl:(match S.ty t,aK S env.tm x,f_ S env.tm lo,f_ S env.tm hi with
  | some T,some v,some l,some h=>zG S vw T (restrict S env.bx ids) l h v
  | _,_,_,_=> .fail).leaf (V,us)) (hK:Goal P S w0 M0 s0 dq env a o.dst V us K):o.wp P a w K Q:=by
 split at hl
 · rename_i T v l hh ht hx hlo hhi
   obtain ⟨hv,cI⟩:=bg h hx
   have run: ∀ (e:Ty) (ad:Option Addr) (n cap i j:Nat),S.ty t=some (.sl e)→a.eval x= .slice ad n cap→(Instr.sliceBounds true n cap (lo.map a.eval) (hi.map a.eval) none).run P w= .ok (i,j,cap) w→
    (execOp a.eval o).run P w= .ok (.value (.slice (gY ad cap i (Ty.sz S e)) (j - i) (cap - i))) w:=by
    intro e ad n cap i j ht he hb
    unfold execOp
    simp only [ho,he]
    simp [Mu hP ht hb]
   have data: ∀ (e:Ty) (s:List (e.den S.C)),bS S w (aC S w0 M0 s0 env.bx μ w) (.sl e) s (a.eval x)→(if T= .sl e then match bounds S s.length l hh with
    | some (gs,a,b)=>Tr.gd gs (ax S (.d (.sl e) (gm S s a b hh)) [])
    | none=> .fail else .fail:Rt S).leaf (V,us)→o.wp P a w K Q:=by
    intro e s hr bQ
    clear hl
    split at bQ
    · rename_i hT
      subst hT
      split at bQ
      · rename_i gs i j hb
        obtain ⟨hg,rfl,rfl⟩:=eg bQ
        obtain ⟨ad,cap,he,hcap,_⟩:=h_ hr
        obtain ⟨b1,b2,b3,b4,b5⟩:=lP h hlo hhi hcap hb hg true
        rw [he] at hr
        refine wp_pure (V:= .d (.sl e) (gm S s i j hh)) h (run e ad _ cap _ _ ht he b1) hd ?_ (by simp [av,aj]) hK
        show bS S w _ (.sl e) (gm S s i j hh) _
        rw [wI s b2 b3 b4 b5]
        exact zN hr (by omega) (by omega)
      · exact bQ.elim
    · exact bQ.elim
   unfold zG at hl
   split at hl
   · rename_i s
     split at hl
     · rename_i hT
       subst hT
       split at hl
       · rename_i gs i j hb
         obtain ⟨hg,rfl,rfl⟩:=eg hl
         have he:=kA hv
         obtain ⟨b1,b2,b3,b4,b5⟩:=lP h hlo hhi (Nat.le_refl _) hb hg false
         have hu:P.underlying t=some .string:=(hP.ty t _ ht).2
         refine wp_pure (V:= .d .str (gm S s i j hh)) h (v:= .string ⟨((List.take j.toNat s).drop i.toNat).toArray⟩) ?_ hd ?_ (by simp [av,aj]) hK
         · unfold execOp
           simp only [ho,he]
           rw [Sem.run_bind,show Option.map a.eval none=none from rfl,Mw hu s b1]
           rfl
         · show bS S w _ .str (gm S s i j hh) _
           rw [wI s b2 b3 b4 b5]
           exact rG ..
       · exact hl.elim
     · exact hl.elim
   · exact data _ _ hv hl
   · rename_i k e s
     split at hl
     · rename_i hT
       subst hT
       split at hl
       · rename_i gs i j hb
         obtain ⟨hg,rfl,rfl⟩:=eg hl
         obtain ⟨ad,cap,he,hcap,_⟩:=h_ hv.1
         obtain ⟨b1,b2,b3,b4,b5⟩:=lP h hlo hhi hcap hb hg true
         have hr:=hv.1
         rw [he] at hr
         have hsub:=zN hr (show i.toNat≤j.toNat by omega) (by omega)
         cases hh with
         | some fE=>
          refine wp_pure (V:= .d (.sl e) (cut s i j)) h (run e ad _ cap _ _ ht he b1) hd hsub (by simp [av,aj]) hK
         | none=>
          have hj:=b5 rfl
          have B9:cutFrom s i=(s.take j.toNat).drop i.toNat:=by
           show s.drop i.toNat=_
           rw [hj,show ((s.length:Int)).toNat=s.length from by omega,List.take_length]
          refine wp_pure (V:= .aT k e (cutFrom s i)) h (run e ad _ cap _ _ ht he b1) hd ⟨by rw [B9]; exact hsub,fun hb'=> ?_⟩ (fun i hi=>cI i hi) hK
          have hlen:(cutFrom s i).length=j.toNat - i.toNat:=by rw [B9,List.length_drop,List.length_take]; omega
          obtain ⟨lO,cap',he',qc⟩:=hv.2 hb'
          rw [he] at he'
          cases he'
          refine ⟨_,_,by rw [hlen], ?_⟩
          rw [hlen]
          rcases qc with ⟨rfl,rfl,hn⟩ | ⟨b,o',rfl,t1,t2⟩
          · exact .inl ⟨by unfold gY; split <;> rfl,by omega,hn⟩
          · by_cases hc:cap=i.toNat
            · refine .inr ⟨b,o',by rw [gY,if_pos hc], ?_,fun hlt=>by omega⟩
              rw [t1]; congr 1; omega
            · refine .inr ⟨b,o'+i.toNat*Ty.sz S e,by rw [gY,if_neg hc]; simp [Addr.add_mid], ?_,fun hlt=> ?_⟩
              · rw [t1]; congr 1; omega
              · obtain ⟨t2,t3⟩:=t2 (by omega)
                refine ⟨t2, ?_⟩
                rw [t3]
                have :s.length*Ty.sz S e=i.toNat*Ty.sz S e+(j.toNat - i.toNat)*Ty.sz S e:=by rw [← Nat.add_mul]; congr 1; omega
                omega
       · exact hl.elim
     · exact hl.elim
   · rename_i k
     split at hl
     · rename_i e s hb
       have hb:=dF hb
       split at hl
       · rename_i hT
         subst hT
         split at hl
         · rename_i gs i j hbd
           cases vw with
           | true=>
            obtain ⟨hg,rfl,rfl⟩:=eg hl
            obtain ⟨ad,cap,he,hao⟩:=hv.2 e s (.inl hb)
            obtain ⟨b1,b2,b3,b4,b5⟩:=lP h hlo hhi hao.fits hbd hg true
            have hfit:=hao.fits
            refine wp_pure (V:=kj S k i j l) h (run e ad _ cap _ _ ht he b1) hd (zX hb hao hbd b2 b3 b4 (by omega)) (fun q hq=> ?_) hK
            have :q=k:=by cases l <;> simpa [kj,av,aj] using hq
            rw [this,hb]; simp
           | false=>
           have hl:(Tr.gd gs (ax S (.d (.sl e) (gm S s i j hh)) [(k, .bp e s)]):Rt S).leaf (V,us):=hl
           obtain ⟨hg,rfl,rfl⟩:=eg hl
           have htk:Tk S env.bx (ai env.bx [(k, .bp e s)]):=Tk.EU hb
           obtain ⟨ad,cap,he,hao⟩:=hv.2 e s (.inl hb)
           obtain ⟨b1,b2,b3,b4,b5⟩:=lP h hlo hhi hao.fits hbd hg true
           refine OD (V:= .d (.sl e) (gm S s i j hh)) h (run e ad _ cap _ _ ht he b1) hd htk (fun hI=> ?_) (by simp [av,aj]) hK
           have hr:=w5 hI (Tk.refl S _) (aL env.bx k (some (.bp e s))) (bn.step P S (Er htk) (fun i B0 bq=> ?_) (fun j hj=>cI j hj) hv)
           · rw [he] at hr
             show bS S w _ (.sl e) (gm S s i j hh) _
             rw [wI s b2 b3 b4 b5]
             have hr':bS S w (bV S w0 M0 s0 (ai env.bx [(k, .bp e s)]) (ai env.bx [(k, .bp e s)]) μ w) (.sl e) s (.slice ad s.length cap):=⟨rfl,hr⟩
             refine bS.mono S (fun b o ⟨h1,h2,h3⟩=>⟨⟨h1,h2,fun i hi=> ?_⟩,rfl⟩) (zN hr' (show i.toNat≤j.toNat by omega) (by omega))
             rcases h3 i hi with ⟨e',l',hf⟩ | hf
             · unfold live at hi; rw [hf] at hi; exact hi.elim
             · exact hf
           · rcases htk i with e1 | ⟨e1,_⟩ | ⟨e',l',e1,e2⟩
             · exact ⟨B0,e1.trans bq,cc.refl S _ _⟩
             · exact ⟨_,e1,by cases B0 <;> rfl⟩
             · rw [bq] at e1; cases e1; exact ⟨_,e2,rfl,rfl,rfl⟩
         · exact hl.elim
       · exact hl.elim
     · rename_i e s hb
       have hb:=dF hb
       refine data e s ?_ hl
       obtain ⟨n,hn⟩:=w5 h (Tk.refl S _) hb hv
       obtain ⟨ad,cap,he,hao⟩:=hv.2 e s (.inr hb)
       rw [he] at hn ⊢
       refine ⟨rfl,n,hn.mono S (fun b o ⟨h1,h2,h3⟩=>⟨⟨h1,h2,fun i hi=> ?_⟩,rfl⟩) (Nat.le_refl _)⟩
       rcases h3 i hi with ⟨e',l',hf⟩ | hf
       · unfold live at hi; rw [hf] at hi; exact hi.elim
       · exact hf
     · exact hl.elim
   · rename_i k n
     split at hl
     · rename_i e s hb
       have hb:=dF hb
       obtain ⟨hn0,hnl,ad,cap,he,hao⟩:=hv.2 e s hb
       obtain ⟨g1,g2,g3,g4,g5⟩:=h.bE k _ hb
       have hcap:=hao.gG
       have hfit:=hao.fits
       have ids: ∀ i j, ∀ q ∈ av S (kj S k i j l),env.bx q≠none:=fun i j q hq=>by
        have :q=k:=by cases l <;> simpa [kj,av,aj] using hq
        rw [this,hb]; simp
       split at hl
       · rename_i hT
         subst hT
         cases hh with
         | none=>
          dsimp only at hl
          split at hl
          · rename_i gs i j hbd
            obtain ⟨hg,rfl,rfl⟩:=eg hl
            obtain ⟨b1,b2,b3,b4,b5⟩:=lP h hlo hhi hao.fits hbd hg true
            exact wp_pure (V:=kj S k i j l) h (run e ad _ cap _ _ ht he b1) hd (zX hb hao hbd b2 b3 (by omega) (by omega)) (ids i j) hK
          · exact hl.elim
         | some u=>
          dsimp only at hl
          split at hl
          · rename_i gs i j hbd
            obtain ⟨hg,rfl,rfl⟩:=eg hl
            obtain ⟨b1,b2,b3,b4,b5⟩:=lP (cap:=cap) h hlo hhi (show s.length≤cap by omega) hbd hg true
            obtain ⟨hi',IC⟩: ∃ y,hi=some y:=by
             cases hi with
             | none=>cases hhi
             | some y=>exact ⟨y,rfl⟩
            subst IC
            have F0:(Instr.sliceBounds true n.toNat cap (lo.map a.eval) ((some hi').map a.eval) none).run P w= .ok (i.toNat,j.toNat,cap) w:=b1
            exact wp_pure (V:=kj S k i j l) h (run e ad _ cap _ _ ht he F0) hd (zX hb hao hbd b2 b3 b4 (by omega)) (ids i j) hK
          · exact hl.elim
       · exact hl.elim
     · exact hl.elim
   · exact hl.elim
 · exact hl.elim
theorem JL (hP:aO P S af) (h:Inv P S w0 M0 s0 dq env a w μ) (hd: ∀ d,o.dst=some d→d<a.tmps.size) {c:Call} (ho:o.op= .call c) (hc:c.callee= .builtin .len) {args:List (Sy.V S.C)} {ids:List Nat}
 (hargs:c.args.toList.mapM (aK S env.tm)=some args)
 (hl:(match args,(c.argTypes[0]?).bind S.ty with
  | [v],some T=>yl S T (restrict S env.bx ids) v
  | _,_=> .fail).leaf (V,us)) (hK:Goal P S w0 M0 s0 dq env a o.dst V us K):o.wp P a w K Q:=by
 split at hl
 · rename_i v T BZ
   obtain ⟨t,ht,hT⟩:=Option.bind_eq_some_iff.1 BZ
   clear BZ
   have hone: ∃ x,c.args= #[x]∧aK S env.tm x=some v:=by
    cases e:c.args.toList with
    | nil=>rw [e] at hargs; simp at hargs
    | cons x r=>
     rw [e] at hargs
     cases r with
     | nil=>
      refine ⟨x, ?_, ?_⟩
      · have :c.args=c.args.toList.toArray:=by simp
        rw [this,e]
      · simp at hargs
        cases hx:aK S env.tm x with
        | none=>rw [hx] at hargs; simp at hargs
        | some v'=>rw [hx] at hargs; simp at hargs; rw [hargs]
     | cons y r=>
      simp at hargs
      cases hx:aK S env.tm x with
      | none=>rw [hx] at hargs; simp at hargs
      | some v'=>
       rw [hx] at hargs
       cases hy:aK S env.tm y with
       | none=>rw [hy] at hargs; simp at hargs
       | some u'=>
        rw [hy] at hargs
        cases hr:List.mapM (aK S env.tm) r with
        | none=>rw [hr] at hargs; simp at hargs
        | some q=>rw [hr] at hargs; simp at hargs
   obtain ⟨x,hx,CG⟩:=hone
   have hv:=(bg h CG).1
   clear hargs CG
   have fin: ∀ (n:Nat),(Builtin.len_ c.argTypes o.type #[a.eval x]).run P w= .ok (goInt n) w→V= .d (.int .i64) (n:Int)→us= []→o.wp P a w K Q:=by
    rintro n hr rfl rfl
    refine wp_pure (V:= .d (.int .i64) (n:Int)) h (v:=goInt n) ?_ hd (fH ..) (by simp [av,aj]) hK
    unfold execOp
    simp only [ho]
    simp [resolve,hc,hx,invoke,builtin,hr]
   have slc: ∀ (e:Ty) (n cap:Nat) (ad:Option Addr),T= .sl e→a.eval x= .slice ad n cap→(Builtin.len_ c.argTypes o.type #[a.eval x]).run P w= .ok (goInt n) w:=by
    rintro e n cap ad rfl he
    obtain ⟨te,ie,z,hu,_⟩:=hP.sl hT
    rw [he]
    simp [Builtin.len_,ht,run_underlying hu]
   unfold yl at hl
   split at hl
   · rename_i s
     split at hl
     · rename_i gJ
       subst gJ
       obtain ⟨e1,e2⟩:=bh hl
       refine fin _ ?_ e1 e2
       have hu:P.underlying t=some .string:=(hP.ty t _ hT).2
       rw [kA hv]
       simp only [Builtin.len_,ht]
       simp [run_underlying hu]
       exact congrArg (fun n:Nat=>goInt n) (D9 s)
     · exact hl.elim
   · split at hl
     · rename_i e
       obtain ⟨e1,e2⟩:=bh hl
       exact fin 0 (slc e 0 0 none rfl hv) e1 e2
     · exact hl.elim
   · rename_i e l
     split at hl
     · rename_i gJ
       obtain ⟨e1,e2⟩:=bh hl
       obtain ⟨ad,cap,he,_⟩:=h_ hv
       exact fin _ (slc e _ cap ad gJ he) e1 e2
     · exact hl.elim
   · rename_i k e l
     split at hl
     · rename_i gJ
       obtain ⟨e1,e2⟩:=bh hl
       obtain ⟨ad,cap,he,_⟩:=h_ hv.1
       exact fin _ (slc e _ cap ad gJ he) e1 e2
     · exact hl.elim
   · rename_i k
     have own: ∀ (e:Ty) (l:List (e.den S.C)),(env.bx k=some (.arr e l)∨env.bx k=some (.bp e l))→(if T= .sl e then ax S (.d (.int .i64) (l.length:Int)) [] else .fail:Rt S).leaf (V,us)→o.wp P a w K Q:=by
      intro e l hb bQ
      split at bQ
      · rename_i gJ
        obtain ⟨e1,e2⟩:=bh bQ
        obtain ⟨ad,cap,he,_⟩:=hv.2 e l hb
        exact fin _ (slc e _ cap ad gJ he) e1 e2
      · exact bQ.elim
     split at hl
     · rename_i hb; exact own _ _ (.inl (dF hb)) hl
     · rename_i hb; exact own _ _ (.inr (dF hb)) hl
     · exact hl.elim
   · rename_i b n
     split at hl
     · rename_i e l hb
       have hb:=dF hb
       split at hl
       · rename_i gJ
         obtain ⟨e1,e2⟩:=bh hl
         obtain ⟨hn0,hnl,ad,cap,he,_⟩:=hv.2 e l hb
         refine fin _ (slc e _ cap ad gJ he) ?_ e2
         rw [e1,show ((n.toNat:Nat):Int)=n from by omega]
       · exact hl.elim
     · exact hl.elim
   · exact hl.elim
 · exact hl.elim
theorem Mv (hP:aO P S af) {t:Nat} {e:Ty} (ht:S.ty t=some (.sl e)) {ad:Option Addr} {n cap:Nat} {k1 k2 k3:IntKind} {i j m:Int} (h0:0≤i) (h1:i≤j) (h2:j≤m) (h3:m≤(cap:Int)):
 ∃ v,(Instr.sliceAt t (.slice ad n cap) (some (.int k1 i)) (some (.int k2 j)) (some (.int k3 m))).run P w= .ok v w:=by
 obtain ⟨te,ie,z,hu,he,_⟩:=hP.sl ht
 refine ⟨.slice (if m.toNat=i.toNat then ad else ad.map (·.add (i.toNat*Ty.sz S e))) (j.toNat - i.toNat) (m.toNat - i.toNat), ?_⟩
 simp [Instr.sliceAt,Instr.slice,run_underlying hu,Instr.sliceBounds,mw (P:=P) _ (show 0≤m by omega) h3,mw (P:=P) (i:=j) (y:=m.toNat) _ (by omega) (by omega),mw (P:=P) (i:=i) (y:=j.toNat) _ (by omega) (by omega),hP.size he]
theorem MS (hP:aO P S af) (h:Inv P S w0 M0 s0 dq env a w μ) (hd: ∀ d,o.dst=some d→d<a.tmps.size) {t:TypeId} {x lo hi mx:Operand} {ids:List Nat} (ho:o.op= .slice t x (some lo) (some hi) (some mx))
 (hl:(match S.ty t,aK S env.tm x,aK S env.tm lo,aK S env.tm hi,aK S env.tm mx with
  | some T,some v,some l,some h,some m=>zF S T (restrict S env.bx ids) l h m v
  | _,_,_,_,_=> .fail).leaf (V,us)) (hK:Goal P S w0 M0 s0 dq env a o.dst V us K):o.wp P a w K Q:=by
 split at hl
 · rename_i T v l hh m ht hx hlo hhi IW
   obtain ⟨hv,cI⟩:=bg h hx
   unfold zF at hl
   split at hl
   · rename_i k
     split at hl
     · rename_i e s hb
       have hb:=dF hb
       split at hl
       · rename_i hT
         subst hT
         split at hl
         · rename_i i j c e1 e2 e3
           obtain ⟨hg,rfl,rfl⟩:=eg hl
           have g0:0≤i:=hg ⟨0≤i,inferInstance⟩ (by simp [gd])
           have g1:i≤j:=hg ⟨i≤j,inferInstance⟩ (by simp [gd])
           have g2:j≤c:=hg ⟨j≤c,inferInstance⟩ (by simp [gd])
           have g3:c≤(s.length:Int):=hg ⟨c≤(s.length:Int),inferInstance⟩ (by simp [gd])
           obtain ⟨ad,cap,he,hao⟩:=hv.2 e s (.inl hb)
           have hfit:=hao.fits
           obtain ⟨k1,q1⟩:=lZ (bg h hlo).1 e1
           obtain ⟨k2,q2⟩:=lZ (bg h hhi).1 e2
           obtain ⟨k3,q3⟩:=lZ (bg h IW).1 e3
           obtain ⟨r,hr⟩:=Mv (P:=P) (w:=w) hP ht (ad:=ad) (n:=s.length) (cap:=cap) (k1:=k1) (k2:=k2) (k3:=k3) g0 g1 g2 (by omega)
           refine wp_pure (V:= .undef) h (v:=r) ?_ hd trivial (by simp [av,aj]) hK
           unfold execOp
           simp only [ho,he,Option.map,q1,q2,q3]
           simp [hr]
         · exact hl.elim
       · exact hl.elim
     · exact hl.elim
   · exact hl.elim
 · exact hl.elim
end
end Go.Sy
namespace Go.Sy
section
variable {P:Program} {S:aN} {af:Nat→Nat}
variable {w0:World} {M0 s0:St} {dq:List Deferred} {env:Env S.C} {a:Act} {w:World} {μ:Nat→Loc} {K:Act→World→Prop} {Q:Exit→Act→World→Prop} {o:Oper} {V:V S.C} {us:aG S.C}
theorem aF.map {w w':World} {s s':St} {μ μ':Nat→Loc} {bx aa:Bx S.C} (h: ∀ V v,bn P S w s μ bx V v→(∀ j ∈ aj S V,bx j≠none)→bn P S w' s' μ' aa V v):
 ∀ {vs:List (Sy.V S.C)} {cs:List Value},(∀ v ∈ vs, ∀ j ∈ aj S v,bx j≠none)→aF P S w s μ bx vs cs→aF P S w' s' μ' aa vs cs
 | [],_,_,h'=>h'
 | v::vs,_,hr,⟨c,r,h1,h2,h3⟩=>⟨c,r,h1,h _ _ h2 (hr v (by simp)),aF.map h (fun v hv=>hr v (by simp [hv])) h3⟩
theorem Jv {v:Value} (h:isAgg v=false):v.cells.toList= [v]:=ay.ig (t:= .bool) h rfl
theorem Ed {s:St} {bx:Bx S.C} {V:Sy.V S.C} {v:Value} (hs:br S V=true) (h:bn P S w s μ bx V v):isAgg v=false∧v.oneCell'=true:=by
 cases V with
 | d t x=>
  obtain ⟨ha,n,hn⟩:=h
  cases t with
  | st u=>simp [br] at hs
  | int k=>rw [oR (w:=w) (s:=s) ⟨ha,n,hn⟩]; exact ⟨rfl,rfl⟩
  | bool=>rw [lJ (w:=w) (s:=s) ⟨ha,n,hn⟩]; exact ⟨rfl,rfl⟩
  | str=>rw [kA (w:=w) (s:=s) ⟨ha,n,hn⟩]; exact ⟨rfl,rfl⟩
  | pt=>
   cases n with
   | zero=>exact hn.elim
   | succ n=>
    have hn:v.cells.toList= [.pointer none]:=hn
    rw [ay.ig (t:= .pt) ha rfl] at hn
    cases hn
    exact ⟨rfl,rfl⟩
  | sl e=>obtain ⟨a,cap,he,_⟩:=h_ (w:=w) (s:=s) ⟨ha,n,hn⟩; rw [he]; exact ⟨rfl,rfl⟩
 | pr p i=>cases h; exact ⟨rfl,rfl⟩
 | aT b e l=>obtain ⟨a,cap,he,_⟩:=h_ h.1; rw [he]; exact ⟨rfl,rfl⟩
 | aH b=>obtain ⟨⟨a,n,c,rfl⟩,_⟩:=h; exact ⟨rfl,rfl⟩
 | ptr b off=>cases h; exact ⟨rfl,rfl⟩
 | dL b i off=>obtain ⟨⟨p,rfl⟩,_⟩:=h; exact ⟨rfl,rfl⟩
 | cH t x=>obtain ⟨b,o',ds,rfl,_⟩:=h; exact ⟨rfl,rfl⟩
 | nil=>cases h; exact ⟨rfl,rfl⟩
 | b7=>cases h; exact ⟨rfl,rfl⟩
 | fv A R g=>obtain ⟨f,first,cap,rfl,_⟩:=h; exact ⟨rfl,rfl⟩
 | undef=>simp [br] at hs
 | skip=>simp [br] at hs
 | pre b n=>simp [br] at hs
 | win b i n=>simp [br] at hs
 | bW b n=>simp [br] at hs
 | split b c=>simp [br] at hs
 | iF c=>simp [br] at hs
 | err b=>simp [br] at hs
 | dS f vs=>simp [br] at hs
 | agg u vs=>simp [br] at hs
 | fy vs=>simp [br] at hs
theorem rE {s:St} {bx:Bx S.C} : ∀ {vs:List (Sy.V S.C)} {cs:List Value},vs.all (br S)=true→aF P S w s μ bx vs cs→ ∀ c ∈ cs,c.oneCell'=true
 | [],_,_,h,c,hc=>by cases h; simp at hc
 | V::vs,_,hs,⟨c,r,h1,h2,h3⟩,d,hd=>by
  subst h1
  simp only [List.all_cons,Bool.and_eq_true] at hs
  rcases List.mem_cons.1 hd with rfl | hd
  · exact (Ed hs.1 h2).2
  · exact rE hs.2 h3 d hd
theorem wg (hS:ct S) {s:St} {bx:Bx S.C} {V:Sy.V S.C} {v:Value} (hs:(cellsOf S V).all (br S)=true) (h:RV P S w s μ bx V v):
 aF P S w s μ bx (cellsOf S V) v.cells.toList∧ ∀ u ∈ cellsOf S V, ∀ j ∈ aj S u,j ∈ av S V:=by
 have one: ∀ (W:Sy.V S.C),V=W→cellsOf S V= [W]→bn P S w s μ bx W v→(∀ j ∈ aj S W,j ∈ av S V)→aF P S w s μ bx (cellsOf S V) v.cells.toList∧ ∀ u ∈ cellsOf S V, ∀ j ∈ aj S u,j ∈ av S V:=by
  intro W hW he h1 h2
  rw [he] at hs
  simp only [List.all_cons,Bool.and_eq_true] at hs
  refine ⟨?_,fun u hu j hj=> ?_⟩
  · rw [he,Jv (Ed hs.1 h1).1]
    exact ⟨v,[],rfl,h1,rfl⟩
  · rw [he] at hu
    simp at hu
    subst hu
    exact h2 j hj
 cases V with
 | d t x=>
  obtain ⟨ha,n,hn⟩:=h
  obtain ⟨h1,h2,h3⟩:=iX (P:=P) hS μ bx hn
  exact ⟨h1,fun u hu j hj=>by rw [h3 u hu] at hj; simp at hj⟩
 | agg u vs=>
  obtain ⟨cs,rfl,_,_,hvs⟩:=h
  exact ⟨hvs,fun v hv j hj=>by simp only [av,List.mem_flatMap]; exact ⟨v,hv,hj⟩⟩
 | fy vs=>simp [cellsOf,br] at hs
 | dS f vs=>simp [cellsOf,br] at hs
 | undef=>simp [cellsOf,br] at hs
 | skip=>simp [cellsOf,br] at hs
 | pr p i=>exact one _ rfl rfl h (fun j hj=>hj)
 | aT b e l=>exact one _ rfl rfl h (fun j hj=>hj)
 | aH b=>exact one _ rfl rfl h (fun j hj=>hj)
 | pre b n=>simp [cellsOf,br] at hs
 | win b i n=>simp [cellsOf,br] at hs
 | bW b n=>simp [cellsOf,br] at hs
 | split b c=>simp [cellsOf,br] at hs
 | iF c=>simp [cellsOf,br] at hs
 | err b=>simp [cellsOf,br] at hs
 | ptr b off=>exact one _ rfl rfl h (fun j hj=>hj)
 | dL b i off=>exact one _ rfl rfl h (fun j hj=>hj)
 | cH t x=>exact one _ rfl rfl h (fun j hj=>hj)
 | nil=>exact one _ rfl rfl h (fun j hj=>hj)
 | b7=>exact one _ rfl rfl h (fun j hj=>hj)
 | fv A R g=>exact one _ rfl rfl h (fun j hj=>hj)
theorem wW {vs:List (Sy.V S.C)} {n:Nat} (h:fits S vs n=true):vs.length=n∧vs.all (br S)=true:=by
 unfold fits at h
 rw [Bool.and_eq_true] at h
 exact ⟨Nat.eq_of_beq_eq_true h.1,h.2⟩
theorem kN {w:World} {cs:Array Value} {t:TypeId} :(w.alloc (.cells cs t)).there w.heap.size 0 cs.size∧(w.alloc (.cells cs t)).rangeAt w.heap.size 0 cs.toList:=by
 refine ⟨fun j hj=> ?_,fun j v hv=> ?_⟩
 · rw [Nat.zero_add]
   simp [hj]
 · rw [Nat.zero_add]
   simpa using hv
theorem E0 (hP:aO P S af) (h:Inv P S w0 M0 s0 dq env a w μ) (hd: ∀ d,o.dst=some d→d<a.tmps.size) {B:Nat} {t:TypeId} {cells:Array Value} {vs:List (Sy.V S.C)}
 (hrun:(execOp a.eval o).run P w= .ok (.value (.pointer (some ⟨w.heap.size,0,none⟩))) (w.alloc (.cells cells t))) (hB:env.bx B=none)
 (hs:vs.all (br S)=true) (hv:aF P S w (aC S w0 M0 s0 env.bx μ w) μ env.bx vs cells.toList) (hr: ∀ v ∈ vs, ∀ j ∈ aj S v,env.bx j≠none)
 (hK:Goal P S w0 M0 s0 dq env a o.dst (.ptr B 0) [(B, .cells vs)] K):o.wp P a w K Q:=by
 have hlen:=aF.length P S hv
 refine lA (i:=B) (B:= .cells vs) (V:= .ptr B 0) (L:=⟨w.heap.size,0,vs.length,0,false⟩) h hrun hd (aW.alloc w _ _) hB (fun b o' hf=>Nat.le_of_eq hf.1.symm) (fun _ _ h3=>⟨⟨hs,rfl, ?_,cells.toList,kN.2, ?_⟩, ?_⟩)
  (fun vs' hvs v hv j hj=> ?_) (fun j hj=> .inl (by simpa [av,aj] using hj)) hK
 · have :=(kN (w:=w) (cs:=cells) (t:=t)).1
   rw [show cells.size=vs.length from by rw [← hlen]; simp] at this
   exact this
 · exact aF.map h3 hr hv
 · show Value.pointer _=_
   rw [aL]
 · rcases hvs with hvs | hvs
   · cases hvs; exact hr v hv j hj
   · cases hvs
theorem OC (hP:aO P S af) (h:Inv P S w0 M0 s0 dq env a w μ) (hd: ∀ d,o.dst=some d→d<a.tmps.size) {B c:Nat} {t:TypeId} {cells:Array Value} {vs:List (Sy.V S.C)}
 (hrun:(execOp a.eval o).run P w= .ok (.value (.pointer (some ⟨w.heap.size,0,none⟩))) (w.alloc (.cells cells t))) (hB:env.bx B=none)
 (hs:(Sy.V.ptr c 0::vs).all (br S)=true) (hv:aF P S w (aC S w0 M0 s0 env.bx μ w) μ env.bx (.ptr c 0::vs) cells.toList) (hr: ∀ v ∈ Sy.V.ptr c 0::vs, ∀ j ∈ aj S v,env.bx j≠none)
 (hK:Goal P S w0 M0 s0 dq env a o.dst (.split B c) [(B, .cells vs)] K):o.wp P a w K Q:=by
 obtain ⟨u,r,hcs,hu,hv⟩:=hv
 have hlen:=aF.length P S hv
 have hc0:env.bx c≠none:=hr (.ptr c 0) (by simp) c (by simp [aj])
 have Ic:c≠B:=fun e=>hc0 (e▸hB)
 have hu:u= .pointer (some ⟨(μ c).b,(μ c).o,none⟩):=hu
 have hsz:cells.size=vs.length+1:=by rw [← Array.length_toList,hcs,List.length_cons,hlen]
 simp only [List.all_cons,Bool.and_eq_true] at hs
 refine lA (i:=B) (B:= .cells vs) (V:= .split B c) (L:=⟨w.heap.size,1,vs.length,0,false⟩) h hrun hd (aW.alloc w _ _) hB (fun b o' hf=>Nat.le_of_eq hf.1.symm) (fun _ _ h3=>⟨⟨hs.2,rfl, ?_,r, ?_, ?_⟩, ?_⟩)
  (fun vs' hvs v hv j hj=> ?_) (fun j hj=> ?_) hK
 · intro j hj
   have :=(kN (w:=w) (cs:=cells) (t:=t)).1 (1+j) (by have :j<vs.length:=hj; omega)
   rw [Nat.zero_add] at this
   exact this
 · intro j v hj
   have :=(kN (w:=w) (cs:=cells) (t:=t)).2 (1+j) v (by rw [hcs,Nat.add_comm]; simpa using hj)
   rw [Nat.zero_add] at this
   exact this
 · exact aF.map h3 (fun v hv=>hr v (by simp [hv])) hv
 · refine ⟨w.heap.size,0,rfl,fun j v hj=> ?_,by rw [aL],by rw [aL]⟩
   have hj0:j=0∧v= .pointer (some ⟨(ah μ B ⟨w.heap.size,1,vs.length,0,false⟩ c).b,(ah μ B ⟨w.heap.size,1,vs.length,0,false⟩ c).o,none⟩):=by
    cases j with
    | zero=>exact ⟨rfl,by simpa using hj.symm⟩
    | succ j=>simp at hj
   obtain ⟨rfl,rfl⟩:=hj0
   rw [aY _ _ Ic]
   refine ⟨?_,by simp, .inr (.inr h.fc.size),fun i hi hf=> ?_⟩
   · have :=(kN (w:=w) (cs:=cells) (t:=t)).2 0 u (by rw [hcs]; rfl)
     rw [Nat.zero_add] at this
     rw [← hu]
     exact this
   · by_cases e:i=B
     · subst e
       rw [aL] at hf
       have h1:1≤0+0:=hf.2.1
       omega
     · have hl:=(dr S (show ah env.bx B (some (.cells vs)) i=env.bx i from aY _ _ e)).1 hi
       rw [aY _ _ e] at hf
       have :=(iC P S (h.bE i) hl hf).1
       omega
 · rcases hvs with hvs | hvs
   · cases hvs; exact hr v (by simp [hv]) j hj
   · cases hvs
 · have hj:j ∈ [B,c]:=hj
   simp only [List.mem_cons,List.not_mem_nil,or_false] at hj
   rcases hj with rfl | rfl
   · exact .inl rfl
   · exact .inr hc0
theorem mP {s:St} {bx:Bx S.C} : ∀ (ts:List Ty),ts.all (fun t=> !a_ t)=true→aF P S w s μ bx (ts.map (zeroCell S)) (ts.map oI)∧(ts.map (zeroCell S)).all (br S)=true∧ ∀ v ∈ ts.map (zeroCell S),aj S v= []
 | [],_=>⟨rfl,rfl,by simp⟩
 | t::ts,h=>by
  simp only [List.all_cons,Bool.and_eq_true,Bool.not_eq_true'] at h
  obtain ⟨h1,h2,h3⟩:=mP ts h.2
  refine ⟨⟨_,_,rfl, ?_,h1⟩, ?_, ?_⟩
  · cases t with
    | int k=>exact fH ..
    | bool=>exact jG ..
    | str=>exact rG ..
    | pt=>rfl
    | sl e=>rfl
    | st u=>simp [a_] at h
  · simp only [List.map_cons,List.all_cons,Bool.and_eq_true]
    exact ⟨by cases t <;> first | rfl | simp [a_] at h,h2⟩
  · intro v hv
    simp only [List.map_cons,List.mem_cons] at hv
    rcases hv with rfl | hv
    · cases t <;> rfl
    · exact h3 v hv
theorem E_ (hS:ct S) {s:St} {bx:Bx S.C} (T:Ty):aF P S w s μ bx (zeroCells S T) (mQ S T)∧(zeroCells S T).all (br S)=true∧ ∀ v ∈ zeroCells S T,aj S v= []:=by
 cases T with
 | st u=>exact mP (S.F u) (hS.flat u)
 | int k=>exact mP [.int k] rfl
 | bool=>exact mP [.bool] rfl
 | str=>exact mP [.str] rfl
 | pt=>exact mP [.pt] rfl
 | sl e=>exact mP [.sl e] rfl
theorem F5 (hP:aO P S af) (h:Inv P S w0 M0 s0 dq env a w μ) (hd: ∀ d,o.dst=some d→d<a.tmps.size) {B:Nat} {t:TypeId} (ho:o.op= .alloc t)
 (hnew: ∀ u ∈ ([(B+1, .buf []),(B, .aV (B+1))]:aG S.C),B≤u.1→u.1<B+16→env.bx u.1=none) (hb:qm S t=true)
 (hK:Goal P S w0 M0 s0 dq env a o.dst (.ptr B 0) [(B+1, .buf []),(B, .aV (B+1))] K):o.wp P a w K Q:=by
 obtain ⟨T,e,nA,rfl⟩: ∃ T e,S.bt=some (T,e)∧t=T:=by
  unfold qm at hb
  split at hb
  · rename_i u hu
    exact ⟨u.1,u.2,hu,(Nat.eq_of_beq_eq_true hb).symm⟩
  · cases hb
 obtain ⟨_,i,z,h1,h2,h3⟩:=hP.bt _ nA
 have n1:=hnew (B+1, .buf []) (by simp) (by show B≤B+1; omega) (by show B+1<B+16; omega)
 have n0:=hnew (B, .aV (B+1)) (by simp) (Nat.le_refl _) (by show B<B+16; omega)
 have hrow:ku S w ⟨0,0,0,0,true⟩ []:=⟨rfl,rfl,fun _=>rfl,_,_,nA,World.ownsRowF_nil ..⟩
 obtain ⟨hI,_,_⟩:=h.yz (aW.refl w _) n1 (B:= .buf []) (L:=⟨0,0,0,0,true⟩) (fun b o' hf=>by have h1:o'<0+0:=hf.2.2; omega) (fun _ _ _=>hrow) (fun vs hvs=>by rcases hvs with hvs | hvs <;> cases hvs)
 have hne: ∀ (i:Nat) (B0:Option (cR S.C)),i=B→ah env.bx (B+1) (some (.buf [])) i=env.bx i:=fun i _ e=>aY _ _ (by omega)
 refine lA (env:= { env with bx:=ah env.bx (B+1) (some (.buf [])) }) (i:=B) (B:= .aV (B+1)) (V:= .ptr B 0) (v:= .pointer (some ⟨w.heap.size,0,none⟩)) (w':=w.alloc (.cells #[.pointer none, .slice none 0 0] t)) (L:=⟨w.heap.size,0,2,0,false⟩) hI ?_ hd (aW.alloc w _ _) ((hne B none rfl).trans n0) (fun b o' hf=>Nat.le_of_eq hf.1.symm)
  (fun _ _ _=>⟨⟨rfl,rfl, ?_, .slice none 0 0,⟨t,e, .pointer none,nA,(by show (w.heap.push _)[w.heap.size]? =some _; simp), .inl rfl⟩,fun l hl=> ?_⟩, ?_⟩) (fun vs hvs=>by rcases hvs with hvs | hvs <;> cases hvs) (fun j hj=> .inl (by simpa [av,aj] using hj)) hK
 · unfold execOp
   simp only [ho]
   simp [Instr.alloc,zeroValue,typeInfo,h1,h2,h3,newVar,newRow]
 · rw [aY _ _ (show B+1≠B by omega)]
   show ah env.bx (B+1) (some (.buf [])) (B+1)≠none
   rw [aL]; simp
 · rw [aY _ _ (show B+1≠B by omega)] at hl
   have hl:ah env.bx (B+1) (some (.buf [])) (B+1)=some (.buf l):=hl
   rw [aL] at hl
   cases hl
   rw [aY _ _ (show B+1≠B by omega),aL]
   rfl
 · show Value.pointer _=_
   rw [aL]
theorem FP (hP:aO P S af) (h:Inv P S w0 M0 s0 dq env a w μ) (hd: ∀ d,o.dst=some d→d<a.tmps.size) {B:Nat} {t:TypeId} (ho:o.op= .alloc t)
 (hnew: ∀ u ∈ us,B≤u.1→u.1<B+16→env.bx u.1=none)
 (hl:(match S.ty t with
  | some u=>ax S (.ptr B 0) [(B, .cells (zeroCells S u))]
  | none=>cond (qm S t) (ax S (.ptr B 0) [(B+1, .buf []),(B, .aV (B+1))]) .fail).leaf (V,us)) (hK:Goal P S w0 M0 s0 dq env a o.dst V us K):o.wp P a w K Q:=by
 split at hl
 · rename_i T ht
   obtain ⟨rfl,rfl⟩:=bh hl
   obtain ⟨⟨i,z,h1,h2,h3,h4,h5⟩,_⟩:=hP.ty t T ht
   obtain ⟨z1,z2,z3⟩:=E_ (P:=P) (w:=w) (μ:=μ) hP.toct (s:=aC S w0 M0 s0 env.bx μ w) (bx:=env.bx) T
   refine E0 hP h hd (cells:=z.cells) (t:=t) ?_ (hnew (B, .cells (zeroCells S T)) (List.mem_singleton.2 rfl) (Nat.le_refl _) (by show B<B+16; omega)) z2 (by rw [h5]; exact z1) (fun v hv j hj=>by rw [z3 v hv] at hj; simp at hj) hK
   unfold execOp
   simp only [ho]
   simp [Instr.alloc,zeroValue,typeInfo,h1,h3,newVar,newRow]
 · cases hb:qm S t with
   | false=>rw [hb] at hl; exact hl.elim
   | true=>
    rw [hb] at hl
    obtain ⟨rfl,rfl⟩:=bh hl
    exact F5 hP h hd ho hnew hb hK
theorem F7 (hP:aO P S af) (h:Inv P S w0 M0 s0 dq env a w μ) (hd: ∀ d,o.dst=some d→d<a.tmps.size) {B:Nat} {t:TypeId} {x:Operand} (ho:o.op= .box t x)
 (hnew: ∀ u ∈ us,B≤u.1→u.1<B+16→env.bx u.1=none)
 (hl:(match S.ty t,aK S env.tm x with
  | some u,some v=>cond (fits S (cellsOf S v) (Ty.sz S u)) (match S.sp t with
   | false=>ax S (.ptr (B) 0) [(B, .cells (cellsOf S v))]
   | true=>match cellsOf S v with
    | .ptr c 0::vs=>ax S (.split B c) [(B, .cells vs)]
    | _=> .fail) .fail
  | _,_=> .fail).leaf (V,us)) (hK:Goal P S w0 M0 s0 dq env a o.dst V us K):o.wp P a w K Q:=by
 split at hl
 · rename_i T v ht hx
   cases hf:fits S (cellsOf S v) (Ty.sz S T) with
   | false=>rw [hf] at hl; exact hl.elim
   | true=>
    rw [hf,cond_true] at hl
    obtain ⟨f1,f2⟩:=wW hf
    obtain ⟨hv,cI⟩:=bg h hx
    obtain ⟨c1,c2⟩:=wg hP.toct f2 hv
    split at hl
    rotate_left
    · split at hl
      · rename_i c vs hcs
        obtain ⟨rfl,rfl⟩:=bh hl
        rw [hcs] at f2 c1 c2
        refine OC hP h hd (cells:=(a.eval x).cells) (t:=t) ?_ (hnew (B, .cells vs) (List.mem_singleton.2 rfl) (Nat.le_refl _) (by show B<B+16; omega)) f2 c1 (fun v hv j hj=>cI j (c2 v hv j hj)) hK
        unfold execOp
        simp only [ho]
        simp [Instr.box,newVar,newRow]
      · exact hl.elim
    obtain ⟨rfl,rfl⟩:=bh hl
    refine E0 hP h hd (cells:=(a.eval x).cells) (t:=t) ?_ (hnew (B, .cells (cellsOf S v)) (List.mem_singleton.2 rfl) (Nat.le_refl _) (by show B<B+16; omega)) f2 c1 (fun v hv j hj=>cI j (c2 v hv j hj)) hK
    unfold execOp
    simp only [ho]
    simp [Instr.box,newVar,newRow]
 · exact hl.elim
end
end Go.Sy
