import Derived.WalkKit
import Derived.Deep.LoopGhost
import Derived.Deep.AppendSrc
import Derived.Deep.MidRow
import Derived.Lib.FrozenHead2
import Derived.Laws.BytesString
import Derived.Lib.Strings
set_option linter.unusedVariables false
set_option linter.unusedSimpArgs false
namespace Go.Sy
inductive Ty where
 | int (k:IntKind) | bool | str | st (t:Nat) | sl (e:Ty) | pt
 deriving DecidableEq,Inhabited
def Ty.den (C:Nat→Type):Ty→Type
 | .int _=>Int
 | .bool=>Bool
 | .str=>List UInt8
 | .st t=>C t
 | .sl e=>List (e.den C)
 | .pt=>Unit   -- a pointer in a struct
def aA (C:Nat→Type):List Ty→Type
 | []=>Unit
 | [t]=>t.den C
 | t::u::ts=>t.den C×aA C (u::ts)
def aA.cons {C:Nat→Type} {t:Ty} : {ts:List Ty} →t.den C→aA C ts→aA C (t::ts)
 | [],x,_=>x
 | _::_,x,r=>(x,r)
def aA.head {C:Nat→Type} {t:Ty} : {ts:List Ty} →aA C (t::ts)→t.den C
 | [],x=>x
 | _::_,x=>x.1
def aA.tail {C:Nat→Type} {t:Ty} : {ts:List Ty} →aA C (t::ts)→aA C ts
 | [],_=>()
 | _::_,x=>x.2
structure bB where
 C:Nat→Type
 F:Nat→List Ty
 ex:(t:Nat)→C t→aA C (F t)
 im:(t:Nat)→aA C (F t)→C t
 fP:Nat→Nat→Option (Nat×Ty)
 z:(t:Nat)→C t
 ty:Nat→Option Ty
 pt:Nat→Bool
 ar:Nat→Option (Nat×Ty)
 eq:Nat→Bool
 sQ:Nat→Bool
 gl:List ((Nat×Nat)×(Value→Prop))
 gb:List (Nat×(Obj→Prop))
 bt:Option (Nat×Nat)
 sp:Nat→Bool
inductive CK where
 | data (t:Ty)
 | bE (e:Ty)      -- a slice whose room behind its end is its holder's alone
 | aQ (e:Ty)      -- a slice whose array is its holder's alone
 deriving DecidableEq,Inhabited
inductive K where
 | val (c:CK)
 | obj (cs:List CK)
 | opt (cs:List CK)
 | nil
 | ro (t:Ty)
 | fn (a r:List Ty)
 | dm (cs:List CK)  -- a slice whose array is cells of its holder's own
 | err                 -- an error: is it nil?
 | bH                 -- a builder of a text
 | cA (t:Ty) (cs:List CK)  -- an object whose first cell points to an object of its own
 deriving DecidableEq,Inhabited
def CK.den (C:Nat→Type):CK→Type
 | .data t=>t.den C
 | .bE e=>List (e.den C)
 | .aQ e=>List (e.den C)
def bZ (C:Nat→Type):List CK→Type
 | []=>Unit
 | [t]=>t.den C
 | t::u::ts=>t.den C×bZ C (u::ts)
def K.den (C:Nat→Type):K→Type
 | .val c=>c.den C
 | .obj cs=>bZ C cs
 | .opt cs=>Option (bZ C cs)
 | .nil=>Unit
 | .ro t=>t.den C
 | .fn a r=>aA C a→Option (aA C r)
 | .dm cs=>bZ C cs
 | .err=>Bool
 | .bH=>List UInt8
 | .cA t cs=>t.den C×bZ C cs
def Ks (C:Nat→Type):List K→Type
 | []=>Unit
 | [t]=>t.den C
 | t::u::ts=>t.den C×Ks C (u::ts)
def bZ.cons {C:Nat→Type} {t:CK} : {ts:List CK} →t.den C→bZ C ts→bZ C (t::ts)
 | [],x,_=>x
 | _::_,x,r=>(x,r)
def bZ.head {C:Nat→Type} {t:CK} : {ts:List CK} →bZ C (t::ts)→t.den C
 | [],x=>x
 | _::_,x=>x.1
def bZ.tail {C:Nat→Type} {t:CK} : {ts:List CK} →bZ C (t::ts)→bZ C ts
 | [],_=>()
 | _::_,x=>x.2
def Ks.cons {C:Nat→Type} {t:K} : {ts:List K} →t.den C→Ks C ts→Ks C (t::ts)
 | [],x,_=>x
 | _::_,x,r=>(x,r)
def Ks.head {C:Nat→Type} {t:K} : {ts:List K} →Ks C (t::ts)→t.den C
 | [],x=>x
 | _::_,x=>x.1
def Ks.tail {C:Nat→Type} {t:K} : {ts:List K} →Ks C (t::ts)→Ks C ts
 | [],_=>()
 | _::_,x=>x.2
inductive V (C:Nat→Type) where
 | undef
 | skip
 | d (t:Ty) (x:t.den C)
 | pr (p:Prop) (i:Decidable p)
 | bE (b:Nat) (e:Ty) (l:List (e.den C))
 | aQ (b:Nat)
 | pre (b:Nat) (n:Int)
 | win (b:Nat) (i n:Int)
 | ptr (b off:Nat)
 | dm (b n:Nat)
 | split (b c:Nat)
 | nY (c:Nat)
 | err (b:Bool)
 | gz (b:Nat) (i:Int) (off:Nat)
 | eI (t:Ty) (x:t.den C)
 | nil
 | dD
 | fv (a r:List Ty) (g:aA C a→Option (aA C r))
 | gQ (f:Nat) (caps:List (V C))
 | agg (t:Nat) (vs:List (V C))
 | jX (vs:List (V C))
inductive eW (C:Nat→Type) where
 | cells (vs:List (V C))
 | cq (vs:List (V C))
 | arr (e:Ty) (l:List (e.den C))
 | b8 (e:Ty) (l:List (e.den C))
 | tail
 | dead
 | bH (j:Nat)           -- a builder; its bytes are in 'j'
 | buf (l:List UInt8)    -- a builder's bytes
structure Env (C:Nat→Type) where
 tm:Nat→V C
 bx:Nat→Option (eW C)
 df:Bool   -- has the function's deferred call been laid down?
def aD {α:Type} (f:Nat→α) (k:Nat) (v:α):Nat→α:=fun i=>cond (Nat.beq i k) v (f i)
abbrev aV (C:Nat→Type):=List (Nat×eW C)
abbrev Bx (C:Nat→Type):=Nat→Option (eW C)
def aF {C:Nat→Type} (bx:Bx C):aV C→Bx C
 | []=>bx
 | u::us=>aF (aD bx u.1 (some u.2)) us
def yZ {C:Nat→Type} (tm:Nat→V C) (dst:Option Nat) (v:V C):Nat→V C:=match dst with
 | some d=>aD tm d v
 | none=>tm
def Env.apply {C:Nat→Type} (e:Env C) (dst:Option Nat) (v:V C) (us:aV C):Env C:=
 { tm:=yZ e.tm dst v,bx:=aF e.bx us,df:=e.df }
structure Gd where
 p:Prop
 i:Decidable p
def gd (p:Prop) [i:Decidable p]:Gd:=⟨p,i⟩
inductive Tr (X:Type):Type 1 where
 | fail
 | ret (x:X)
 | ite (p:Prop) (i:Decidable p) (a b:Tr X)
 | bind (α:Type) (m:Option α) (k:α→Tr X)
 | opt (α:Type) (m:Option α) (n:Tr X) (s:α→Tr X)
def Tr.run {X:Type} {R:Type} :Tr X→(X→Option R)→Option R
 | .fail,_=>none
 | .ret x,k=>k x
 | .ite _ i a b,k=> @_root_.ite _ _ i (a.run k) (b.run k)
 | .bind _ m f,k=>m.bind fun x=>(f x).run k
 | .opt _ m n s,k=>match m with
  | none=>n.run k
  | some x=>(s x).run k
def Tr.gd {X:Type} :List Gd→Tr X→Tr X
 | [],r=>r
 | g::gs,r=> .ite g.p g.i (Tr.gd gs r) .fail
section
variable (S:bB)
def fH (t u:Ty) (x:t.den S.C):Option (u.den S.C):=if h:t=u then some (h▸x) else none
def Ty.zero:(t:Ty)→t.den S.C
 | .int _=>(0:Int)
 | .bool=>false
 | .str=>([]:List UInt8)
 | .sl _=> []
 | .st u=>S.z u
 | .pt=>()
def Ty.sz:Ty→Nat
 | .st u=>(S.F u).length
 | _=>1
def dV (bx:Bx S.C) (t:Ty) (v:V S.C):Option (t.den S.C):=
 match v with
 | .d u x=>fH S u t x
 | .pr p i=>fH S .bool t (@decide p i)
 | .bE _ e l=>fH S (.sl e) t l
 | .dD=>match t with
  | .sl _=>some []
  | _=>none
 | .aQ b=>match bx b with
  | some (.arr e l) | some (.b8 e l)=>fH S (.sl e) t l
  | _=>none
 | _=>none
def tX:(ts:List Ty)→aA S.C ts→List (V S.C)
 | [],_=> []
 | t::ts,x=> .d t (aA.head x)::tX ts (aA.tail x)
def kK:(t:Ty)→t.den S.C→List (V S.C)
 | .st u,x=>tX S (S.F u) (S.ex u x)
 | t,x=> [.d t x]
def jz (bx:Bx S.C):(ts:List Ty)→List (V S.C)→Option (aA S.C ts)
 | [],_=>some ()
 | t::ts,v::vs=>(dV S bx t v).bind fun x=>(jz bx ts vs).bind fun y=>some (aA.cons x y)
 | _::_,[]=>none
def jP (bx:Bx S.C) (t:Ty) (vs:List (V S.C)):Option (t.den S.C):=
 match t with
 | .st u=>(jz S bx (S.F u) vs).bind fun x=>some (S.im u x)
 | t=>match vs with
  | v::_=>dV S bx t v
  | []=>none
def zeroCell:Ty→V S.C
 | .sl _=> .dD
 | .pt=> .nil
 | t=> .d t (Ty.zero S t)
def zeroCells:Ty→List (V S.C)
 | .st u=>(S.F u).map (zeroCell S)
 | t=> [zeroCell S t]
end
end Go.Sy
namespace Go.Sy
section
variable (S:bB)
def outs:List K→List K
 | []=> []
 | .obj cs::r=> .obj cs::outs r
 | .bH::r=> .bH::outs r
 | .cA t cs::r=> .cA t cs::outs r
 | _::r=>outs r
structure Entry where
 f:Nat
 ps:List K
 rs:List K
 sp:Ks S.C ps→Option (Ks S.C (rs++outs ps))
structure jd where
 f:Nat
 a:List Ty
 c:List Ty
 r:List Ty
 sp:aA S.C a→aA S.C c→Option (aA S.C r)
structure jh where
 es:List (Entry S)
 fs:List (jd S)
 nl:Bool
 vw:Bool
 dc:Option (Nat×List Operand)   -- the call that it defers
 de:List (Entry S)                -- callees that may be deferred
def De:Ty→Bool
 | .sl _=>false
 | .st u=>(S.F u).all fun | .sl _=>false | .st _=>false | _=>true
 | _=>true
def uS:CK→Bool
 | .data t=>De S t
 | .bE _=>false
 | .aQ e=>De S e
def xh:K→Bool
 | .val c=>uS S c
 | .obj cs | .opt cs=>cs.all (uS S)
 | .nil | .err | .bH=>true
 | .ro _ | .fn _ _ | .cA _ _=>false
 | .dm cs=>cs.all (uS S)
def datum (bx:Bx S.C) (t:Ty) (v:V S.C):Option (t.den S.C):=
 match v with
 | .agg u vs=>match t with
  | .st w=>if u=w then jP S bx (.st w) vs else none
  | _=>none
 | v=>match t with
  | .st w=>match v with
   | .d u x=>fH S u (.st w) x
   | _=>none
  | t=>dV S bx t v
def dK (bx:Bx S.C):V S.C→aV S.C
 | .aQ b=>match bx b with
  | some (.arr e l)=> [(b, .b8 e l)]
  | _=> []
 | _=> []
def eB (bx:Bx S.C) (v:V S.C):aV S.C:=
 match v with
 | .agg _ vs=>vs.flatMap (dK S bx)
 | v=>dK S bx v
def cellsOf (v:V S.C):List (V S.C):=
 match v with
 | .d t x=>kK S t x
 | .agg _ vs=>vs
 | v=> [v]
def aI:V S.C→List Nat
 | .bE b _ _ | .aQ b | .ptr b _ | .gz b _ _ | .pre b _ | .win b _ _ | .dm b _ | .nY b=> [b]
 | .split b c=> [b,c]
 | _=> []
def aL:V S.C→List Nat
 | .agg _ vs | .gQ _ vs | .jX vs=>vs.flatMap (aI S)
 | v=>aI S v
def cZ (id:Nat):(c:CK)→c.den S.C→List (V S.C)×aV S.C×Nat
 | .data t,x=>(kK S t x,[],id)
 | .bE e,x=>([.bE id e x],[(id, .tail)],id+1)
 | .aQ e,x=>([.aQ id],[(id, .arr e x)],id+1)
def bS (id:Nat):(cs:List CK)→bZ S.C cs→List (V S.C)×aV S.C×Nat
 | [],_=>([],[],id)
 | c::cs,x=>
  let a:=cZ S id c (bZ.head x)
  let b:=bS a.2.2 cs (bZ.tail x)
  (a.1++b.1,a.2.1++b.2.1,b.2.2)
def CK.sz:CK→Nat
 | .data t=>Ty.sz S t
 | _=>1
def CK.c_:List CK→Nat
 | []=>0
 | c::cs=>CK.sz S c+CK.c_ cs
def OL (id:Nat):(k:K)→k.den S.C→(V S.C×aV S.C×Nat→Tr (V S.C×aV S.C))→Tr (V S.C×aV S.C)
 | .val (.data t),x,κ=>κ (.d t x,[],id)
 | .val (.bE e),x,κ=>κ (.bE id e x,[(id, .tail)],id+1)
 | .val (.aQ e),x,κ=>κ (.aQ id,[(id, .arr e x)],id+1)
 | .obj cs,x,κ=>let a:=bS S (id+1) cs x; κ (.ptr id 0,(id, .cells a.1)::a.2.1,a.2.2)
 | .opt cs,x,κ=> .opt _ x (κ (.nil,[],id)) fun y=>let a:=bS S (id+1) cs y; κ (.ptr id 0,(id, .cells a.1)::a.2.1,a.2.2)
 | .fn a r,g,κ=>κ (.fv a r g,[],id)
 | .ro t,x,κ=>κ (.eI t x,[],id)
 | .nil,_,κ=>κ (.nil,[],id)
 | .err,x,κ=>κ (.err x,[],id)
 | .bH,x,κ=>κ (.ptr id 0,[(id, .bH (id+1)),(id+1, .buf x)],id+2)
 | .dm cs,x,κ=>let a:=bS S (id+1) cs x; κ (.dm id (CK.c_ S cs),(id, .cells a.1)::a.2.1,a.2.2)
 | .cA _ _,_,_=> .fail
def fe (bx:Bx S.C) (c:CK) (vs:List (V S.C)):Option (c.den S.C×aV S.C):=
 match c with
 | .data t=>(jP S bx t vs).bind fun x=>some (x,(vs.take (Ty.sz S t)).flatMap (dK S bx))
 | .bE e=>match vs with
  | .bE b e' l::_=>match bx b with
   | some .tail=>(fH S (.sl e') (.sl e) l).bind fun x=>some (x,[(b, .dead)])
   | _=>none
  | .dD::_=>some ([],[])
  | _=>none
 | .aQ e=>match vs with
  | .aQ b::_=>match bx b with
   | some (.arr e' l)=>(fH S (.sl e') (.sl e) l).bind fun x=>some (x,[(b, .dead)])
   | _=>none
  | .pre b n::_=>match bx b with
   | some (.arr e' l)=>(fH S (.sl e') (.sl e) (List.take n.toNat l)).bind fun x=>some (x,[(b, .dead)])
   | _=>none
  | .dD::_=>some ([],[])
  | _=>none
def eV (bx:Bx S.C):(cs:List CK)→List (V S.C)→Option (bZ S.C cs×aV S.C)
 | [],_=>some ((),[])
 | c::cs,vs=>(fe S bx c vs).bind fun a=>
  (eV (aF bx a.2) cs (vs.drop (CK.sz S c))).bind fun b=>some (bZ.cons a.1 b.1,a.2++b.2)
def OW:V S.C→Bool
 | .aQ _=>false
 | _=>true
def oP (bx:Bx S.C) (t:Ty) (v:V S.C):Option (t.den S.C):=match v with
 | .ptr b 0=>match bx b with
  | some (.cq ws)=>cond (ws.all (OW S)) (jP S bx t ws) none
  | _=>none
 | .eI u x=>fH S u t x
 | _=>none
def caps (bx:Bx S.C):(ts:List Ty)→List (V S.C)→Option (aA S.C ts)
 | [],[]=>some ()
 | t::ts,v::vs=>(oP S bx t v).bind fun x=>(caps bx ts vs).bind fun r=>some (aA.cons x r)
 | _,_=>none
def uT (fs:List (jd S)) (bx:Bx S.C) (a r:List Ty):V S.C→Option (aA S.C a→Option (aA S.C r))
 | .fv a' r' g=>if h:a'=a then if h':r'=r then some (h'▸h▸g) else none else none
 | .gQ f vs=>fs.findSome? fun e=>
  if e.f=f then (if h:e.a=a then if h':e.r=r then (caps S bx e.c vs).bind fun y=>some (h'▸h▸fun x=>e.sp x y) else none else none) else none
 | _=>none
def iN (bx:Bx S.C) (cs:List CK) (b:Nat):Option (bZ S.C cs×aV S.C):=match bx b with
 | some (.cells vs)=>cond (Nat.beq vs.length (CK.c_ S cs)) ((eV S (aD bx b (some .dead)) cs (vs.drop 0)).bind fun a=>some (a.1,(b, .dead)::a.2)) none
 | _=>none
def cW (fs:List (jd S)) (bx:Bx S.C) (k:K) (v:V S.C):Option (k.den S.C×aV S.C):=
 match k with
 | .val (.data t)=>(datum S bx t v).bind fun x=>some (x,eB S bx v)
 | .val (.bE e)=>fe S bx (.bE e) [v]
 | .val (.aQ e)=>fe S bx (.aQ e) [v]
 | .obj cs=>match v with
  | .ptr b off=>match bx b with
   | some (.cells vs)=>cond (Nat.beq off 0&&Nat.beq vs.length (CK.c_ S cs)) ((eV S (aD bx b (some .dead)) cs (vs.drop off)).bind fun a=>some (a.1,(b, .dead)::a.2)) none
   | _=>none
  | _=>none
 | .nil=>match v with
  | .nil=>some ((),[])
  | _=>none
 | .ro t=>(oP S bx t v).bind fun x=>some (x,[])
 | .fn a r=>(uT S fs bx a r v).bind fun g=>some (g,[])
 | .opt cs=>match v with
  | .nil=>some (none,[])
  | .ptr b off=>match bx b with
   | some (.cells vs)=>cond (Nat.beq off 0&&Nat.beq vs.length (CK.c_ S cs)) ((eV S (aD bx b (some .dead)) cs (vs.drop off)).bind fun a=>some (some a.1,(b, .dead)::a.2)) none
   | _=>none
  | _=>none
 | .err=>match v with
  | .err b=>some (b,[])
  | _=>none
 | .bH=>match v with
  | .ptr b off=>match bx b with
   | some (.bH j)=>match bx j with
    | some (.buf l)=>cond (Nat.beq off 0) (some (l,[(b, .dead),(j, .dead)])) none
    | _=>none
   | _=>none
  | _=>none
 | .dm cs=>match v with
  | .dm b n=>match bx b with
   | some (.cells vs)=>cond (Nat.beq n vs.length&&Nat.beq vs.length (CK.c_ S cs)) ((eV S (aD bx b (some .dead)) cs (vs.drop 0)).bind fun a=>some (a.1,(b, .dead)::a.2)) none
   | _=>none
  | _=>none
 | .cA t cs=>match v with
  | .split b c=>(iN S bx [.data t] c).bind fun x=>(iN S (aF bx x.2) cs b).bind fun y=>some ((x.1,y.1),x.2++y.2)
  | _=>none
def fm (fs:List (jd S)) (bx:Bx S.C):(ks:List K)→List (V S.C)→Option (Ks S.C ks×aV S.C)
 | [],[]=>some ((),[])
 | k::ks,v::vs=>(cW S fs bx k v).bind fun a=>(fm fs (aF bx a.2) ks vs).bind fun b=>some (Ks.cons a.1 b.1,a.2++b.2)
 | _,_=>none
def setCells (vs:List (V S.C)) (off:Nat) (ws:List (V S.C)):List (V S.C):=vs.take off++ws++vs.drop (off+ws.length)
def gD (id:Nat):(ks:List K)→List (V S.C)→Ks S.C (outs ks)→aV S.C
 | [],_,_=> []
 | .obj cs::ks,v::vs,x=>match v with
  | .ptr b _=>
   let a:=bS S id cs (Ks.head (t:= .obj cs) x)
   (b, .cells a.1)::a.2.1++gD a.2.2 ks vs (Ks.tail (t:= .obj cs) x)
  | _=> []
 | .bH::ks,v::vs,x=>match v with
  | .ptr b _=>(b, .bH id)::(id, .buf (Ks.head (t:= .bH) x))::gD (id+1) ks vs (Ks.tail (t:= .bH) x)
  | _=> []
 | .cA t cs::ks,v::vs,x=>match v with
  | .split b c=>
   let y:=Ks.head (t:= .cA t cs) x
   let a0:=bS S id [.data t] y.1
   let a:=bS S id cs y.2
   (c, .cells a0.1)::(b, .cells a.1)::a.2.1++gD a.2.2 ks vs (Ks.tail (t:= .cA t cs) x)
  | _=> []
 | .val _::ks,_::vs,x=>gD id ks vs x
 | .opt _::ks,_::vs,x=>gD id ks vs x
 | .nil::ks,_::vs,x=>gD id ks vs x
 | .ro _::ks,_::vs,x=>gD id ks vs x
 | .fn _ _::ks,_::vs,x=>gD id ks vs x
 | .dm _::ks,_::vs,x=>gD id ks vs x
 | .err::ks,_::vs,x=>gD id ks vs x
 | _::_,[],_=> []
def eK:List K→List (V S.C)→List Nat
 | .obj _::ks, .ptr b _::vs=>b::eK ks vs
 | .bH::ks, .ptr b _::vs=>b::eK ks vs
 | .cA _ _::ks, .split b c::vs=>c::b::eK ks vs
 | _::ks,_::vs=>eK ks vs
 | _,_=> []
def lJ (gR:Bool) (us:aV S.C):aV S.C:=cond gR us (us.filter fun u=>match u.2 with
 | .b8 _ _=>false
 | _=>true)
end
end Go.Sy
namespace Go.Sy
section
variable (S:bB)
variable (T:jh S)
abbrev Rt:=Tr (V S.C×aV S.C)
def aM (v:V S.C) (us:aV S.C):Rt S:= .ret (v,us)
def nj (t:Nat):Option Nat:=match S.ar t with
 | some _=>none
 | none=>match S.ty t with
  | some (.st u)=>some u
  | _=>none
def sy (t:Nat):Option (Nat×Ty×Nat):=match S.ar t with
 | some (n,e)=>match e,S.ty t with
  | .st _,_=>none
  | e,some (.st u)=>some (n,e,u)
  | _,_=>none
 | none=>none
def CU (t:Nat):Option (Nat×Nat×Nat):=match S.ar t with
 | some (n,e)=>match e,S.ty t with
  | .st w,some (.st u)=>some (n,w,u)
  | _,_=>none
 | none=>none
def gi (t:Nat):Option Ty:=match S.ty t with
 | some (.sl e)=>some e
 | _=>none
def arith (op:BinOp) (k:IntKind) (x y:Int):Option (List Gd×V S.C):=
 match op with
 | .add=>some ([], .d (.int k) (k.wrap (x+y)))
 | .sub=>some ([], .d (.int k) (k.wrap (x - y)))
 | .mul=>some ([], .d (.int k) (k.wrap (x*y)))
 | .quo=>some ([gd (¬ y=0)], .d (.int k) (k.wrap (x.tdiv y)))
 | .rem=>some ([gd (¬ y=0)], .d (.int k) (x.tmod y))
 | .and=>some ([], .d (.int k) (k.wrap ((BitVec.ofInt k.bits x &&& BitVec.ofInt k.bits y).toNat:Nat)))
 | .shl=>some ([gd (0≤y)], .d (.int k) (k.wrap (x*2 ^ (min y.toNat k.bits))))
 | .shr=>some ([gd (0≤y)], .d (.int k) (x.fdiv (2 ^ (min y.toNat k.bits))))
 | .eql=>some ([], .pr (x=y) inferInstance)
 | .neq=>some ([], .pr (x≠y) inferInstance)
 | .lss=>some ([], .pr (x<y) inferInstance)
 | .leq=>some ([], .pr (x≤y) inferInstance)
 | .gtr=>some ([], .pr (y<x) inferInstance)
 | .geq=>some ([], .pr (y≤x) inferInstance)
 | _=>none
def Km (op:BinOp) (x y:List UInt8):Option (List Gd×V S.C):=
 match op with
 | .add=>some ([gd (x.length+y.length≤9223372036854775807)], .d .str (x++y))
 | .eql=>some ([], .pr (x=y) inferInstance)
 | .neq=>some ([], .pr (x≠y) inferInstance)
 | _=>none
def V.int? {D:Nat→Type} :V D→Option (IntKind×Int)
 | .d (.int k) n=>some (k,n)
 | _=>none
def V.tT {D:Nat→Type} :V D→Option (List UInt8)
 | .d .str s=>some s
 | _=>none
def V.bool? {D:Nat→Type} :V D→Option Bool
 | .d .bool b=>some b
 | .pr p i=>some (@decide p i)
 | _=>none
def Oi:BinOp→Bool
 | .shl | .shr=>true
 | _=>false
def CX (op:BinOp) (t:Nat) (x y:V S.C):Option (List Gd×V S.C):=
 match x.int?,y.int? with
 | some (k,a),some (k',b)=>if Oi op=true∨k=k' then arith S op k a b else none
 | _,_=>match x.tT,y.tT with
  | some a,some b=>Km S op a b
  | _,_=>match x.bool?,y.bool? with
   | some a,some b=>cond (match S.ty t with | some .bool=>true | _=>false) (match op with
    | .eql=>some ([], .pr (a=b) inferInstance)
    | .neq=>some ([], .pr (a≠b) inferInstance)
    | _=>none) none
   | _,_=>cond (S.pt t) (match x,y with
    | .nil, .nil=>match op with
     | .eql=>some ([], .d .bool true)
     | .neq=>some ([], .d .bool false)
     | _=>none
    | .ptr _ _, .nil=>match op with
     | .eql=>some ([], .d .bool false)
     | .neq=>some ([], .d .bool true)
     | _=>none
    | _,_=>none) none
def xd:(t:Ty)→t.den S.C→t.den S.C→Prop
 | .int _,x,y=> @Eq Int x y
 | .bool,x,y=> @Eq Bool x y
 | .str,x,y=> @Eq (List UInt8) x y
 | _,_,_=>False
def ML:(t:Ty)→(x y:t.den S.C)→Decidable (xd S t x y)
 | .int _,x,y=>(inferInstance:DecidableEq Int) x y
 | .bool,x,y=>(inferInstance:DecidableEq Bool) x y
 | .str,x,y=>(inferInstance:DecidableEq (List UInt8)) x y
 | .st _,_,_=>instDecidableFalse
 | .sl _,_,_=>instDecidableFalse
 | .pt,_,_=>instDecidableFalse
def kJ:(ts:List Ty)→aA S.C ts→aA S.C ts→Prop
 | [],_,_=>True
 | [t],x,y=>xd S t x y
 | t::u::ts,x,y=>xd S t x.1 y.1∧kJ (u::ts) x.2 y.2
def An:(ts:List Ty)→(x y:aA S.C ts)→Decidable (kJ S ts x y)
 | [],_,_=>instDecidableTrue
 | [t],x,y=>ML S t x y
 | t::u::ts,x,y=> @instDecidableAnd _ _ (ML S t x.1 y.1) (An (u::ts) x.2 y.2)
def structEq (op:BinOp) (t:Nat) (x y:V S.C):Rt S:=
 match S.ty t with
 | some (.st u)=>match datum S (fun _=>none) (.st u) x,datum S (fun _=>none) (.st u) y with
  | some a,some b=>match op with
   | .eql=>aM S (.pr (kJ S (S.F u) (S.ex u a) (S.ex u b)) (An S (S.F u) (S.ex u a) (S.ex u b))) []
   | .neq=>aM S (.pr (¬ kJ S (S.F u) (S.ex u a) (S.ex u b)) (@instDecidableNot _ (An S (S.F u) (S.ex u a) (S.ex u b)))) []
   | _=> .fail
  | _,_=> .fail
 | _=> .fail
def Mo:Value→Option (V S.C)
 | .int k n=>some (.d (.int k) n)
 | .bool b=>some (.d .bool b)
 | .string s=>some (.d .str s.data.toList)
 | .pointer none=>some .nil
 | .slice none 0 0=>some .dD
 | _=>none
def bn (tm:Nat→V S.C):Operand→Option (V S.C)
 | .tmp t=>some (tm t)
 | .const v=>Mo S v
 | .func f=>some (.gQ f [])
 | .global _=>none
def kO (tm:Nat→V S.C):Option Operand→Option (Option (V S.C))
 | none=>some none
 | some x=>(bn S tm x).bind fun v=>some (some v)
def cm:V S.C→Bool
 | .d (.st _) _=>false
 | .d _ _ | .pr _ _ | .bE _ _ _ | .aQ _ | .ptr _ _ | .gz _ _ _ | .eI _ _ | .nil | .dD | .fv _ _ _=>true
 | _=>false
def fits (vs:List (V S.C)) (n:Nat):Bool:=Nat.beq vs.length n&&vs.all (cm S)
def Ar (u:Nat) (vs:List (V S.C)):List (Nat×V S.C)→Option (List (V S.C))
 | []=>some vs
 | (i,v)::r=>match S.fP u i with
  | some (o,t)=>cond (fits S (cellsOf S v) (Ty.sz S t)&&Nat.ble (o+Ty.sz S t) vs.length) (Ar u (setCells S vs o (cellsOf S v)) r) none
  | none=>none
def oT (bx:Bx S.C) (e:Ty) (l:List (e.den S.C)):List (Nat×V S.C)→Option (List (e.den S.C)×aV S.C)
 | []=>some (l,[])
 | (i,v)::r=>cond (Nat.blt i (List.length l)) ((datum S bx e v).bind fun x=>(oT bx e (l.set i x) r).bind fun b=>some (b.1,eB S bx v++b.2)) none
def jj (e:Ty) (l:List (e.den S.C)) (i:Int):e.den S.C:=l.getD i.toNat (Ty.zero S e)
def partOf (e:Ty) (x:e.den S.C) (off:Nat) (t:Ty):Option (t.den S.C):=jP S (fun _=>none) t ((kK S e x).drop off)
def limit:Nat:=140737488355328
def IL (t:Ty) (bx:Bx S.C):V S.C→Rt S
 | .ptr b off=>match bx b with
  | some (.cells vs) | some (.cq vs)=>match t with
   | .st u=>cond (Nat.ble (off+(S.F u).length) vs.length) (aM S (.agg u ((vs.drop off).take (S.F u).length)) []) .fail
   | _=>match vs[off]? with
    | some v=>aM S v []
    | none=> .fail
  | _=> .fail
 | .eI u x=>match fH S u t x with
  | some y=>aM S (.d t y) []
  | none=> .fail
 | .nY c=>match t with
  | .pt=>aM S (.ptr c 0) []
  | _=> .fail
 | .gz b i off=>match bx b with
  | some (.arr e l) | some (.b8 e l)=>match partOf S e (jj S e l i) off t with
   | some y=>aM S (.d t y) []
   | none=> .fail
  | _=> .fail
 | _=> .fail
def Ch (t:Ty) (bx:Bx S.C) (v:V S.C):V S.C→Rt S
 | .ptr b off=>match bx b with
  | some (.cells vs)=>cond (fits S (cellsOf S v) (Ty.sz S t)&&Nat.ble (off+Ty.sz S t) vs.length) (aM S .skip [(b, .cells (setCells S vs off (cellsOf S v)))]) .fail
  | _=> .fail
 | .gz b i off=>match bx b with
  | some (.arr e l)=>match datum S bx t v with
   | some y=>cond (Nat.ble (off+Ty.sz S t) (Ty.sz S e)&&(eB S bx v).all fun u=> !Nat.beq u.1 b) (match jP S (fun _=>none) e (setCells S (kK S e (jj S e l i)) off (kK S t y)) with
    | some e'=>aM S .skip (eB S bx v++ [(b, .arr e (l.set i.toNat e'))])
    | none=> .fail) .fail
   | none=> .fail
  | _=> .fail
 | _=> .fail
def Kl (u:Nat) (bx:Bx S.C) (v:V S.C):V S.C→Rt S
 | .ptr b off=>match bx b with
  | some (.cells vs)=>cond (fits S (cellsOf S v) (Ty.sz S (.st u))&&Nat.ble (off+Ty.sz S (.st u)) vs.length) (aM S .skip [(b, .cq (setCells S vs off (cellsOf S v)))]) .fail
  | _=> .fail
 | _=> .fail
def Ht (t f:Nat):V S.C→Rt S
 | .ptr b off=>match nj S t with
  | some u=>match S.fP u f with
   | some (o,_)=>aM S (.ptr b (off+o)) []
   | none=> .fail
  | _=> .fail
 | .eI (.st u) x=>match nj S t with
  | some u'=>cond (Nat.beq u u') (match S.fP u f with
   | some (o,w)=>match partOf S (.st u) x o w with
    | some y=>aM S (.eI w y) []
    | none=> .fail
   | none=> .fail) .fail
  | _=> .fail
 | .gz b i off=>match nj S t with
  | some u=>match S.fP u f with
   | some (o,_)=>aM S (.gz b i (off+o)) []
   | none=> .fail
  | _=> .fail
 | .split b c=>match nj S t with
  | some u=>match S.fP u f with
   | some (o,_)=>match o with
    | 0=>aM S (.nY c) []
    | o+1=>aM S (.ptr b o) []
   | none=> .fail
  | _=> .fail
 | _=> .fail
def fB (i:Int) (n:Nat):List Gd:= [gd (0≤i),gd (i<(n:Int))]
def qD (v:V S.C):Option Int:=v.int?.map (·.2)
def I_ (b:Nat) (i:Int) (j:Nat):Nat→Rt S
 | 0=> .fail
 | n+1=> .ite (i=(j:Int)) (Int.instDecidableEq i (j:Int)) (aM S (.ptr b j) []) (I_ b i (j+1) n)
def Iw (e0:Ty) (bx:Bx S.C) (i:Int):V S.C→Rt S
 | .d (.sl e) l=>if e=e0 then .gd (fB i l.length) (aM S (.eI e (jj S e l i)) []) else .fail
 | .bE _ e l=>if e=e0 then .gd (fB i l.length) (aM S (.eI e (jj S e l i)) []) else .fail
 | .aQ b=>match bx b with
  | some (.arr e l) | some (.b8 e l)=>if e=e0 then .gd (fB i l.length) (aM S (.gz b i 0) []) else .fail
  | _=> .fail
 | .dm b n=>match e0 with
  | .sl _=> .gd (fB i n) (I_ S b i 0 n)
  | _=> .fail
 | _=> .fail
def rowOf (e:Ty):List (V S.C)→Option (List (e.den S.C))
 | []=>some []
 | v::vs=>(dV S (fun _=>none) e v).bind fun x=>(rowOf e vs).bind fun r=>some (x::r)
def Gx (n:Nat) (e:Ty) (u:Nat) (bx:Bx S.C) (j:Int):V S.C→Rt S
 | .ptr b off=>match bx b with
  | some (.cells vs) | some (.cq vs)=>match rowOf S e ((vs.drop off).take n) with
   | some l=> .gd (fB j l.length) (aM S (.eI e (jj S e l j)) [(b, .cq vs)])
   | none=> .fail
  | _=> .fail
 | .eI t x=>match fH S t (.st u) x with
  | some y=>match rowOf S e ((kK S (.st u) y).take n) with
   | some l=> .gd (fB j l.length) (aM S (.eI e (jj S e l j)) [])
   | none=> .fail
  | none=> .fail
 | _=> .fail
def zV (u:Nat):V S.C→Option (List (V S.C))
 | .agg u' vs=>cond (Nat.beq u u') (some vs) none
 | .d t x=>(fH S t (.st u) x).bind fun y=>some (kK S (.st u) y)
 | _=>none
def Gy (n:Nat) (e:Ty) (u:Nat) (j:Int) (v:V S.C):Rt S:=
 match zV S u v with
 | some vs=>match rowOf S e (vs.take n) with
  | some l=> .gd (fB j l.length) (aM S (.d e (jj S e l j)) [])
  | none=> .fail
 | none=> .fail
def CT (w k:Nat) (j:Int) (vs:List (V S.C)):(i m:Nat)→Rt S
 | _,0=> .fail
 | i,m+1=> .ite (j=(i:Int)) inferInstance (aM S (.agg w ((vs.drop (i*k)).take k)) []) (CT w k j vs (i+1) m)
def bounds (n:Nat) (lo hi:Option (V S.C)):Option (List Gd×Int×Int):=
 match lo,hi with
 | none,none=>some ([],0,n)
 | some a,none=>(qD S a).bind fun l=>some ([gd (0≤l),gd (l≤(n:Int))],l,n)
 | none,some b=>(qD S b).bind fun h=>some ([gd (0≤h),gd (h≤(n:Int))],0,h)
 | some a,some b=>(qD S a).bind fun l=>(qD S b).bind fun h=>some ([gd (0≤h),gd (h≤(n:Int)),gd (0≤l),gd (l≤h)],l,h)
def cut {α:Type} (l:List α) (a b:Int):List α:=(l.take b.toNat).drop a.toNat
def cutFrom {α:Type} (l:List α) (a:Int):List α:=l.drop a.toNat
def lz {α:Type} (l:List α) (a b:Int) (hi:Option (V S.C)):List α:=match hi with
 | none=>cutFrom l a
 | some _=>cut l a b
def rU (k:Nat) (a b:Int):Option (V S.C)→V S.C
 | none=> .pre k b
 | some _=> .win k a (b - a)
def o6 {α:Type} (l:List α) (n i m:Int):List α:=l.take n.toNat++(l.drop i.toNat).take m.toNat++l.drop (n+m).toNat
def Ag {α:Type} (z:α) (l:List α) (i m:Int):List α:=l.take i.toNat++List.replicate m.toNat z++l.drop (i+m).toNat
def Ke (vw:Bool) (T0:Ty) (bx:Bx S.C) (lo hi:Option (V S.C)):V S.C→Rt S
 | .d .str s=>if T0= .str then match bounds S (List.length s) lo hi with
  | some (gs,a,b)=> .gd gs (aM S (.d .str (lz S s a b hi)) [])
  | none=> .fail else .fail
 | .d (.sl e) s=>if T0= .sl e then match bounds S (List.length s) lo hi with
  | some (gs,a,b)=> .gd gs (aM S (.d (.sl e) (lz S s a b hi)) [])
  | none=> .fail else .fail
 | .bE k e s=>if T0= .sl e then match bounds S s.length lo hi with
  | some (gs,a,b)=> .gd gs (aM S (match hi with | none=> .bE k e (cutFrom s a) | some _=> .d (.sl e) (cut s a b)) [])
  | none=> .fail else .fail
 | .aQ k=>match bx k with
  | some (.arr e s)=>if T0= .sl e then match bounds S s.length lo hi with
   | some (gs,a,b)=> .gd gs (cond vw (aM S (rU S k a b lo) []) (aM S (.d (.sl e) (lz S s a b hi)) [(k, .b8 e s)]))
   | none=> .fail else .fail
  | some (.b8 e s)=>if T0= .sl e then match bounds S s.length lo hi with
   | some (gs,a,b)=> .gd gs (aM S (.d (.sl e) (lz S s a b hi)) [])
   | none=> .fail else .fail
  | _=> .fail
 | .pre k n=>match bx k with
  | some (.arr e s)=>if T0= .sl e then match bounds S (match hi with | none=>n.toNat | some _=>s.length) lo hi with
   | some (gs,a,b)=> .gd gs (aM S (rU S k a b lo) [])
   | none=> .fail else .fail
  | _=> .fail
 | _=> .fail
def Kd (T0:Ty) (bx:Bx S.C) (lo hi mx:V S.C):V S.C→Rt S
 | .aQ k=>match bx k with
  | some (.arr e s)=>if T0= .sl e then match qD S lo,qD S hi,qD S mx with
   | some a,some b,some c=> .gd [gd (0≤a),gd (a≤b),gd (b≤c),gd (c≤(s.length:Int))] (aM S .undef [])
   | _,_,_=> .fail else .fail
  | _=> .fail
 | _=> .fail
def G1 (e:Ty) (bx:Bx S.C):V S.C→Rt S
 | .win b i m=>match bx b with
  | some (.arr e' l)=>match fH S (.sl e') (.sl e) l with
   | some l=>aM S (.jX []) [(b, .arr e (Ag (Ty.zero S e) l i m))]
   | none=> .fail
  | _=> .fail
 | _=> .fail
def wQ (B:Nat) (ay:Nat) (e:Ty) (bx:Bx S.C) (x:V S.C):V S.C→Rt S
 | .bE b e' l=>match bx b with
  | some .tail=>match fH S (.sl e') (.sl e) l with
   | some l=>match datum S bx (.sl e) x with
    | some y=> .gd [gd ((List.length l+List.length y)*ay≤limit)] (aM S (.bE (B) e (List.append l y)) [(b, .dead),(B, .tail)])
    | none=> .fail
   | none=> .fail
  | _=> .fail
 | .aQ b=>match bx b with
  | some (.arr e' l)=>match fH S (.sl e') (.sl e) l with
   | some l=>match datum S bx (.sl e) x with
    | some y=> .gd [gd ((List.length l+List.length y)*ay≤limit)] (aM S (.aQ (B)) [(b, .dead),(B, .arr e (List.append l y))])
    | none=> .fail
   | none=> .fail
  | _=> .fail
 | .pre b n=>match bx b,x with
  | some (.arr e' l), .win b' i m=>cond (Nat.beq b' b) (match fH S (.sl e') (.sl e) l with
   | some l=> .gd [gd (n≤i),gd (List.length l*ay≤limit)] (aM S (.pre B (n+m)) [(b, .dead),(B, .arr e (o6 l n i m))])
   | none=> .fail) .fail
  | _,_=> .fail
 | .dD=>match datum S bx (.sl e) x with
  | some y=> .gd [gd (List.length y*ay≤limit)] (aM S (.aQ (B)) [(B, .arr e y)])
  | none=> .fail
 | _=> .fail
def IF (T0:Ty) (bx:Bx S.C):V S.C→Rt S
 | .d .str s=>if T0= .str then aM S (.d (.int .i64) (List.length s:Int)) [] else .fail
 | .dD=>match T0 with
  | .sl _=>aM S (.d (.int .i64) (0:Int)) []
  | _=> .fail
 | .d (.sl e) l=>if T0= .sl e then aM S (.d (.int .i64) (List.length l:Int)) [] else .fail
 | .bE _ e l=>if T0= .sl e then aM S (.d (.int .i64) (l.length:Int)) [] else .fail
 | .aQ b=>match bx b with
  | some (.arr e l) | some (.b8 e l)=>if T0= .sl e then aM S (.d (.int .i64) (l.length:Int)) [] else .fail
  | _=> .fail
 | .pre b n=>match bx b with
  | some (.arr e _)=>if T0= .sl e then aM S (.d (.int .i64) n) [] else .fail
  | _=> .fail
 | _=> .fail
def DS (id:Nat):(rs:List K)→Ks S.C rs→(List (V S.C)×aV S.C×Nat→Rt S)→Rt S
 | [],_,κ=>κ ([],[],id)
 | k::rs,x,κ=>OL S id k (Ks.head x) fun (v,us,id')=>DS id' rs (Ks.tail x) fun (vs,us',Ym)=>κ (v::vs,us++us',Ym)
def tY:List (V S.C)→V S.C
 | [v]=>v
 | vs=> .jX vs
def l5:(rs os:List K)→Ks S.C (rs++os)→Ks S.C rs×Ks S.C os
 | [],_,x=>((),x)
 | _::rs,os,x=>let (a,b):=l5 rs os (Ks.tail x); (Ks.cons (Ks.head x) a,b)
def oneMore (n:Nat):CK→Nat
 | .data _=>n
 | _=>n+1
def qC:K→Nat
 | .val (.data _) | .ro _ | .fn _ _ | .nil | .err=>0
 | .val _=>1
 | .obj cs | .opt cs | .dm cs=>1+cs.foldl oneMore 0
 | .bH=>2
 | .cA _ cs=>2+cs.foldl oneMore 0
def j9:List K→Nat
 | []=>0
 | k::ks=>qC k+j9 ks
def DL (e:Entry S):Bool:= !((e.rs++outs e.ps).all (xh S))
def sE (B:Nat) (bx:Bx S.C) (f:Nat) (args:List (V S.C)):Rt S:=
 match T.es.findSome? fun e=>if e.f=f then (fm S T.fs bx e.ps args).bind fun a=>some (⟨e,a⟩:(e:Entry S)×(Ks S.C e.ps×aV S.C)) else none with
 | some ⟨e,a⟩=>cond (Nat.ble (j9 e.rs+j9 (outs e.ps)) 16&&(eK S e.ps args).all fun b=> !(Nat.ble B b&&Nat.blt b (B+16))) (.bind _ (e.sp a.1) fun r=>
  let p:=l5 S e.rs (outs e.ps) r
  DS S B e.rs p.1 fun q=>aM S (tY S q.1) (lJ S (DL S e) a.2++(q.2.1++gD S q.2.2 e.ps args p.2))) .fail
 | none=> .fail
def wI:(ts:List Ty)→aA S.C ts→List (V S.C)
 | [],_=> []
 | t::ts,x=> .d t (aA.head x)::wI ts (aA.tail x)
def mE (bx:Bx S.C):(ts:List Ty)→List (V S.C)→Option (aA S.C ts×aV S.C)
 | [],[]=>some ((),[])
 | t::ts,v::vs=>(datum S bx t v).bind fun x=>(mE bx ts vs).bind fun b=>some (aA.cons x b.1,eB S bx v++b.2)
 | _,_=>none
def z6 (B:Nat) (bx:Bx S.C) (args:List (V S.C)):V S.C→Rt S
 | .fv a r g=>match mE S bx a args with
  | some (x,us)=> .bind _ (g x) fun y=>aM S (tY S (wI S r y)) us
  | none=> .fail
 | .gQ f []=>sE S T B bx f args
 | .gQ f vs=>match T.fs.find? (·.f == f) with
  | some e=>match caps S bx e.c vs,mE S bx e.a args with
   | some y,some (x,us)=> .bind _ (e.sp x y) fun z=>aM S (tY S (wI S e.r z)) us
   | _,_=> .fail
  | none=> .fail
 | _=> .fail
def nQ (bx:Bx S.C):List (V S.C)→aV S.C
 | []=> []
 | .ptr b _::vs=>(match bx b with
  | some (.cells ws)=> [(b, .cq ws)]
  | _=> [])++nQ bx vs
 | _::vs=>nQ bx vs
def zv (e:Ty):List (V S.C)→Option (List (List (e.den S.C)))
 | []=>some []
 | .bE _ e' l::vs=>(fH S (.sl e') (.sl e) l).bind fun x=>(zv e vs).bind fun r=>some (x::r)
 | _::_=>none
def A2 (t:Nat):Bool:=match S.bt with
 | some u=>Nat.beq u.1 t
 | none=>false
def settle (e:Option Ty) (bx:Bx S.C) (b n:Nat):Rt S:=
 match bx b with
 | some (.cells vs)=>match vs with
  | .dD::_=>aM S (.dm b n) []
  | vs=>match e with
   | some (.sl e)=>match zv S e vs with
    | some l=>cond (Nat.beq n vs.length) (aM S (.d (.sl (.sl e)) l) [(b, .cq vs)]) .fail
    | none=> .fail
   | _=> .fail
 | _=> .fail
def DP (l c:Operand):Option Nat:=match l,c with
 | .const (.int .i64 (.ofNat n)), .const (.int .i64 (.ofNat m))=>cond (Nat.beq n m&&Nat.ble n 8) (some n) none
 | _,_=>none
def Ix:Ty→Bool
 | .sl _=>true
 | _=>false
def bytesOf (l:List Int):List UInt8:=l.map fun n=>UInt8.ofNat n.toNat
def dM (ay:Nat→Nat) (B:Nat) (o:Op) (ty:Nat) (tm:Nat→V S.C) (bx:Bx S.C):Rt S:=
 let ev:=bn S tm
 match o with
 | .move x=>match ev x with
  | some .dD=>cond T.nl (aM S .dD []) (match gi S ty with
   | some e=>aM S (.bE (B) e []) [(B, .tail)]
   | none=> .fail)
  | some v=>aM S v []
  | none=> .fail
 | .assign x=>match ev x with
  | some .dD=>cond T.nl (aM S .dD []) (match gi S ty with
   | some e=>aM S (.bE (B) e []) [(B, .tail)]
   | none=> .fail)
  | some (.dm b n)=>settle S (gi S ty) bx b n
  | some v=>aM S v []
  | none=> .fail
 | .pick c a b=>match ev c with
  | some (.d .bool x)=>match (x:Bool) with
   | true=>match ev a with
    | some v=>aM S v []
    | none=> .fail
   | false=>match ev b with
    | some v=>aM S v []
    | none=> .fail
  | _=> .fail
 | .alloc t=>match S.ty t with
  | some u=>aM S (.ptr (B) 0) [(B, .cells (zeroCells S u))]
  | none=>cond (A2 S t) (aM S (.ptr B 0) [(B+1, .buf []),(B, .bH (B+1))]) .fail
 | .box t x=>match S.ty t,ev x with
  | some u,some v=>cond (fits S (cellsOf S v) (Ty.sz S u)) (match S.sp t with
   | false=>aM S (.ptr (B) 0) [(B, .cells (cellsOf S v))]
   | true=>match cellsOf S v with
    | .ptr c 0::vs=>aM S (.split B c) [(B, .cells vs)]
    | _=> .fail) .fail
  | _,_=> .fail
 | .build t parts=>match S.ty t with
  | some (.st u)=>match parts.toList.mapM (fun p=>(ev p.2).map fun v=>(p.1,v)) with
   | some ps=>match Ar S u (zeroCells S (.st u)) ps with
    | some vs=>aM S (.agg u vs) []
    | none=> .fail
   | none=> .fail
  | _=> .fail
 | .buildSlice t len parts=>match gi S t with
  | some e=>cond (T.vw&&Nat.beq len 0) (match parts.toList with
   | []=>aM S (.bE B e []) [(B, .tail)]
   | _=> .fail) (match parts.toList.mapM (fun p=>(ev p.2).map fun v=>(p.1,v)) with
   | some ps=>cond (Nat.ble (len*Ty.sz S e) 16777216) (match oT S bx e (List.replicate len (Ty.zero S e)) ps with
    | some (l,us)=>aM S (.aQ (B)) (us++ [(B, .arr e l)])
    | none=> .fail) .fail
   | none=> .fail)
  | none=> .fail
 | .load t x=>match S.ty t,ev x with
  | some T,some v=>IL S T bx v
  | _,_=> .fail
 | .store t x y=>match sy S t with
  | some (_,_,u)=>match ev x,ev y with
   | some p,some v=>Kl S u bx v p
   | _,_=> .fail
  | none=>match S.ty t,ev x,ev y with
   | some u,some p,some v=>Ch S u bx v p
   | _,_,_=> .fail
 | .nilCheck x=>match ev x with
  | some (.ptr b o)=>aM S (.ptr b o) []
  | some (.eI t x)=>aM S (.eI t x) []
  | some (.gz b i p)=>aM S (.gz b i p) []
  | some (.split b c)=>aM S (.split b c) []
  | _=> .fail
 | .binOp op t x (.const .nilIface) _=>match ev x with
  | some (.err b)=>cond (S.sQ t) (match op with
   | .eql=>aM S (.d .bool b) []
   | .neq=>aM S (.d .bool (Bool.not b)) []
   | _=> .fail) .fail
  | _=> .fail
 | .binOp op t x y _=>cond (S.eq t) (match ev x,ev y with
  | some a,some b=>structEq S op t a b
  | _,_=> .fail) (match ev x,ev y with
  | some a,some b=>match CX S op t a b with
   | some (gs,v)=> .gd gs (aM S v [])
   | none=> .fail
  | _,_=> .fail)
 | .unOp op _ x=>match op,ev x with
  | .not,some (.pr p i)=>aM S (.pr (¬ p) (@instDecidableNot p i)) []
  | .not,some (.d .bool b)=>aM S (.d .bool (Bool.not b)) []
  | .neg,some v=>match v.int? with
   | some (k,n)=>aM S (.d (.int k) (k.wrap (0 - n))) []
   | none=> .fail
  | _,_=> .fail
 | .convert s t x=>match S.ty s,S.ty t,ev x with
  | some _,some (.int k),some v=>match v.int? with
   | some (_,n)=>aM S (.d (.int k) (k.wrap n)) []
   | none=> .fail
  | some T,some .str,some v=>match v.tT with
   | some s=>aM S (.d .str s) []
   | none=>match T,v with
    | .sl (.int .u8), .aQ b=>match bx b with
     | some (.arr (.int .u8) (n::l))=>aM S (.d .str (bytesOf (n::l))) []
     | _=> .fail
    | _,_=> .fail
  | _,_,_=> .fail
 | .makeFunc fn first cs=>match fn,first.toList with
  | .func f,[]=>match cs.toList.mapM ev with
   | some vs=>cond (vs.all (cm S)) (aM S (.gQ f vs) (nQ S bx vs)) .fail
   | none=> .fail
  | _,_=> .fail
 | .makeSlice t l c=>match gi S t,ev l,ev c with
  | some e,some v,some w=>match cond (T.vw&&Ix e&&Nat.ble (ay t) 64) (DP l c) none with
   | some n=>aM S (.dm B n) [(B, .cells (List.replicate n .dD))]
   | none=>match v.int?,w.int? with
    | some (.i64,n),some (.i64,m)=> .gd [gd (0≤n),gd (n≤m),gd (m*ay t≤limit)] (aM S (.aQ (B)) [(B, .arr e (List.replicate n.toNat (Ty.zero S e)))])
    | _,_=> .fail
  | _,_,_=> .fail
 | .slice t x lo hi none=>match S.ty t,ev x,kO S tm lo,kO S tm hi with
  | some T0,some v,some l,some h=>Ke S T.vw T0 bx l h v
  | _,_,_,_=> .fail
 | .slice t x (some lo) (some hi) (some mx)=>match S.ty t,ev x,ev lo,ev hi,ev mx with
  | some T0,some v,some l,some h,some m=>Kd S T0 bx l h m v
  | _,_,_,_,_=> .fail
 | .fieldAddr t x f=>match ev x with
  | some v=>Ht S t f v
  | none=> .fail
 | .field t x f=>match nj S t,ev x with
  | some u,some (.d (.st u') y)=>cond (Nat.beq u u') (match S.fP u' f with
   | some (o,w)=>match partOf S (.st u') y o w with
    | some z=>aM S (.d w z) []
    | none=> .fail
   | none=> .fail) .fail
  | some u,some (.agg u' vs)=>cond (Nat.beq u u'&&vs.length == (S.F u).length) (match S.fP u f with
   | some (o, .st w)=>aM S (.agg w ((vs.drop o).take (S.F w).length)) []
   | some (o,_)=>match vs[o]? with
    | some v=>aM S v []
    | none=> .fail
   | none=> .fail) .fail
  | _,_=> .fail
 | .indexAddr t x i=>match sy S t with
  | some (n,e,u)=>match ev x,ev i with
   | some v,some w=>match w.int? with
    | some (_,j)=>Gx S n e u bx j v
    | none=> .fail
   | _,_=> .fail
  | none=>match gi S t,ev x,ev i with
   | some e,some v,some w=>match w.int? with
    | some (_,n)=>Iw S e bx n v
    | none=> .fail
   | _,_,_=> .fail
 | .index t x i=>match sy S t with
  | some (n,e,u)=>match ev x,ev i with
   | some v,some w=>match w.int? with
    | some (_,j)=>Gy S n e u j v
    | none=> .fail
   | _,_=> .fail
  | none=>match CU S t with
   | some (n,m,u)=>match ev x,ev i with
    | some v,some w=>match zV S u v,w.int? with
     | some vs,some (_,j)=>cond (Nat.beq vs.length (n*(S.F m).length)) (CT S m (S.F m).length j vs 0 n) .fail
     | _,_=> .fail
    | _,_=> .fail
   | none=>match ev x,ev i with
    | some v,some w=>match S.ty t,v.tT,w.int? with
     | some .str,some s,some (_,n)=> .gd (fB n s.length) (aM S (.d (.int .u8) (((s.getD n.toNat 0).toNat:Nat):Int)) [])
     | _,_,_=> .fail
    | _,_=> .fail
 | .extract x i=>match ev x with
  | some (.jX vs)=>match vs[i]? with
   | some v=>aM S v []
   | none=> .fail
  | _=> .fail
 | .call c=>match c.args.toList.mapM ev with
  | none=> .fail
  | some args=>match c.callee with
   | .builtin .len=>match args,(c.argTypes[0]?).bind S.ty with
    | [v],some T=>IF S T bx v
    | _,_=> .fail
   | .builtin .append=>match args,c.argTypes.toList with
    | [s,x],[t,u]=>match gi S t,gi S u with
     | some e,some e'=>if e=e' then wQ S B (ay t) e bx x s else .fail
     | _,_=> .fail
    | _,_=> .fail
   | .builtin .clear=>match args,c.argTypes.toList with
    | [v],[t]=>match gi S t with
     | some e=>G1 S e bx v
     | none=> .fail
    | _,_=> .fail
   | .builtin b=>match args with
    | [v,w]=>match v.int?,w.int? with
     | some (k,x),some (k',y)=>if k=k' then match b with
      | .min=>aM S (.d (.int k) (Min.min (α:=Int) x y)) []
      | .max=>aM S (.d (.int k) (Max.max (α:=Int) x y)) []
      | _=> .fail else .fail
     | _,_=> .fail
    | _=> .fail
   | .value f=>match ev f with
    | some v=>z6 S T B bx args v
    | none=> .fail
   | _=> .fail
 | _=> .fail
def qH (B:Nat):List Nat:=(List.range 16).map (B+ ·)
def xK (tm:Nat→V S.C) (x:Operand):List Nat:=match bn S tm x with
 | some v=>aL S v
 | none=> []
def deep (bx:Bx S.C) (ids:List Nat):List Nat:=ids++ids.flatMap fun i=>match bx i with
 | some (.cells vs) | some (.cq vs)=>vs.flatMap (aI S)
 | some (.bH j)=> [j]
 | _=> []
def aP (vw:Bool) (B:Nat) (o:Op) (tm:Nat→V S.C) (bx:Bx S.C):List Nat×List Nat:=
 let ids:=o.operands.toList.flatMap (xK S tm)
 match o with
 | .load .. | .convert .. =>(ids,[])
 | .indexAddr t _ _=>(ids,match S.ar t with | some _=>ids | none=> [])
 | .call { callee:= .builtin .len, .. } =>(ids,[])
 | .slice .. =>(ids,cond vw [] (ids++qH B))
 | .call { callee:= .value _, .. } =>let ids:=deep S bx ids; (ids++qH B,ids++qH B)
 | .move x=>match bn S tm x with
  | some .dD=>(qH B,qH B)
  | _=>([],[])
 | .assign x=>match bn S tm x with
  | some .dD=>(qH B,qH B)
  | some (.dm b _)=>([b],[b])
  | _=>([],[])
 | .pick .. | .field .. | .fieldAddr .. | .extract .. | .unOp .. | .index .. | .binOp .. | .nilCheck _=>([],[])
 | _=>(ids++qH B,ids++qH B)
end
end Go.Sy
namespace Go.Sy
inductive AC where
 | skip
 | yV (id:Nat) (ops:Array Oper) (draw:Bool)
 | seq (a b:AC)
 | cut (n:Nat) (a b:AC)
 | cond (c:Operand) (a b:AC)
 | block (id:Nat) (a:AC)
 | loop (n:Nat) (a:AC)
 | exit (id:Nat)
 | ret
 | scope (a:AC)
 | bad (c:Code)
 deriving Inhabited
def AC.code:AC→Code
 | .skip=> .skip
 | .yV id ops draw=> .region id ops draw
 | .seq a b | .cut _ a b=> .seq a.code b.code
 | .cond c a b=> .cond c a.code b.code
 | .block id a=> .block id a.code
 | .loop _ a=> .loop a.code
 | .exit id=> .exit id
 | .ret=> .ret
 | .scope a=> .scope a.code
 | .bad c=>c
def AC.of (eT:List Nat):Code→(ls ss:Nat)→AC×Nat×Nat
 | .skip,l,s=>(.skip,l,s)
 | .region id ops draw,l,s=>(.yV id ops draw,l,s)
 | .seq a b,l,s=>
  let (x,l1,s1):=AC.of eT a l (s+1)
  let (y,l2,s2):=AC.of eT b l1 s1
  (match eT.idxOf? s with | some n=> .cut (2*n+1) x y | none=> .seq x y,l2,s2)
 | .cond c a b,l,s=>
  let (x,l1,s1):=AC.of eT a l s
  let (y,l2,s2):=AC.of eT b l1 s1
  (.cond c x y,l2,s2)
 | .block id a,l,s=>let (x,l1,s1):=AC.of eT a l s; (.block id x,l1,s1)
 | .loop a,l,s=>let (x,l1,s1):=AC.of eT a (l+1) s; (.loop (2*l) x,l1,s1)
 | .exit id,l,s=>(.exit id,l,s)
 | .ret,l,s=>(.ret,l,s)
 | .scope a,l,s=>let (x,l1,s1):=AC.of eT a l s; (.scope x,l1,s1)
 | c,l,s=>(.bad c,l,s)
theorem AC.VR (eT:List Nat) (c:Code): ∀ l s,(AC.of eT c l s).1.code=c:=by
 induction c with
 | seq a b Ir It=>
  intro l s
  simp only [AC.of]
  split <;> simp [AC.code,Ir,It]
 | cond c a b Ir It=>intro l s; simp [AC.of,AC.code,Ir,It]
 | block id a ih=>intro l s; simp [AC.of,AC.code,ih]
 | loop a ih=>intro l s; simp [AC.of,AC.code,ih]
 | scope a ih=>intro l s; simp [AC.of,AC.code,ih]
 | _=>intro l s; simp [AC.of,AC.code]
section
variable (S:bB)
variable (T:jh S) (ay:Nat→Nat)
def A4 (a b:List Nat):Bool:=a.any fun x=>b.contains x
def meets (x y:List Nat×List Nat):Bool:=A4 x.2 y.1||A4 x.2 y.2||A4 y.2 x.1
def qm (ops:Array Oper) (fu:Array Nat):List (Nat×Option (List Nat×List Nat))→Bool
 | []=>true
 | (j,fj)::r=>qm ops fu r&&r.all fun (i,fi)=>
  (fu.getD j 0).testBit i||(Oper.apart ops (ops.getD i default) (ops.getD j default)&&
   match fi,fj with
   | some a,some b=> !meets a b
   | _,_=>true)
def Cx (ops:Array Oper):Bool:=ops.toList.zipIdx.all fun p=>p.1.after.toList.all fun e=> !Region.binds .any e||Nat.blt e.on p.2
def restrict (bx:Bx S.C) (ids:List Nat):Bx S.C:=fun i=>cond (ids.contains i) (bx i) none
def oX (bx:Bx S.C) (B:Nat) (fp:List Nat) (us:aV S.C):Bool:=
 us.all fun u=>fp.contains u.1&&(!(Nat.ble B u.1&&Nat.blt u.1 (B+16))||(bx u.1).isNone)
def Kk {R:Type} (B:Nat) (dst:Option Nat) (o:Op) (ty:Nat) (env:Env S.C) (k:Env S.C→Option R):Option R:=
 let fp:=aP S T.vw B o env.tm env.bx
 (dM S T ay B o ty env.tm (restrict S env.bx fp.1)).run fun p=>
  cond (oX S env.bx B fp.2 p.2) (k (env.apply dst p.1 p.2)) none
def nE (dP n:Nat):Option Nat→Nat
 | _=>16*(100000+1000*dP+n)
def A3 (ops:Array Oper) (n:Nat):Bool:=ops.any fun o=>match o.guard with
 | some (j,_)=>Nat.beq j n
 | none=>false
def splitK {R:Type} (g:Bool) (dst:Option Nat) (env:Env S.C) (k:Env S.C→Option R):Option R:=
 match g with
 | false=>k env
 | true=>match dst with
  | none=>none
  | some t=>match env.tm t with
   | .d .bool x=>match (x:Bool) with
    | true=>k { env with tm:=aD env.tm t (.d .bool true) }
    | false=>k { env with tm:=aD env.tm t (.d .bool false) }
   | .pr _ i=> @ite _ _ i (k { env with tm:=aD env.tm t (.d .bool true) }) (k { env with tm:=aD env.tm t (.d .bool false) })
   | _=>none
def qa (ops:Array Oper) (o:Oper) (tm:Nat→V S.C):Option Bool:=
 match o.guard with
 | none=>some true
 | some (j,want)=>match (ops[j]?).bind (·.dst) with
  | none=>none
  | some t=>match tm t with
   | .d .bool x=>some (match (x:Bool) with | true=>want | false=> !want)
   | .skip=>some false
   | _=>none
noncomputable def agree {R:Type} (a b:Option R):Option R:=open Classical in if a=b then a else none
def Bg (o:Op) (tm:Nat→V S.C):Option (Nat×Bool):=match o with
 | .binOp op t x (.const (.slice none 0 0)) _=>match gi S t with
  | some _=>match bn S tm x with
   | some (.d (.sl _) l)=>match op with
    | .eql=>some (List.length l,false)
    | .neq=>some (List.length l,true)
    | _=>none
   | _=>none
  | none=>none
 | _=>none
def DB:Op→Bool
 | .defer _=>true
 | _=>false
def J8 (tm:Nat→V S.C) (x y:Operand):Bool:=match x,y with
 | .const (.int k x), .const (.int k' y)=>decide (k=k')&&decide (x=y)
 | .tmp a, .tmp b=>match tm a,tm b with
  | .ptr b o, .ptr b' o'=>Nat.beq b b'&&Nat.beq o o'
  | _,_=>false
 | _,_=>false
def Fa (tm:Nat→V S.C):List Operand→List Operand→Bool
 | [],[]=>true
 | a::as,b::bs=>J8 S tm a b&&Fa tm as bs
 | _,_=>false
def C9 (tm:Nat→V S.C) (dc:Option (Nat×List Operand)):Op→Bool
 | .defer ⟨.value (.func f),args,_⟩=>match dc with
  | some (g,ops)=>Nat.beq f g&&Fa S tm args.toList ops
  | none=>false
 | _=>false
noncomputable def kW {R:Type} (dP:Nat) (ops:Array Oper) (draw:Bool) (fu:Array Nat) (k:Env S.C→Option R):List Oper→Nat→List (Nat×Option (List Nat×List Nat))→Env S.C→Option R
 | [],_,er,env=>cond (!draw||(qm ops fu er&&Cx ops)) (k env) none
 | o::r,n,er,env=>match qa S ops o env.tm with
  | none=>none
  | some true=>match DB o.op with
   | true=>cond (draw||env.df|| !C9 S env.tm T.dc o.op) none (kW dP ops draw fu k r (n+1) ((n,none)::er) { env.apply o.dst .skip [] with df:=true })
   | false=>match Bg S o.op env.tm with
   | some (m,v)=>cond draw none (@ite _ (m=0) (instDecidableEqNat m 0) (agree (splitK S (A3 ops n) o.dst (env.apply o.dst (.d .bool (Bool.not v)) []) fun e=>
    kW dP ops draw fu k r (n+1) ((n,some ([],[]))::er) e) (splitK S (A3 ops n) o.dst (env.apply o.dst (.d .bool v) []) fun e=>
    kW dP ops draw fu k r (n+1) ((n,some ([],[]))::er) e)) (splitK S (A3 ops n) o.dst (env.apply o.dst (.d .bool v) []) fun e=>
    kW dP ops draw fu k r (n+1) ((n,some ([],[]))::er) e))
   | none=>Kk S T ay (nE dP n o.dst) o.dst o.op o.type env fun e=>splitK S (A3 ops n) o.dst e fun e=>
    kW dP ops draw fu k r (n+1) ((n,some (aP S T.vw (nE dP n o.dst) o.op env.tm env.bx))::er) e
  | some false=>kW dP ops draw fu k r (n+1) ((n,none)::er) (env.apply o.dst .skip [])
inductive Ex where
 | normal | exit (id:Nat) | ret
 deriving Inhabited
abbrev Kt (R:Type):=Ex→Env S.C→Option R
noncomputable def exec {R:Type} (L:Nat→Env S.C→Option R):AC→Env S.C→Kt S R→Option R
 | .skip,env,k=>k .normal env
 | .yV id ops draw,env,k=>kW S T ay id ops draw (Region.before ops) (k .normal) ops.toList 0 [] env
 | .seq a b,env,k=>exec L a env fun e env'=>match e with
  | .normal=>exec L b env' k
  | e=>k e env'
 | .cut n a _,env,k=>exec L a env fun e env'=>match e with
  | .normal=>L n env'
  | e=>k e env'
 | .cond c a b,env,k=>match bn S env.tm c with
  | some (.d .bool x)=>match (x:Bool) with
   | true=>exec L a env k
   | false=>exec L b env k
  | some (.pr _ i)=> @ite _ _ i (exec L a env k) (exec L b env k)
  | _=>none
 | .block id a,env,k=>exec L a env fun e env'=>match e with
  | .exit j=>cond (Nat.beq j id) (k .normal env') (k (.exit j) env')
  | e=>k e env'
 | .loop n _,env,_=>L n env
 | .exit id,env,k=>k (.exit id) env
 | .ret,env,k=>k .ret env
 | .scope a,env,k=>exec L a env k
 | .bad _,_,_=>none
def Bj (sl:List Nat) (ks:List K) (env:Env S.C):Option (Ks S.C ks):=
 (fm S T.fs env.bx ks (sl.map env.tm)).bind fun a=>some a.1
def gk (id:Nat):(k:K)→k.den S.C→V S.C×aV S.C
 | .val (.data t),x=>(.d t x,[])
 | .val (.bE e),x=>(.bE id e x,[(id, .tail)])
 | .val (.aQ e),x=>(.aQ id,[(id, .arr e x)])
 | .obj cs,x=>let a:=bS S (id+1) cs x; (.ptr id 0,(id, .cells a.1)::a.2.1)
 | .ro t,x=>(.eI t x,[])
 | .fn a r,g=>(.fv a r g,[])
 | .nil,_=>(.nil,[])
 | .err,x=>(.err x,[])
 | .bH,x=>(.ptr id 0,[(id, .bH (id+1)),(id+1, .buf x)])
 | .opt _,_=>(.undef,[])
 | .cA t cs,x=>let a0:=bS S (id+1) [.data t] x.1; let a:=bS S (id+2) cs x.2; (.split (id+1) id,(id, .cells a0.1)::(id+1, .cells a.1)::a.2.1)
 | .dm cs,x=>let a:=bS S (id+1) cs x; (.dm id (CK.c_ S cs),(id, .cells a.1)::a.2.1)
def gP:(ks:List K)→(sl:List Nat)→Ks S.C ks→Env S.C→Env S.C
 | [],_,_,env=>env
 | _::_,[],_,env=>env
 | k::r,t::sl,x,env=>
  let a:=gk S (16*t) k (Ks.head x)
  gP r sl (Ks.tail x) (env.apply (some t) a.1 a.2)
def Env.none (df:Bool):Env S.C:=⟨fun _=> .undef,fun _=>Option.none,df⟩
structure je (R:Type) where
 sl:List Nat
 ks:List K
 fn:Ks S.C ks→Option R
 df:Bool
def Rj:Bool→Bool→Bool
 | true,b=>b
 | false,true=>false
 | false,false=>true
noncomputable def DH {R:Type} (env:Env S.C):List (je S R)→Option R
 | []=>none
 | l::ls=>match cond (Rj l.df env.df) (Bj S T l.sl l.ks env) none with
  | some x=>l.fn x
  | none=>DH env ls
noncomputable def jn {R:Type} (ls:Nat→List (je S R)) (n:Nat) (env:Env S.C):Option R:=DH S T env (ls n)
def ni:List Nat→List K→Bool
 | [],[]=>true
 | t::sl,k::ks=>Nat.ble (qC k) 16&& !sl.contains t&&(match k with | .opt _=>false | _=>true)&&ni sl ks
 | _,_=>false
noncomputable def VC {R:Type} (l0 l1:Nat→List (je S R)):AC→Kt S R→List Prop
 | .seq a b,k=>VC l0 l1 a (fun e env'=>match e with
  | .normal=>exec S T ay (jn S T l0) b env' k
  | e=>k e env')++VC l0 l1 b k
 | .cut n a b,k=>VC l0 l1 a (fun e env'=>match e with
  | .normal=>jn S T l0 n env'
  | e=>k e env')++VC l0 l1 b k++(l1 n).map fun l=> ∀ x,l.fn x=exec S T ay (jn S T l0) b (gP S l.ks l.sl x (Env.none S l.df)) k
 | .cond _ a b,k=>VC l0 l1 a k++VC l0 l1 b k
 | .block id a,k=>VC l0 l1 a fun e env'=>match e with
  | .exit j=>cond (Nat.beq j id) (k .normal env') (k (.exit j) env')
  | e=>k e env'
 | .loop n a,k=>VC l0 l1 a (fun e env'=>match e with
  | .normal=>jn S T l0 n env'
  | e=>k e env')++(l1 n).map fun l=> ∀ x,l.fn x=exec S T ay (jn S T l0) a (gP S l.ks l.sl x (Env.none S l.df)) (fun e env'=>match e with
   | .normal=>jn S T l0 n env'
   | e=>k e env')
 | .scope a,k=>VC l0 l1 a k
 | _,_=> []
def Av (ps:List K) (x:Ks S.C ps):Env S.C:=gP S ps (List.range' 0 ps.length) x (Env.none S false)
def pP (env:Env S.C):ResultVar→V S.C
 | .tmp t=>env.tm t
 | .cell a t=>match S.ty t,env.tm a with
  | some (.st u), .ptr b 0=>match env.bx b with
   | some (.cells vs)=>cond (vs.length == (S.F u).length) (.agg u vs) .undef
   | _=> .undef
  | some _, .ptr b 0=>match env.bx b with
   | some (.cells [v])=>v
   | _=> .undef
  | _,_=> .undef
def jR:List K→Nat→List Nat
 | [],_=> []
 | .obj _::r,i=>i::jR r (i+1)
 | .bH::r,i=>i::jR r (i+1)
 | .cA _ _::r,i=>i::jR r (i+1)
 | _::r,i=>jR r (i+1)
def nK:Nat:=1440000
def mY (fn:Func) (ps rs:List K):Kt S (Ks S.C (rs++outs ps)):=fun e env=>match e with
 | .exit _=>none
 | _=>match env.df with
  | false=>(fm S T.fs env.bx (rs++outs ps) (fn.results.toList.map (pP S env)++(jR ps 0).map env.tm)).map (·.1)
  | true=>match T.dc with
   | some (f,ops)=>match ops.mapM (bn S env.tm) with
    | some vs=>(sE S ⟨T.de,T.fs,T.nl,T.vw,none,[]⟩ nK env.bx f vs).run fun p=>cond (p.2.all fun u=> !(Nat.ble nK u.1&&Nat.blt u.1 (nK+16))||(env.bx u.1).isNone)
     ((fm S T.fs (aF env.bx p.2) (rs++outs ps) (fn.results.toList.map (pP S (env.apply none .undef p.2))++(jR ps 0).map env.tm)).map (·.1)) none
    | none=>none
   | none=>none
end
end Go.Sy
namespace Go.Sy
abbrev St:=Nat→Nat→Prop
def At (w:World) (s:St) (b o:Nat) (cs:List Value):Prop:=
 ∀ j v,cs[j]? =some v→w.cell? ⟨b,o+j,none⟩=some v∧s b (o+j)
def cy (w:World) (s:St) (w':World) (s':St):Prop:=
 ∀ b o,s b o→s' b o∧w'.cell? ⟨b,o,none⟩=w.cell? ⟨b,o,none⟩
theorem cy.refl (w:World) (s:St):cy w s w s:=fun _ _ h=>⟨h,rfl⟩
theorem cy.trans {w w' w'':World} {s s' s'':St} (h:cy w s w' s') (h':cy w' s' w'' s''):cy w s w'' s'':=
 fun b o hs=>⟨(h' b o (h b o hs).1).1,((h' b o (h b o hs).1).2).trans (h b o hs).2⟩
theorem At.later {w w':World} {s s':St} {b o:Nat} {cs:List Value} (h:At w s b o cs) (hl:cy w s w' s'):At w' s' b o cs:=
 fun j v hj=>⟨(hl _ _ (h j v hj).2).2.trans (h j v hj).1,(hl _ _ (h j v hj).2).1⟩
theorem At.left {w:World} {s:St} {b o:Nat} {cs ds:List Value} (h:At w s b o (cs++ds)):At w s b o cs:=fun j v hj=>
 h j v (by rw [List.getElem?_append_left (List.getElem?_eq_some_iff.1 hj).1]; exact hj)
theorem At.right {w:World} {s:St} {b o:Nat} {cs ds:List Value} (h:At w s b o (cs++ds)):At w s b (o+cs.length) ds:=fun j v hj=>by
 have :=h (cs.length+j) v (by rw [List.getElem?_append_right (by omega)]; simpa using hj)
 rw [← Nat.add_assoc] at this
 exact this
theorem At.append {w:World} {s:St} {b o:Nat} {cs ds:List Value} (h:At w s b o cs) (h':At w s b (o+cs.length) ds):At w s b o (cs++ds):=fun j v hj=>by
 by_cases hlt:j<cs.length
 · exact h j v (by rw [List.getElem?_append_left hlt] at hj; exact hj)
 · have :=h' (j - cs.length) v (by rw [List.getElem?_append_right (by omega)] at hj; exact hj)
   rw [show o+cs.length+(j - cs.length)=o+j from by omega] at this
   exact this
def isAgg:Value→Bool
 | .agg _=>true
 | _=>false
def bR:Ty→Bool
 | .st _=>true
 | _=>false
def j0 (M:St):Prop:= ∀ b o, ¬ M b o
def kF (M A B:St):Prop:=(∀ b o,M b o↔A b o∨B b o)∧ ∀ b o,A b o→B b o→False
section
variable (P:Program) (S:bB)
def bY (R:(t:Ty)→t.den S.C→List Value→Prop):(ts:List Ty)→aA S.C ts→List Value→Prop
 | [],_,cs=>cs= []
 | t::ts,x,cs=> ∃ c r,cs=c::r∧R t (aA.head x) [c]∧bY R ts (aA.tail x) r
def zD (R:(t:Ty)→t.den S.C→List Value→Prop) (w:World) (s:St) (e:Ty) (b o:Nat) (l:List (e.den S.C)):Prop:=
 ∀ (i:Nat) (x:e.den S.C),l[i]? =some x→ ∃ ds,ds.length=Ty.sz S e∧At w s b (o+i*Ty.sz S e) ds∧R e x ds
def aN (w:World) (s:St):Nat→(t:Ty)→t.den S.C→List Value→Prop
 | 0,_,_,_=>False
 | n+1,t,x,cs=>match t,x with
  | .int k,x=>cs= [.int k x]
  | .bool,x=>cs= [.bool x]
  | .str,x=>cs= [.string ⟨List.toArray x⟩]
  | .pt,_=>cs= [.pointer none]
  | .sl e,l=> ∃ a cap,cs= [.slice a (List.length l) cap]∧List.length l≤cap∧
   (List.length l=0∨ ∃ b o,a=some ⟨b,o,none⟩∧zD S (fun t x cs=>aN w s n t x cs) w s e b o l)
  | .st u,x=>bY S (fun t x cs=>aN w s n t x cs) (S.F u) (S.ex u x) cs
def c7 (w:World) (s:St) (t:Ty) (x:t.den S.C) (v:Value):Prop:=isAgg v=bR t∧ ∃ n,aN S w s n t x v.cells.toList
theorem bY.mono {R R':(t:Ty)→t.den S.C→List Value→Prop} (h: ∀ t x cs,R t x cs→R' t x cs):
 ∀ (ts:List Ty) (x:aA S.C ts) (cs:List Value),bY S R ts x cs→bY S R' ts x cs
 | [],_,_,hr=>hr
 | _::ts,_,_,⟨c,r,hc,h1,h2⟩=>⟨c,r,hc,h _ _ _ h1,bY.mono h ts _ _ h2⟩
theorem aN.mono {w w':World} {s s':St} (hl:cy w s w' s'): ∀ {n m:Nat},n≤m→ ∀ {t:Ty} {x:t.den S.C} {cs:List Value},aN S w s n t x cs→aN S w' s' m t x cs
 | 0,_,_,_,_,_,h=>h.elim
 | n+1,0,hm,_,_,_,_=>by omega
 | n+1,m+1,hm,t,x,cs,h=>by
  have ih:=fun {t:Ty} {x:t.den S.C} {cs:List Value} =>aN.mono hl (n:=n) (m:=m) (by omega) (t:=t) (x:=x) (cs:=cs)
  cases t with
  | int k=>exact h
  | bool=>exact h
  | str=>exact h
  | pt=>exact h
  | sl e=>
   obtain ⟨a,cap,hcs,hc,h⟩:=h
   refine ⟨a,cap,hcs,hc,h.imp id ?_⟩
   rintro ⟨b,o,ha,he⟩
   refine ⟨b,o,ha,fun i x hi=> ?_⟩
   obtain ⟨ds,hd,dL,hr⟩:=he i x hi
   exact ⟨ds,hd,dL.later hl,ih hr⟩
  | st u=>exact bY.mono S (fun t x cs h=>ih h) _ _ _ h
theorem c7.mono {w w':World} {s s':St} (hl:cy w s w' s') {t:Ty} {x:t.den S.C} {v:Value} (h:c7 S w s t x v):c7 S w' s' t x v:=
 ⟨h.1,h.2.imp fun _ hn=>aN.mono S hl (Nat.le_refl _) hn⟩
theorem aN.up {w:World} {s:St} {n m:Nat} (hm:n≤m) {t:Ty} {x:t.den S.C} {cs:List Value} (h:aN S w s n t x cs):aN S w s m t x cs:=
 aN.mono S (cy.refl w s) hm h
theorem bY.length {R:(t:Ty)→t.den S.C→List Value→Prop} : ∀ (ts:List Ty) (x:aA S.C ts) (cs:List Value),bY S R ts x cs→cs.length=ts.length
 | [],_,_,h=>by cases h; rfl
 | _::ts,_,_,⟨c,r,hc,_,h2⟩=>by subst hc; simp [bY.length ts _ _ h2]
theorem aN.length {w:World} {s:St} {n:Nat} {t:Ty} {x:t.den S.C} {cs:List Value} (h:aN S w s n t x cs):cs.length=Ty.sz S t:=by
 cases n with
 | zero=>exact h.elim
 | succ n=>cases t with
  | int k=>cases h; rfl
  | bool=>cases h; rfl
  | str=>cases h; rfl
  | pt=>cases h; rfl
  | sl e=>obtain ⟨a,cap,rfl,_⟩:=h; rfl
  | st u=>exact bY.length S _ _ _ h
theorem bY.flat {w w':World} {s s':St} {n m:Nat} : ∀ (ts:List Ty) (x:aA S.C ts) (cs:List Value),(ts.all fun | .sl _=>false | .st _=>false | _=>true)=true→
 bY S (fun t x cs=>aN S w s n t x cs) ts x cs→bY S (fun t x cs=>aN S w' s' (m+1) t x cs) ts x cs
 | [],_,_,_,h=>h
 | t::ts,x,cs,hf,⟨c,r,hc,h1,h2⟩=>by
  simp only [List.all_cons,Bool.and_eq_true] at hf
  refine ⟨c,r,hc, ?_,bY.flat ts _ _ hf.2 h2⟩
  cases n with
  | zero=>exact h1.elim
  | succ n=>cases t with
   | int k=>exact h1
   | bool=>exact h1
   | str=>exact h1
   | pt=>exact h1
   | sl e=>simp at hf
   | st u=>simp at hf
end
end Go.Sy
namespace Go.Sy
structure bI (w w':World) (T:St):Prop where
 os:w'.os=w.os
 tape:w'.tape=w.tape
 output:w'.output=w.output
 size:w.heap.size≤w'.heap.size
 same: ∀ b,b<w.heap.size→(∀ o, ¬ T b o)→w'.heap[b]? =w.heap[b]?
 cell: ∀ b o,b<w.heap.size→ ¬ T b o→w'.cell? ⟨b,o,none⟩=w.cell? ⟨b,o,none⟩
 some: ∀ b o,b<w.heap.size→(w.cell? ⟨b,o,none⟩).isSome=true→(w'.cell? ⟨b,o,none⟩).isSome=true
 Di: ∀ b o,b<w.heap.size→ ¬ T b o→w'.frozen? ⟨b,o,none⟩=w.frozen? ⟨b,o,none⟩
theorem bI.refl (w:World) (T:St):bI w w T:=⟨rfl,rfl,rfl,Nat.le_refl _,fun _ _ _=>rfl,fun _ _ _ _=>rfl,fun _ _ _ h=>h,fun _ _ _ _=>rfl⟩
theorem bI.mono {w w':World} {T T':St} (h:bI w w' T) (ht: ∀ b o,T b o→T' b o):bI w w' T':=
 ⟨h.os,h.tape,h.output,h.size,fun b hb hn=>h.same b hb fun o ho=>hn o (ht b o ho),fun b o hb hn=>h.cell b o hb fun ho=>hn (ht b o ho),h.some,fun b o hb hn=>h.Di b o hb fun ho=>hn (ht b o ho)⟩
theorem bI.trans {w w' w'':World} {T T' Gf:St} (h:bI w w' T) (h':bI w' w'' T') (h1: ∀ b o,T b o→Gf b o) (h2: ∀ b o,b<w.heap.size→T' b o→Gf b o):bI w w'' Gf:=
 ⟨h'.os.trans h.os,h'.tape.trans h.tape,h'.output.trans h.output,Nat.le_trans h.size h'.size,
  fun b hb hn=>(h'.same b (Nat.lt_of_lt_of_le hb h.size) fun o ho=>hn o (h2 b o hb ho)).trans (h.same b hb fun o ho=>hn o (h1 b o ho)),
  fun b o hb hn=>(h'.cell b o (Nat.lt_of_lt_of_le hb h.size) fun ho=>hn (h2 b o hb ho)).trans (h.cell b o hb fun ho=>hn (h1 b o ho)),
  fun b o hb hs=>h'.some b o (Nat.lt_of_lt_of_le hb h.size) (h.some b o hb hs),
  fun b o hb hn=>(h'.Di b o (Nat.lt_of_lt_of_le hb h.size) fun ho=>hn (h2 b o hb ho)).trans (h.Di b o hb fun ho=>hn (h1 b o ho))⟩
theorem cell_of_heap {w w':World} {b o:Nat} (h:w'.heap[b]? =w.heap[b]?):w'.cell? ⟨b,o,none⟩=w.cell? ⟨b,o,none⟩:=by
 simp [World.cell?,h]
theorem HA {w w':World} {b o:Nat} (h:w'.heap[b]? =w.heap[b]?):w'.frozen? ⟨b,o,none⟩=w.frozen? ⟨b,o,none⟩:=by
 simp [World.frozen?,h]
theorem bI.drew (w:World) (T:St):bI w w.drew T:=⟨rfl,rfl,rfl,Nat.le_refl _,fun _ _ _=>rfl,fun _ _ _ _=>rfl,fun _ _ _ h=>h,fun _ _ _ _=>rfl⟩
theorem heap_alloc (w:World) (o:Obj) (b:Nat) (h:b<w.heap.size):(w.alloc o).heap[b]? =w.heap[b]? :=RowKit.Below.heap_alloc w o b h
theorem bI.alloc (w:World) (o:Obj) (T:St):bI w (w.alloc o) T:=
 ⟨rfl,rfl,rfl,by simp,fun b hb _=>heap_alloc w o b hb,fun b o' hb _=>cell_of_heap (heap_alloc w o b hb),fun b o' hb h=>by rw [cell_of_heap (heap_alloc w o b hb)]; exact h,fun b o' hb _=>HA (heap_alloc w o b hb)⟩
theorem os_setCells (b:Nat): ∀ (vs:List Value) (o:Nat) (w:World),(w.setCells b o vs).os=w.os∧(w.setCells b o vs).tape=w.tape∧(w.setCells b o vs).output=w.output∧(w.setCells b o vs).heap.size=w.heap.size
 | [],_,_=>⟨rfl,rfl,rfl,rfl⟩
 | v::r,o,w=>by
  obtain ⟨h1,h2,h3,h4⟩:=os_setCells b r (o+1) (w.setCell ⟨b,o,none⟩ v)
  exact ⟨h1,h2,h3,h4.trans (by simp)⟩
theorem NM (b:Nat): ∀ (vs:List Value) (o:Nat) (w:World) (k:Nat),k≠b→(w.setCells b o vs).heap[k]? =w.heap[k]?
 | [],_,_,_,_=>rfl
 | v::r,o,w,k,hk=>(NM b r (o+1) (w.setCell ⟨b,o,none⟩ v) k hk).trans (RowKit.Below.heap_setCell w _ v k hk)
theorem adv (w:World) (b o:Nat):w.setCells b o []=w:=rfl
theorem bI.setCells (w:World) (b o:Nat) (vs:List Value) (ht:w.there b o vs.length):bI w (w.setCells b o vs) (fun b' o'=>b'=b∧o≤o'∧o'<o+vs.length):=by
 obtain ⟨h1,h2,h3,h4⟩:=os_setCells b vs o w
 refine ⟨h1,h2,h3,by omega,fun k hk hn=> ?_,fun k o' hk hn=> ?_,fun k o' hk hs=> ?_,fun k o' hk _=> ?_⟩
 · by_cases e:k=b
   · subst e
     cases vs with
     | nil=>rfl
     | cons v r=>exact absurd ⟨rfl,Nat.le_refl _,by simp⟩ (hn o)
   · exact NM b vs o w k e
 · exact World.cell?_setCells_out b vs o w ⟨k,o',none⟩ fun hb _=>by
    have hb:k=b:=hb
    by_cases e:o≤o'∧o'<o+vs.length
    · exact absurd ⟨hb,e⟩ hn
    · show o'<o∨o+vs.length≤o'
      omega
 · by_cases e:k=b∧o≤o'∧o'<o+vs.length
   · obtain ⟨rfl,e1,e2⟩:=e
     have :=World.cell?_setCells_in k vs o w (fun i hi=>(ht i hi).1) (o' - o) (by omega)
     rw [show o+(o' - o)=o' from by omega] at this
     rw [this]; rfl
   · rw [World.cell?_setCells_out b vs o w ⟨k,o',none⟩ fun hb _=>by
      have hb:k=b:=hb
      show o'<o∨o+vs.length≤o'
      omega]
     exact hs
 · exact World.frozen?_setCells ..
structure Loc where
 b:Nat
 o:Nat
 n:Nat
 cap:Nat
 nil:Bool
def Loc.aP (L:Loc):St:=fun b o=>b=L.b∧L.o≤o∧o<L.o+L.n
def K9 (L:Loc) (a:Option Addr) (len cap sz:Nat):Prop:=
 (a=none∧cap=0∧L.n=0)∨ ∃ b o,a=some ⟨b,o,none⟩∧L.n=(cap - len)*sz∧(len<cap→L.b=b∧L.o=o+len*sz)
structure sg (L:Loc) (a:Option Addr) (len cap sz:Nat):Prop where
 addr:a=if L.nil then none else some ⟨L.b,L.o,none⟩
 mB:cap=L.cap
 cells:L.n=L.cap*sz
 isNil:L.nil=true→L.cap=0
 fits:len≤cap
def oC (P:Program) (f:Nat):Prop:= ∃ fn,P.funcs[f]? =some fn∧(fn.name == "runtime.NumGoroutine")=false∧fn.body.isNone=false
def mZ:List Value→Value
 | [v]=>v
 | vs=> .tuple vs.toArray
def grown (s:St) (w w':World):St:=fun b o=>s b o∨(w.heap.size≤b∧b<w'.heap.size)
section
variable (P:Program) (S:bB)
def gY (w:World) (s:St):(ts:List Ty)→aA S.C ts→List Value→Prop
 | [],_,vs=>vs= []
 | t::ts,x,vs=> ∃ v r,vs=v::r∧c7 S w s t (aA.head x) v∧gY w s ts (aA.tail x) r
theorem gY.mono {w w':World} {s s':St} (hl:cy w s w' s'): ∀ (ts:List Ty) (x:aA S.C ts) (vs:List Value),gY S w s ts x vs→gY S w' s' ts x vs
 | [],_,_,h=>h
 | _::ts,_,_,⟨v,r,h1,h2,h3⟩=>⟨v,r,h1,h2.mono S hl,gY.mono hl ts _ _ h3⟩
def kD (S:bB) (w:World) (M:St):Prop:=(∀ g ∈ S.gl,g.1.1<w.heap.size∧ ¬ M g.1.1 g.1.2∧ ∃ v,w.cell? ⟨g.1.1,g.1.2,none⟩=some v∧g.2 v)∧
 ∀ g ∈ S.gb,g.1<w.heap.size∧(∀ o, ¬ M g.1 o)∧ ∃ ob,w.heap[g.1]? =some ob∧g.2 ob
theorem kD.at {S:bB} {w0 w:World} {M0 M:St} (hG:kD S w0 M0) (hc:bI w0 w M0) (hM: ∀ b o,M b o→w0.heap.size≤b∨M0 b o):kD S w M:=
 ⟨fun g hg=>by
  obtain ⟨g1,g2,v,g3,g4⟩:=hG.1 g hg
  refine ⟨Nat.lt_of_lt_of_le g1 hc.size,fun hm=> ?_,v,(hc.cell g.1.1 g.1.2 g1 g2).trans g3,g4⟩
  rcases hM _ _ hm with h1 | h1
  · exact absurd g1 (Nat.not_lt.2 h1)
  · exact g2 h1,fun g hg=>by
  obtain ⟨g1,g2,v,g3,g4⟩:=hG.2 g hg
  refine ⟨Nat.lt_of_lt_of_le g1 hc.size,fun o hm=> ?_,v,(hc.same g.1 g1 g2).trans g3,g4⟩
  rcases hM _ _ hm with h1 | h1
  · exact absurd g1 (Nat.not_lt.2 h1)
  · exact g2 o h1⟩
def K0 (w:World):Prop:=kD S w (fun _ _=>False)
def oD (w:World) (s:St) (a r:List Ty) (g:aA S.C a→Option (aA S.C r)) (v:Value):Prop:=
 ∃ f first cap,v= .func (.func f) first cap∧oC P f∧ ∀ w1 s1,cy w s w1 s1→K0 S w1→ ∀ x args y,gY S w1 s1 a x args→g x=some y→
  Calls P f (first++args.toArray++cap) w1 fun e w'=> ∃ us,e= .returned (mZ us)∧bI w1 w' (fun _ _=>False)∧gY S w' (grown s1 w1 w') r y us
theorem oD.mono {w w':World} {s s':St} (hl:cy w s w' s') {a r:List Ty} {g:aA S.C a→Option (aA S.C r)} {v:Value} (h:oD P S w s a r g v):oD P S w' s' a r g v:=by
 obtain ⟨f,first,cap,hv,hf,h⟩:=h
 exact ⟨f,first,cap,hv,hf,fun w1 s1 cY=>h w1 s1 (hl.trans cY)⟩
def oF (w:World) (s:St) (t:Ty) (x:t.den S.C) (v:Value):Prop:=
 ∃ b o ds,v= .pointer (some ⟨b,o,none⟩)∧At w s b o ds∧ds.length=Ty.sz S t∧ ∃ n,aN S w s n t x ds
theorem oF.mono {w w':World} {s s':St} (hl:cy w s w' s') {t:Ty} {x:t.den S.C} {v:Value} (h:oF S w s t x v):oF S w' s' t x v:=by
 obtain ⟨b,o,ds,hv,dL,hd,n,hr⟩:=h
 exact ⟨b,o,ds,hv,dL.later hl,hd,n,hr.mono S hl (Nat.le_refl _)⟩
def zG:Bool→Value→Prop
 | true,v=>v= .nilIface
 | false,v=> ∃ t p,v= .iface t p
def b6 (w:World) (s:St) (μ:Nat→Loc) (bx:Bx S.C):V S.C→Value→Prop
 | .undef,_=>True
 | .skip,v=>v=Go.undef
 | .d t x,v=>c7 S w s t x v
 | .pr p i,v=>v= .bool (@decide p i)
 | .bE b e l,v=>c7 S w s (.sl e) l v∧(bx b=some .tail→ ∃ a cap,v= .slice a l.length cap∧K9 (μ b) a l.length cap (Ty.sz S e))
 | .aQ b,v=>(∃ a n c,v= .slice a n c)∧ ∀ e (l:List (e.den S.C)),(bx b=some (.arr e l)∨bx b=some (.b8 e l))→ ∃ a cap,v= .slice a l.length cap∧sg (μ b) a l.length cap (Ty.sz S e)
 | .pre b n,v=>(∃ a n c,v= .slice a n c)∧ ∀ e (l:List (e.den S.C)),bx b=some (.arr e l)→0≤n∧n.toNat≤l.length∧ ∃ a cap,v= .slice a n.toNat cap∧sg (μ b) a n.toNat cap (Ty.sz S e)
 | .win b i n,v=>(∃ a n c,v= .slice a n c)∧ ∀ e (l:List (e.den S.C)),bx b=some (.arr e l)→0≤i∧0≤n∧i.toNat+n.toNat≤l.length∧ ∃ a cap,v= .slice a n.toNat cap∧n.toNat≤cap∧(n.toNat=0∨a=some ⟨(μ b).b,(μ b).o+i.toNat*Ty.sz S e,none⟩)
 | .ptr b off,v=>v= .pointer (some ⟨(μ b).b,(μ b).o+off,none⟩)
 | .split b c,v=> ∃ k q,v= .pointer (some ⟨k,q,none⟩)∧At w s k q [.pointer (some ⟨(μ c).b,(μ c).o,none⟩)]∧(μ b).b=k∧(μ b).o=q+1
 | .nY c,v=> ∃ k q,v= .pointer (some ⟨k,q,none⟩)∧At w s k q [.pointer (some ⟨(μ c).b,(μ c).o,none⟩)]
 | .dm b n,v=>v= .slice (some ⟨(μ b).b,(μ b).o,none⟩) n n
 | .gz b i off,v=>(∃ p,v= .pointer (some p))∧ ∀ e (l:List (e.den S.C)),(bx b=some (.arr e l)∨bx b=some (.b8 e l))→0≤i∧i.toNat<l.length∧v= .pointer (some ⟨(μ b).b,(μ b).o+i.toNat*Ty.sz S e+off,none⟩)
 | .eI t x,v=>oF S w s t x v
 | .nil,v=>v= .pointer none
 | .err b,v=>zG b v
 | .dD,v=>v= .slice none 0 0
 | .fv a r g,v=>oD P S w s a r g v
 | .gQ _ _,_=>False
 | .agg _ _,_=>False
 | .jX _,_=>False
def aT (w:World) (s:St) (μ:Nat→Loc) (bx:Bx S.C):List (V S.C)→List Value→Prop
 | [],cs=>cs= []
 | v::vs,cs=> ∃ c r,cs=c::r∧b6 P S w s μ bx v c∧aT w s μ bx vs r
def RV (w:World) (s:St) (μ:Nat→Loc) (bx:Bx S.C):V S.C→Value→Prop
 | .agg u vs,v=> ∃ cs:Array Value,v= .agg cs∧vs.length=(S.F u).length∧vs.all (cm S)=true∧aT P S w s μ bx vs cs.toList
 | .jX vs,v=> ∃ us,v= .tuple us∧aT P S w s μ bx vs us.toList
 | .gQ f vs,v=> ∃ cs:Array Value,v= .func (.func f) #[] cs∧aT P S w s μ bx vs cs.toList
 | v,c=>b6 P S w s μ bx v c
def live (bx:Bx S.C) (i:Nat):Prop:=match bx i with
 | some (.cells _) | some (.arr _ _) | some .tail | some (.bH _) | some (.buf _)=>True
 | _=>False
def sB (L:Loc) (n:Nat):Value:= .slice (if L.nil then none else some ⟨L.b,0,none⟩) n L.cap
def CE (w:World) (b:Nat) (v:Value):Prop:=
 ∃ T e p,S.bt=some (T,e)∧w.heap[b]? =some (.cells #[p,v] T (0,0))∧(p= .pointer none∨p= .pointer (some ⟨b,0,none⟩))
def si (w:World) (L:Loc) (l:List UInt8):Prop:=
 L.o=0∧L.n=L.cap∧(L.nil=true→L.cap=0)∧ ∃ T e,S.bt=some (T,e)∧w.ownsRowF 0 e 1 (sB L l.length) l.length (Lib.byteCells l)
def RB (w:World) (s:St) (μ:Nat→Loc) (bx:Bx S.C) (L:Loc):eW S.C→Prop
 | .cells vs=>vs.all (cm S)=true∧L.n=vs.length∧w.there L.b L.o L.n∧ ∃ cs,w.rangeAt L.b L.o cs∧aT P S w s μ bx vs cs
 | .cq vs=>vs.all (cm S)=true∧ ∃ cs,At w s L.b L.o cs∧aT P S w s μ bx vs cs
 | .arr e l=>L.n=L.cap*Ty.sz S e∧(L.nil=true→L.cap=0)∧l.length≤L.cap∧w.there L.b L.o L.n∧
  ∀ i x,l[i]? =some x→ ∃ ds,ds.length=Ty.sz S e∧w.rangeAt L.b (L.o+i*Ty.sz S e) ds∧ ∃ n,aN S w s n e x ds
 | .b8 e l=>(L.nil=true→L.cap=0)∧l.length≤L.cap∧
  ∀ i x,l[i]? =some x→ ∃ ds,ds.length=Ty.sz S e∧At w s L.b (L.o+i*Ty.sz S e) ds∧ ∃ n,aN S w s n e x ds
 | .tail=>w.there L.b L.o L.n
 | .dead=>True
 | .bH j=>L.o=0∧L.n=2∧bx j≠none∧ ∃ v,CE S w L.b v∧ ∀ l,bx j=some (.buf l)→v=sB (μ j) l.length
 | .buf l=>si S w L l
end
end Go.Sy
namespace Go.Sy
section
variable (P:Program) (S:bB)
theorem bq {α:Type} (f:Nat→α) (k:Nat) (v:α):aD f k v k=v:=by
 unfold aD
 rw [show Nat.beq k k=true from Nat.beq_refl k]; rfl
theorem bM {α:Type} (f:Nat→α) {k i:Nat} (v:α) (h:i≠k):aD f k v i=f i:=by
 unfold aD
 cases e:Nat.beq i k with
 | true=>exact absurd (Nat.eq_of_beq_eq_true e) h
 | false=>rfl
def dJ (m m':Loc):eW S.C→eW S.C→Prop
 | .cells _, .cells _=>m'=m
 | .cells _, .cq _=>m'=m
 | .cq _, .cq _=>m'=m
 | .arr e l, .arr e' l'=>m'=m∧e'=e∧l'.length=l.length
 | .arr e l, .b8 e' l'=>m'=m∧e'=e∧l'.length=l.length
 | .b8 e l, .b8 e' l'=>m'=m∧e'=e∧l'.length=l.length
 | .tail, .tail=>m'=m
 | .bH _, .bH _=>m'=m
 | .cells _, .bH _=>m'=m
 | .bH _, .cells _=>m'=m
 | .buf l, .buf l'=>m'=m∧l'.length=l.length
 | _, .dead=>m'=m
 | _,_=>False
def vo:eW S.C→Prop
 | .cells _ | .bH _=>True
 | _=>False
theorem VT {m m':Loc} {B B':eW S.C} (h:vo S B) (h':vo S B') (e:m'=m):dJ S m m' B B':=by
 cases B <;> first | exact h.elim | (cases B' <;> first | exact h'.elim | exact e)
theorem dJ.refl (m:Loc) (B:eW S.C):dJ S m m B B:=by cases B <;> simp [dJ]
def aR (w0:World) (M0 s0:St) (bx:Bx S.C) (μ:Nat→Loc) (w:World):St:=
 fun b o=>b<w.heap.size∧(s0 b o∨M0 b o∨w0.heap.size≤b)∧ ∀ i,live S bx i→ ¬ (μ i).aP b o
structure Inv (w0:World) (M0 s0:St) (dq:List Deferred) (env:Env S.C) (a:Act) (w:World) (μ:Nat→Loc):Prop where
 k9: ∀ t,RV P S w (aR S w0 M0 s0 env.bx μ w) μ env.bx (env.tm t) (a.tmps.getD t Go.undef)
 cB: ∀ i B,env.bx i=some B→RB P S w (aR S w0 M0 s0 env.bx μ w) μ env.bx (μ i) B
 eH: ∀ i j,i≠j→live S env.bx i→live S env.bx j→ ∀ b o,(μ i).aP b o→(μ j).aP b o→False
 own: ∀ i,live S env.bx i→ ∀ b o,(μ i).aP b o→w0.heap.size≤b∨M0 b o
 ref: ∀ t i,i ∈ aL S (env.tm t)→env.bx i≠none
 mX: ∀ i vs,(env.bx i=some (.cells vs)∨env.bx i=some (.cq vs))→ ∀ v ∈ vs, ∀ j ∈ aI S v,env.bx j≠none
 jL:bI w0 w M0
 xb:a.defers=cond env.df dq []
 uV:kD S w0 M0
theorem b6.step {w w':World} {s s':St} {μ μ':Nat→Loc} {bx aq:Bx S.C} (hl:cy w s w' s')
 (hc: ∀ i B0,bx i=some B0→ ∃ B,aq i=some B∧dJ S (μ i) (μ' i) B0 B) {V:V S.C} {v:Value}
 (hr: ∀ i ∈ aI S V,bx i≠none) (h:b6 P S w s μ bx V v):b6 P S w' s' μ' aq V v:=by
 cases V with
 | undef=>trivial
 | skip=>exact h
 | d t x=>exact c7.mono S hl h
 | pr p i=>exact h
 | bE b e l=>
  refine ⟨c7.mono S hl h.1,fun hb=> ?_⟩
  obtain ⟨B0,cg⟩:=Option.ne_none_iff_exists'.1 (hr b (by simp [aI]))
  obtain ⟨B,hB,dA⟩:=hc b B0 cg
  rw [hb] at hB
  obtain rfl:=Option.some.inj hB
  cases B0 <;> simp only [dJ] at dA
  rw [dA]
  exact h.2 cg
 | aQ b=>
  refine ⟨h.1,fun e l hb=> ?_⟩
  replace h:=h.2
  obtain ⟨B0,cg⟩:=Option.ne_none_iff_exists'.1 (hr b (by simp [aI]))
  obtain ⟨B,hB,dA⟩:=hc b B0 cg
  rcases hb with hb | hb <;>
  · rw [hb] at hB
    obtain rfl:=Option.some.inj hB
    cases B0 <;> simp only [dJ] at dA
    all_goals
     obtain ⟨hm,rfl,hlen⟩:=dA
     rw [hm,hlen]
     first
     | exact h _ _ (.inl cg)
     | exact h _ _ (.inr cg)
 | pre b n=>
  refine ⟨h.1,fun e l hb=> ?_⟩
  replace h:=h.2
  obtain ⟨B0,cg⟩:=Option.ne_none_iff_exists'.1 (hr b (by simp [aI]))
  obtain ⟨B,hB,dA⟩:=hc b B0 cg
  rw [hb] at hB
  obtain rfl:=Option.some.inj hB
  cases B0 <;> simp only [dJ] at dA
  obtain ⟨hm,rfl,hlen⟩:=dA
  rw [hm,hlen]
  exact h _ _ cg
 | win b i n=>
  refine ⟨h.1,fun e l hb=> ?_⟩
  replace h:=h.2
  obtain ⟨B0,cg⟩:=Option.ne_none_iff_exists'.1 (hr b (by simp [aI]))
  obtain ⟨B,hB,dA⟩:=hc b B0 cg
  rw [hb] at hB
  obtain rfl:=Option.some.inj hB
  cases B0 <;> simp only [dJ] at dA
  obtain ⟨hm,rfl,hlen⟩:=dA
  rw [hm,hlen]
  exact h _ _ cg
 | ptr b off=>
  obtain ⟨B0,cg⟩:=Option.ne_none_iff_exists'.1 (hr b (by simp [aI]))
  obtain ⟨B,hB,dA⟩:=hc b B0 cg
  have hm:μ' b=μ b:=by
   cases B0 <;> cases B <;> simp only [dJ] at dA <;> first | exact dA | exact dA.1
  show v=_
  rw [hm]
  exact h
 | dm b n=>
  obtain ⟨B0,cg⟩:=Option.ne_none_iff_exists'.1 (hr b (by simp [aI]))
  obtain ⟨B,hB,dA⟩:=hc b B0 cg
  have hm:μ' b=μ b:=by
   cases B0 <;> cases B <;> simp only [dJ] at dA <;> first | exact dA | exact dA.1
  show v=_
  rw [hm]
  exact h
 | split b c=>
  have hm: ∀ i ∈ [b,c],μ' i=μ i:=fun i hb=>by
   obtain ⟨B0,cg⟩:=Option.ne_none_iff_exists'.1 (hr i hb)
   obtain ⟨B,hB,dA⟩:=hc i B0 cg
   cases B0 <;> cases B <;> simp only [dJ] at dA <;> first | exact dA | exact dA.1
  obtain ⟨k,q,h1,h2,h3,h4⟩:=h
  rw [← hm c (by simp)] at h2
  rw [← hm b (by simp)] at h3 h4
  exact ⟨k,q,h1,h2.later hl,h3,h4⟩
 | nY c=>
  have hm:μ' c=μ c:=by
   obtain ⟨B0,cg⟩:=Option.ne_none_iff_exists'.1 (hr c (by simp [aI]))
   obtain ⟨B,hB,dA⟩:=hc c B0 cg
   cases B0 <;> cases B <;> simp only [dJ] at dA <;> first | exact dA | exact dA.1
  obtain ⟨k,q,h1,h2⟩:=h
  rw [← hm] at h2
  exact ⟨k,q,h1,h2.later hl⟩
 | gz b i off=>
  refine ⟨h.1,fun e l hb=> ?_⟩
  replace h:=h.2
  obtain ⟨B0,cg⟩:=Option.ne_none_iff_exists'.1 (hr b (by simp [aI]))
  obtain ⟨B,hB,dA⟩:=hc b B0 cg
  rcases hb with hb | hb <;>
  · rw [hb] at hB
    obtain rfl:=Option.some.inj hB
    cases B0 <;> simp only [dJ] at dA
    all_goals
     obtain ⟨hm,rfl,hlen⟩:=dA
     rw [hm,hlen]
     first
     | exact h _ _ (.inl cg)
     | exact h _ _ (.inr cg)
 | eI t x=>exact oF.mono S hl h
 | nil=>exact h
 | err b=>exact h
 | dD=>exact h
 | fv a r g=>exact oD.mono P S hl h
 | gQ f vs=>exact h.elim
 | agg u vs=>exact h.elim
 | jX vs=>exact h.elim
theorem aT.step {w w':World} {s s':St} {μ μ':Nat→Loc} {bx aq:Bx S.C} (hl:cy w s w' s')
 (hc: ∀ i B0,bx i=some B0→ ∃ B,aq i=some B∧dJ S (μ i) (μ' i) B0 B): ∀ {vs:List (V S.C)} {cs:List Value},
 (∀ v ∈ vs, ∀ i ∈ aI S v,bx i≠none)→aT P S w s μ bx vs cs→aT P S w' s' μ' aq vs cs
 | [],_,_,h=>h
 | v::vs,_,hr,⟨c,r,h1,h2,h3⟩=>⟨c,r,h1,b6.step P S hl hc (hr v (by simp)) h2,aT.step hl hc (fun v hv=>hr v (by simp [hv])) h3⟩
theorem RV.step {w w':World} {s s':St} {μ μ':Nat→Loc} {bx aq:Bx S.C} (hl:cy w s w' s')
 (hc: ∀ i B0,bx i=some B0→ ∃ B,aq i=some B∧dJ S (μ i) (μ' i) B0 B) {V:V S.C} {v:Value}
 (hr: ∀ i ∈ aL S V,bx i≠none) (h:RV P S w s μ bx V v):RV P S w' s' μ' aq V v:=by
 cases V with
 | agg u vs=>
  obtain ⟨cs,h1,h2,h3,h4⟩:=h
  exact ⟨cs,h1,h2,h3,aT.step P S hl hc (fun v hv i hi=>hr i (by simp only [aL,List.mem_flatMap]; exact ⟨v,hv,hi⟩)) h4⟩
 | jX vs=>
  obtain ⟨cs,h1,h4⟩:=h
  exact ⟨cs,h1,aT.step P S hl hc (fun v hv i hi=>hr i (by simp only [aL,List.mem_flatMap]; exact ⟨v,hv,hi⟩)) h4⟩
 | gQ f vs=>
  obtain ⟨cs,h1,h4⟩:=h
  exact ⟨cs,h1,aT.step P S hl hc (fun v hv i hi=>hr i (by simp only [aL,List.mem_flatMap]; exact ⟨v,hv,hi⟩)) h4⟩
 | undef=>exact trivial
 | skip=>exact b6.step P S hl hc (V:= .skip) hr h
 | d t x=>exact b6.step P S hl hc (V:= .d t x) hr h
 | pr p i=>exact b6.step P S hl hc (V:= .pr p i) hr h
 | bE b e l=>exact b6.step P S hl hc (V:= .bE b e l) hr h
 | aQ b=>exact b6.step P S hl hc (V:= .aQ b) hr h
 | pre b n=>exact b6.step P S hl hc (V:= .pre b n) hr h
 | win b i n=>exact b6.step P S hl hc (V:= .win b i n) hr h
 | ptr b off=>exact b6.step P S hl hc (V:= .ptr b off) hr h
 | dm b n=>exact b6.step P S hl hc (V:= .dm b n) hr h
 | split b c=>exact b6.step P S hl hc (V:= .split b c) hr h
 | nY c=>exact b6.step P S hl hc (V:= .nY c) hr h
 | gz b i off=>exact b6.step P S hl hc (V:= .gz b i off) hr h
 | eI t x=>exact b6.step P S hl hc (V:= .eI t x) hr h
 | nil=>exact b6.step P S hl hc (V:= .nil) hr h
 | err b=>exact b6.step P S hl hc (V:= .err b) hr h
 | dD=>exact b6.step P S hl hc (V:= .dD) hr h
 | fv a r g=>exact b6.step P S hl hc (V:= .fv a r g) hr h
theorem aT.length {w:World} {s:St} {μ:Nat→Loc} {bx:Bx S.C} : ∀ {vs:List (V S.C)} {cs:List Value},aT P S w s μ bx vs cs→cs.length=vs.length
 | [],_,h=>by cases h; rfl
 | _::_,_,⟨c,r,h1,_,h3⟩=>by subst h1; simp [aT.length h3]
theorem aT.append {w:World} {s:St} {μ:Nat→Loc} {bx:Bx S.C} : ∀ {vs ws:List (V S.C)} {cs ds:List Value},aT P S w s μ bx vs cs→aT P S w s μ bx ws ds→aT P S w s μ bx (vs++ws) (cs++ds)
 | [],_,_,_,h,h'=>by cases h; exact h'
 | _::_,_,_,ds,⟨c,r,h1,h2,h3⟩,h'=>⟨c,r++ds,by simp [h1],h2,aT.append h3 h'⟩
theorem aT.take {w:World} {s:St} {μ:Nat→Loc} {bx:Bx S.C} : ∀ (n:Nat) {vs:List (V S.C)} {cs:List Value},aT P S w s μ bx vs cs→aT P S w s μ bx (vs.take n) (cs.take n)
 | 0,_,_,_=>by simp [aT]
 | _+1,[],_,h=>by cases h; simp [aT]
 | n+1,_::_,_,⟨c,r,h1,h2,h3⟩=>⟨c,r.take n,by simp [h1],h2,aT.take n h3⟩
theorem aT.drop {w:World} {s:St} {μ:Nat→Loc} {bx:Bx S.C} : ∀ (n:Nat) {vs:List (V S.C)} {cs:List Value},aT P S w s μ bx vs cs→aT P S w s μ bx (vs.drop n) (cs.drop n)
 | 0,_,_,h=>h
 | _+1,[],_,h=>by cases h; simp [aT]
 | n+1,_::_,_,⟨c,r,h1,h2,h3⟩=>by subst h1; exact aT.drop n h3
theorem aT.get {w:World} {s:St} {μ:Nat→Loc} {bx:Bx S.C} : ∀ {vs:List (V S.C)} {cs:List Value} (n:Nat) {v:V S.C},aT P S w s μ bx vs cs→vs[n]? =some v→ ∃ c,cs[n]? =some c∧b6 P S w s μ bx v c
 | [],_,_,_,_,hv=>by simp at hv
 | _::_,_,0,_,⟨c,r,h1,h2,h3⟩,hv=>by subst h1; simp at hv; subst hv; exact ⟨c,by simp,h2⟩
 | _::_,_,n+1,_,⟨c,r,h1,h2,h3⟩,hv=>by
  subst h1
  obtain ⟨c',jl,hr⟩:=aT.get n h3 (by simpa using hv)
  exact ⟨c',by simpa using jl,hr⟩
theorem GS {w:World} {b o:Nat} {cs:Array Value} {T:TypeId} {fz:Nat×Nat} (h:w.heap[b]? =some (.cells cs T fz)):(w.cell? ⟨b,o,none⟩).isSome=true↔o<cs.size:=by
 rw [Lib.cell_of_heap h]; simp
theorem CE.cells {w:World} {b:Nat} {v:Value} (h:CE S w b v) {o:Nat} :(w.cell? ⟨b,o,none⟩).isSome=true↔o<2:=by
 obtain ⟨T,e,p,_,h,_⟩:=h
 exact GS h
theorem si.row {w:World} {L:Loc} {l:List UInt8} (h:si S w L l):L.n=0∧L.nil=true∧l= []∨ ∃ T e cur fz,S.bt=some (T,e)∧w.heap[L.b]? =some (.cells cur e fz)∧cur.size=L.n∧L.nil=false:=by
 obtain ⟨h1,h2,h3,T,e,h4,h5,h6⟩:=h
 rcases h6 with ⟨h6,h7⟩ | ⟨g,cap,cur,fz,h6, -,h7, -, -, -,h8, -⟩
 · unfold sB at h6
   simp only [Value.slice.injEq] at h6
   obtain ⟨h6,_,h8⟩:=h6
   refine .inl ⟨by omega, ?_,List.length_eq_zero_iff.1 h7⟩
   cases hn:L.nil with
   | true=>rfl
   | false=>rw [hn] at h6; simp at h6
 · unfold sB at h6
   simp only [Value.slice.injEq] at h6
   obtain ⟨h6,_,h9⟩:=h6
   cases hn:L.nil with
   | true=>rw [hn] at h6; simp at h6
   | false=>
    rw [hn] at h6
    simp at h6
    subst h6
    exact .inr ⟨T,e,cur,fz,h4,h7,by omega,rfl⟩
theorem nV {w:World} {s:St} {μ:Nat→Loc} {bx:Bx S.C} {i:Nat} (h: ∀ B,bx i=some B→RB P S w s μ bx (μ i) B) (hi:live S bx i) {b o:Nat} (hf:(μ i).aP b o):
 b<w.heap.size∧(w.cell? ⟨b,o,none⟩).isSome=true:=by
 have key:w.there (μ i).b (μ i).o (μ i).n→b<w.heap.size∧(w.cell? ⟨b,o,none⟩).isSome=true:=fun ht=>by
  obtain ⟨rfl,h1,h2⟩:=hf
  have :=(ht (o - (μ i).o) (by omega)).1
  rw [show (μ i).o+(o - (μ i).o)=o from by omega] at this
  obtain ⟨v,hv⟩:=Option.isSome_iff_exists.1 this
  exact ⟨World.block_lt_of_cell? w _ hv,this⟩
 unfold live at hi
 split at hi
 · rename_i vs hb; exact key (h _ hb).2.2.1
 · rename_i e l hb; exact key (h _ hb).2.2.2.1
 · rename_i hb; exact key (h _ hb)
 · rename_i j hb
   obtain ⟨h1,h2,_,v,h3,_⟩:=h _ hb
   obtain ⟨rfl,h4,h5⟩:=hf
   have :=(h3.cells S (o:=o)).2 (by omega)
   obtain ⟨v,hv⟩:=Option.isSome_iff_exists.1 this
   exact ⟨World.block_lt_of_cell? w _ hv,this⟩
 · rename_i l hb
   obtain ⟨rfl,h4,h5⟩:=hf
   have h1:si S w (μ i) l:=h _ hb
   rcases h1.row with ⟨h2, -⟩ | ⟨T,e,cur,fz, -,h2,h3, -⟩
   · omega
   · have :=(GS (o:=o) h2).2 (by have :=h1.1; omega)
     obtain ⟨v,hv⟩:=Option.isSome_iff_exists.1 this
     exact ⟨World.block_lt_of_cell? w _ hv,this⟩
 · exact hi.elim
theorem fC {bx aq:Bx S.C} {i:Nat} (h:aq i=bx i):live S aq i↔live S bx i:=by unfold live; rw [h]
variable {P S}
theorem Inv.later {w0:World} {M0 s0:St} {dq:List Deferred} {env:Env S.C} {a:Act} {w:World} {μ:Nat→Loc} (h:Inv P S w0 M0 s0 dq env a w μ)
 {w':World} {T:St} {aq:Bx S.C} {μ':Nat→Loc} {U:Nat→Prop} (hw:bI w w' T)
 (hT: ∀ b o,T b o→b<w.heap.size→ ∃ i,U i∧live S env.bx i∧(μ i).aP b o)
 (hU: ∀ i, ¬ U i→aq i=env.bx i∧μ' i=μ i)
 (hf: ∀ i,U i→live S aq i→ ∀ b o,(μ' i).aP b o→w.heap.size≤b∨ ∃ j,U j∧live S env.bx j∧(μ j).aP b o):
 cy w (aR S w0 M0 s0 env.bx μ w) w' (aR S w0 M0 s0 aq μ' w'):=by
 intro b o ⟨h1,h2,h3⟩
 refine ⟨⟨Nat.lt_of_lt_of_le h1 hw.size,h2,fun i hi hfo=> ?_⟩, ?_⟩
 · by_cases hu:U i
   · rcases hf i hu hi b o hfo with hlt | ⟨j,_,hj,Xw⟩
     · omega
     · exact h3 j hj Xw
   · rw [fC S (hU i hu).1] at hi
     rw [(hU i hu).2] at hfo
     exact h3 i hi hfo
 · exact hw.cell b o h1 fun ht=>by
    obtain ⟨i,_,hi,hfo⟩:=hT b o ht h1
    exact h3 i hi hfo
theorem Inv.step {w0:World} {M0 s0:St} {dq:List Deferred} {env:Env S.C} {a:Act} {w:World} {μ:Nat→Loc} (h:Inv P S w0 M0 s0 dq env a w μ)
 {w':World} {T:St} {aq:Bx S.C} {μ':Nat→Loc} {U:Nat→Prop} (hw:bI w w' T)
 (hT: ∀ b o,T b o→b<w.heap.size→ ∃ i,U i∧live S env.bx i∧(μ i).aP b o)
 (hU: ∀ i, ¬ U i→aq i=env.bx i∧μ' i=μ i)
 (hf: ∀ i,U i→live S aq i→ ∀ b o,(μ' i).aP b o→w.heap.size≤b∨ ∃ j,U j∧live S env.bx j∧(μ j).aP b o)
 (hc: ∀ i B0,env.bx i=some B0→ ∃ B,aq i=some B∧dJ S (μ i) (μ' i) B0 B)
 (hd: ∀ i j,U i→U j→i≠j→live S aq i→live S aq j→ ∀ b o,(μ' i).aP b o→(μ' j).aP b o→False)
 (hb: ∀ i B,U i→aq i=some B→RB P S w' (aR S w0 M0 s0 aq μ' w') μ' aq (μ' i) B)
 (hr: ∀ i vs,U i→(aq i=some (.cells vs)∨aq i=some (.cq vs))→ ∀ v ∈ vs, ∀ j ∈ aI S v,aq j≠none):
 Inv P S w0 M0 s0 dq { env with bx:=aq } a w' μ':=by
 have hl:=h.later hw hT hU hf
 have hne: ∀ i,env.bx i≠none→aq i≠none:=fun i hi=>by
  obtain ⟨B0,cg⟩:=Option.ne_none_iff_exists'.1 hi
  obtain ⟨B,hB,_⟩:=hc i B0 cg
  rw [hB]; simp
 have NI: ∀ i j, ¬ U i→U j→live S aq i→live S aq j→ ∀ b o,(μ' i).aP b o→(μ' j).aP b o→False:=by
  intro i j hi hj li lj b o fi fj
  rw [fC S (hU i hi).1] at li
  rw [(hU i hi).2] at fi
  rcases hf j hj lj b o fj with hlt | ⟨k,hk,lk,fk⟩
  · exact absurd (nV P S (h.cB i) li fi).1 (by omega)
  · exact h.eH i k (fun e=>hi (e▸hk)) li lk b o fi fk
 refine ⟨fun t=>RV.step P S hl hc (h.ref t) (h.k9 t), ?_, ?_, ?_,fun t i hi=>hne i (h.ref t i hi), ?_, ?_,h.xb,h.uV⟩
 · intro i B hB
   by_cases hu:U i
   · exact hb i B hu hB
   · have jk:env.bx i=some B:=(hU i hu).1▸hB
     have hold:=h.cB i B jk
     rw [(hU i hu).2]
     have hcell:live S env.bx i→ ∀ o,(μ i).aP (μ i).b o→w'.cell? ⟨(μ i).b,o,none⟩=w.cell? ⟨(μ i).b,o,none⟩∧w'.frozen? ⟨(μ i).b,o,none⟩=w.frozen? ⟨(μ i).b,o,none⟩:=fun li o fo=>by
      have hlt:=(nV P S (h.cB i) li fo).1
      exact ⟨hw.cell _ _ hlt fun ht=>by
       obtain ⟨j,uj,lj,fj⟩:=hT _ _ ht hlt
       exact h.eH i j (fun e=>hu (e▸uj)) li lj _ _ fo fj,hw.Di _ _ hlt fun ht=>by
       obtain ⟨j,uj,lj,fj⟩:=hT _ _ ht hlt
       exact h.eH i j (fun e=>hu (e▸uj)) li lj _ _ fo fj⟩
     have Ny:live S env.bx i→(∀ o,(w.cell? ⟨(μ i).b,o,none⟩).isSome=true→(μ i).aP (μ i).b o)→(μ i).b<w.heap.size→w'.heap[(μ i).b]? =w.heap[(μ i).b]? :=fun li hin hlt=>
      hw.same _ hlt fun o ht=>by
       obtain ⟨j,uj,lj,fj⟩:=hT _ _ ht hlt
       exact h.eH i j (fun e=>hu (e▸uj)) li lj _ _ (hin o (nV P S (h.cB j) lj fj).2) fj
     have AR:live S env.bx i→w.there (μ i).b (μ i).o (μ i).n→w'.there (μ i).b (μ i).o (μ i).n:=fun li ht j hj=>by
      obtain ⟨c1,c2⟩:=hcell li ((μ i).o+j) ⟨rfl,by omega,by omega⟩
      rw [c1,c2]; exact ht j hj
     have N_:live S env.bx i→ ∀ o cs,(μ i).o≤o→o+cs.length≤(μ i).o+(μ i).n→w.rangeAt (μ i).b o cs→w'.rangeAt (μ i).b o cs:=fun li o cs h1 h2 eX j v hj=>by
      have hjl:=(List.getElem?_eq_some_iff.1 hj).1
      rw [(hcell li (o+j) ⟨rfl,by omega,by omega⟩).1]
      exact eX j v hj
     cases B with
     | cells vs=>
      have li:live S env.bx i:=by unfold live; rw [jk]; trivial
      obtain ⟨h1,h2,h3,cs,h4,h5⟩:=hold
      have hlen:=aT.length P S h5
      exact ⟨h1,h2,AR li h3,cs,N_ li _ _ (Nat.le_refl _) (by omega) h4,aT.step P S hl hc (h.mX i vs (.inl jk)) h5⟩
     | cq vs=>
      obtain ⟨h1,cs,h4,h5⟩:=hold
      exact ⟨h1,cs,h4.later hl,aT.step P S hl hc (h.mX i vs (.inr jk)) h5⟩
     | arr e l=>
      have li:live S env.bx i:=by unfold live; rw [jk]; trivial
      obtain ⟨h1,h2,h3,h4,h5⟩:=hold
      refine ⟨h1,h2,h3,AR li h4,fun k x hk=> ?_⟩
      obtain ⟨ds,hds,eX,n,lH⟩:=h5 k x hk
      have hkl:=(List.getElem?_eq_some_iff.1 hk).1
      refine ⟨ds,hds,N_ li _ _ (by omega) ?_ eX,n,lH.mono S hl (Nat.le_refl _)⟩
      have :(k+1)*Ty.sz S e≤(μ i).cap*Ty.sz S e:=Nat.mul_le_mul_right _ (by omega)
      rw [Nat.add_mul,Nat.one_mul] at this
      omega
     | b8 e l=>
      obtain ⟨h2,h3,h5⟩:=hold
      refine ⟨h2,h3,fun k x hk=> ?_⟩
      obtain ⟨ds,hds,eX,n,lH⟩:=h5 k x hk
      exact ⟨ds,hds,eX.later hl,n,lH.mono S hl (Nat.le_refl _)⟩
     | tail=>
      have li:live S env.bx i:=by unfold live; rw [jk]; trivial
      exact AR li hold
     | dead=>trivial
     | bH k=>
      have li:live S env.bx i:=by unfold live; rw [jk]; trivial
      obtain ⟨h1,h2,h3,v,h4,h5⟩:=hold
      have hlt:(μ i).b<w.heap.size:=by
       obtain ⟨v,hv⟩:=Option.isSome_iff_exists.1 ((h4.cells S (o:=0)).2 (by omega))
       exact World.block_lt_of_cell? w _ hv
      have hb:=Ny li (fun o ho=>by have :=(h4.cells S).1 ho; exact ⟨rfl,by omega,by omega⟩) hlt
      refine ⟨h1,h2,hne k h3,v, ?_,fun l hl'=> ?_⟩
      · obtain ⟨T,e,p,q1,q2,q3⟩:=h4
        exact ⟨T,e,p,q1,hb.trans q2,q3⟩
      · obtain ⟨B0,cg⟩:=Option.ne_none_iff_exists'.1 h3
        obtain ⟨B1,mF,dA⟩:=hc k B0 cg
        have hl':aq k=some (.buf l):=hl'
        rw [hl'] at mF
        cases mF
        cases B0 <;> simp only [dJ] at dA
        obtain ⟨hm,hlen⟩:=dA
        rw [hm,hlen]
        exact h5 _ cg
     | buf l=>
      have li:live S env.bx i:=by unfold live; rw [jk]; trivial
      have hold:si S w (μ i) l:=hold
      rcases hold.row with ⟨q1,q2,q3⟩ | ⟨T,e,cur,fz,q1,q2,q3,q4⟩
      · obtain ⟨r1,r2,r3,T,e,r4,r5⟩:=hold
        refine ⟨r1,r2,r3,T,e,r4, ?_⟩
        subst q3
        have hv:sB (μ i) ([]:List UInt8).length= .slice none 0 0:=by unfold sB; rw [q2,r3 q2]; rfl
        rw [hv]
        exact World.ownsRowF_nil ..
      · have hlt:(μ i).b<w.heap.size:=(Array.getElem?_eq_some_iff.1 q2).1
        have hb:=Ny li (fun o ho=>by have :=(GS q2).1 ho; exact ⟨rfl,by have :=hold.1; omega,by have :=hold.1; omega⟩) hlt
        obtain ⟨r1,r2,r3,T',e',r4,r5,r6⟩:=hold
        refine ⟨r1,r2,r3,T',e',r4,r5, ?_⟩
        rcases r6 with r6 | ⟨g,cap,cur',Ax,r6,r7,r8,r9⟩
        · exact .inl r6
        · have hg:g=(μ i).b:=by
           unfold sB at r6
           rw [q4] at r6
           simp at r6
           exact r6.1.symm
          subst hg
          exact .inr ⟨_,cap,cur',Ax,r6,r7,hb.trans r8,r9⟩
 · intro i j hij li lj b o fi fj
   by_cases hi:U i
   · by_cases hj:U j
     · exact hd i j hi hj hij li lj b o fi fj
     · exact NI j i hj hi lj li b o fj fi
   · by_cases hj:U j
     · exact NI i j hi hj li lj b o fi fj
     · have l1:=(fC S (hU i hi).1).1 li
       have l2:=(fC S (hU j hj).1).1 lj
       rw [(hU i hi).2] at fi
       rw [(hU j hj).2] at fj
       exact h.eH i j hij l1 l2 b o fi fj
 · intro i li b o fi
   by_cases hi:U i
   · rcases hf i hi li b o fi with hlt | ⟨j,_,lj,fj⟩
     · exact .inl (Nat.le_trans h.jL.size hlt)
     · exact h.own j lj b o fj
   · have l1:=(fC S (hU i hi).1).1 li
     rw [(hU i hi).2] at fi
     exact h.own i l1 b o fi
 · intro i vs hvs v hv j hj
   by_cases hu:U i
   · exact hr i vs hu hvs v hv j hj
   · have AX:aq i=some (.cells vs)∨aq i=some (.cq vs):=hvs
     rw [(hU i hu).1] at AX
     exact hne j (h.mX i vs AX v hv j hj)
 · refine h.jL.trans hw (fun _ _ h=>h) fun b o hb ht=> ?_
   obtain ⟨i,_,li,fi⟩:=hT b o ht (Nat.lt_of_lt_of_le hb h.jL.size)
   rcases h.own i li b o fi with hlt | hm
   · omega
   · exact hm
theorem Inv.put {w0:World} {M0 s0:St} {dq:List Deferred} {env:Env S.C} {a:Act} {w:World} {μ:Nat→Loc} (h:Inv P S w0 M0 s0 dq env a w μ) {dst:Option Nat} {V:V S.C} {v:Value}
 (hd: ∀ d,dst=some d→d<a.tmps.size) (hv:RV P S w (aR S w0 M0 s0 env.bx μ w) μ env.bx V v) (hr: ∀ i ∈ aL S V,env.bx i≠none):
 Inv P S w0 M0 s0 dq { env with tm:=yZ env.tm dst V } (a.put dst v) w μ:=by
 cases dst with
 | none=>exact h
 | some d=>
  have hlt:=hd d rfl
  refine ⟨fun t=> ?_,h.cB,h.eH,h.own,fun t i hi=> ?_,h.mX,h.jL,h.xb,h.uV⟩
  · show RV P S w _ μ env.bx (aD env.tm d V t) ((a.tmps.setIfInBounds d v).getD t Go.undef)
    by_cases e:t=d
    · subst e
      have :(a.tmps.setIfInBounds t v).getD t Go.undef=v:=by simp [Array.getD,hlt]
      rw [this,show aD env.tm t V t=V from bq _ _ _]
      exact hv
    · have :(a.tmps.setIfInBounds d v).getD t Go.undef=a.tmps.getD t Go.undef:=by
       simp [Array.getElem?_setIfInBounds_ne (Ne.symm e)]
      rw [this,show aD env.tm d V t=env.tm t from bM _ _ e]
      exact h.k9 t
  · have hi':i ∈ aL S (aD env.tm d V t):=hi
    by_cases e:t=d
    · subst e
      rw [show aD env.tm t V t=V from bq _ _ _] at hi'
      exact hr i hi'
    · rw [show aD env.tm d V t=env.tm t from bM _ _ e] at hi'
      exact h.ref t i hi'
end
end Go.Sy
namespace Go.Sy
structure dU (S:bB):Prop where
  flat: ∀ u,(S.F u).all (fun t=> !bR t)=true
  xe: ∀ u y,S.ex u (S.im u y)=y
section
variable (P:Program) (S:bB)
def Td (w:World) (s M:St) (e:Ty) (l:List (e.den S.C)) (cs:List Value):Prop:=
  ∃ a cap L,cs= [.slice a l.length cap]∧sg L a l.length cap (Ty.sz S e)∧w.there L.b L.o L.n∧(∀ b o,M b o↔L.aP b o)∧
    ∀ (i:Nat) (x:e.den S.C),l[i]? =some x→ ∃ ds,ds.length=Ty.sz S e∧w.rangeAt L.b (L.o+i*Ty.sz S e) ds∧ ∃ n,aN S w s n e x ds
def Tt (w:World) (s M:St) (e:Ty) (l:List (e.den S.C)) (cs:List Value):Prop:=
  ∃ a cap L,cs= [.slice a l.length cap]∧(∃ n,aN S w s n (.sl e) l cs)∧K9 L a l.length cap (Ty.sz S e)∧w.there L.b L.o L.n∧ ∀ b o,M b o↔L.aP b o
def nB (w:World) (s M:St):(c:CK)→c.den S.C→List Value→Prop
  | .data t,x,cs=>j0 M∧ ∃ n,aN S w s n t x cs
  | .bE e,l,cs=>Tt S w s M e l cs
  | .aQ e,l,cs=>Td S w s M e l cs
def jG (w:World) (s:St):(M:St)→(cs:List CK)→bZ S.C cs→List Value→Prop
  | M,[],_,vs=>j0 M∧vs= []
  | M,c::cs,x,vs=> ∃ M1 M2 Kz SE,kF M M1 M2∧vs=Kz++SE∧Kz.length=CK.sz S c∧nB S w s M1 c (bZ.head x) Kz∧jG w s M2 cs (bZ.tail x) SE
def fq (w:World) (s M:St) (cs:List CK) (x:bZ S.C cs) (v:Value):Prop:=
  ∃ b o ds M',v= .pointer (some ⟨b,o,none⟩)∧w.there b o ds.length∧w.rangeAt b o ds∧
    kF M (fun b' o'=>b'=b∧o≤o'∧o'<o+ds.length) M'∧jG S w s M' cs x ds
def S7 (w:World) (s M:St) (cs:List CK) (x:bZ S.C cs) (v:Value):Prop:=
  ∃ p,v= .slice (some p) (CK.c_ S cs) (CK.c_ S cs)∧fq S w s M cs x (.pointer (some p))
def CF (w:World) (M:St) (l:List UInt8) (v:Value):Prop:=
  ∃ b L,v= .pointer (some ⟨b,0,none⟩)∧CE S w b (sB L l.length)∧si S w L l∧kF M (Loc.mk b 0 2 0 false).aP L.aP
def Tl (w:World) (s M:St) (t:Ty) (cs:List CK) (x:t.den S.C×bZ S.C cs) (v:Value):Prop:=
  ∃ b o p M1 M2,v= .pointer (some ⟨b,o,none⟩)∧At w s b o [.pointer (some p)]∧kF M M1 M2∧fq S w s M1 [.data t] x.1 (.pointer (some p))∧fq S w s M2 cs x.2 (.pointer (some ⟨b,o+1,none⟩))
def oE (w:World) (s M:St):(k:K)→k.den S.C→Value→Prop
  | .val c,x,v=>nB S w s M c x v.cells.toList∧isAgg v=(match c with | .data t=>bR t | _=>false)
  | .obj cs,x,v=>fq S w s M cs x v
  | .opt cs,x,v=>match (x:Option (bZ S.C cs)) with
    | none=>j0 M∧v= .pointer none
    | some y=>fq S w s M cs y v
  | .nil,_,v=>j0 M∧v= .pointer none
  | .ro t,x,v=>j0 M∧oF S w s t x v
  | .fn a r,g,v=>j0 M∧oD P S w s a r g v
  | .dm cs,x,v=>S7 S w s M cs x v
  | .err,x,v=>j0 M∧zG x v
  | .bH,x,v=>CF S w M x v
  | .cA t cs,x,v=>Tl S w s M t cs x v
def cM (w:World) (s:St):(M:St)→(ks:List K)→Ks S.C ks→List Value→Prop
  | M,[],_,vs=>j0 M∧vs= []
  | M,k::ks,x,vs=> ∃ M1 M2 v r,kF M M1 M2∧vs=v::r∧oE P S w s M1 k (Ks.head x) v∧cM w s M2 ks (Ks.tail x) r
theorem nB.mono {w:World} {s s' M:St} (hl:cy w s w s') {c:CK} {x:c.den S.C} {cs:List Value} (h:nB S w s M c x cs):nB S w s' M c x cs:=by
  cases c with
  | data t=>exact ⟨h.1,h.2.imp fun _ hn=>hn.mono S hl (Nat.le_refl _)⟩
  | bE e=>
    obtain ⟨a,cap,L,h1,⟨n,h2⟩,h3,h4,h5⟩:=h
    exact ⟨a,cap,L,h1,⟨n,h2.mono S hl (Nat.le_refl _)⟩,h3,h4,h5⟩
  | aQ e=>
    obtain ⟨a,cap,L,h1,h2,h3,h4,h5⟩:=h
    refine ⟨a,cap,L,h1,h2,h3,h4,fun i y hi=> ?_⟩
    obtain ⟨ds,d1,d2,n,d3⟩:=h5 i y hi
    exact ⟨ds,d1,d2,n,d3.mono S hl (Nat.le_refl _)⟩
theorem jG.mono {w:World} {s s':St} (hl:cy w s w s'): ∀ {M:St} {cs:List CK} {x:bZ S.C cs} {vs:List Value},jG S w s M cs x vs→jG S w s' M cs x vs
  | _,[],_,_,h=>h
  | _,_::_,_,_,⟨M1,M2,v1,v2,h1,h2,h3,h4,h5⟩=>⟨M1,M2,v1,v2,h1,h2,h3,h4.mono S hl,jG.mono hl h5⟩
theorem fq.mono {w:World} {s s' M:St} (hl:cy w s w s') {cs:List CK} {x:bZ S.C cs} {v:Value} (h:fq S w s M cs x v):fq S w s' M cs x v:=by
  obtain ⟨b,o,ds,M',h1,h2,h3,h4,h5⟩:=h
  exact ⟨b,o,ds,M',h1,h2,h3,h4,h5.mono S hl⟩
theorem oE.mono {w:World} {s s' M:St} (hl:cy w s w s') {k:K} {x:k.den S.C} {v:Value} (h:oE P S w s M k x v):oE P S w s' M k x v:=by
  cases k with
  | val c=>exact ⟨h.1.mono S hl,h.2⟩
  | obj cs=>exact fq.mono S hl h
  | opt cs=>
    cases x with
    | none=>exact h
    | some y=>exact fq.mono S hl h
  | nil=>exact h
  | ro t=>exact ⟨h.1,h.2.mono S hl⟩
  | fn a r=>exact ⟨h.1,h.2.mono P S hl⟩
  | dm cs=>
    obtain ⟨p,h1,h2⟩:=h
    exact ⟨p,h1,fq.mono S hl h2⟩
  | err=>exact h
  | bH=>exact h
  | cA t cs=>
    obtain ⟨b,o,p,M1,M2,h1,h2,h3,h4,h5⟩:=h
    exact ⟨b,o,p,M1,M2,h1,h2.later hl,h3,fq.mono S hl h4,fq.mono S hl h5⟩
theorem cM.mono {w:World} {s s':St} (hl:cy w s w s'): ∀ {M:St} {ks:List K} {x:Ks S.C ks} {vs:List Value},cM P S w s M ks x vs→cM P S w s' M ks x vs
  | _,[],_,_,h=>h
  | _,_::_,_,_,⟨M1,M2,v,r,h1,h2,h3,h4⟩=>⟨M1,M2,v,r,h1,h2,h3.mono P S hl,cM.mono hl h4⟩
def jc (w:World) (s:St):(ts:List Ty)→aA S.C ts→List Value→Prop
  | [],_,vs=>vs= []
  | t::ts,x,vs=> ∃ v r,vs=v::r∧oF S w s t (aA.head x) v∧jc w s ts (aA.tail x) r
def eG (e:jd S):Prop:=oC P e.f∧ ∀ (w:World) (s:St) (x:aA S.C e.a) (c:aA S.C e.c) (y:aA S.C e.r) (args caps:List Value),
  K0 S w→gY S w s e.a x args→jc S w s e.c c caps→e.sp x c=some y→
  Calls P e.f (args++caps).toArray w fun en w'=> ∃ us,en= .returned (mZ us)∧bI w w' (fun _ _=>False)∧gY S w' (grown s w w') e.r y us
def Tk (bx aq:Bx S.C):Prop:= ∀ i,aq i=bx i∨(aq i=some .dead∧live S bx i)∨ ∃ e l,bx i=some (.arr e l)∧aq i=some (.b8 e l)
theorem Tk.refl (bx:Bx S.C):Tk S bx bx:=fun _=> .inl rfl
theorem Tk.trans {bx aq kI:Bx S.C} (h:Tk S bx aq) (h':Tk S aq kI):Tk S bx kI:=by
  intro i
  rcases h' i with e | ⟨e,l⟩ | ⟨e,l,h1,h2⟩
  · rw [e]; exact h i
  · rcases h i with e' | ⟨e',l'⟩ | ⟨e',l',h1,h2⟩
    · exact .inr (.inl ⟨e,(fC S e').1 l⟩)
    · exact .inr (.inl ⟨e,l'⟩)
    · exact .inr (.inl ⟨e,by unfold live; rw [h1]; trivial⟩)
  · rcases h i with e' | ⟨e',l'⟩ | ⟨e',l',h3,h4⟩
    · exact .inr (.inr ⟨e,l,e'▸h1,h2⟩)
    · rw [e'] at h1; cases h1
    · rw [h4] at h1; cases h1
def di (w0:World) (M0 s0:St) (hJ bx:Bx S.C) (μ:Nat→Loc) (w:World):St:=
  fun b o=>b<w.heap.size∧(s0 b o∨M0 b o∨w0.heap.size≤b)∧ ∀ i,live S hJ i→(∃ e l,bx i=some (.b8 e l))∨ ¬ (μ i).aP b o
theorem pY (w0:World) (M0 s0:St) (hJ bx:Bx S.C) (μ:Nat→Loc) (w:World):cy w (aR S w0 M0 s0 hJ μ w) w (di S w0 M0 s0 hJ bx μ w):=
  fun b o ⟨h1,h2,h3⟩=>⟨⟨h1,h2,fun i hi=> .inr (h3 i hi)⟩,rfl⟩
theorem zp {w0:World} {M0 s0:St} {hJ bx aq:Bx S.C} {μ:Nat→Loc} {w:World} (h:Tk S bx aq):cy w (di S w0 M0 s0 hJ bx μ w) w (di S w0 M0 s0 hJ aq μ w):=
  fun b o ⟨h1,h2,h3⟩=>⟨⟨h1,h2,fun i hi=>(h3 i hi).imp (fun ⟨e,l,hb⟩=>by
    rcases h i with e' | ⟨_,l'⟩ | ⟨e',l',h1,_⟩
    · exact ⟨e,l,e'.trans hb⟩
    · unfold live at l'; rw [hb] at l'; exact l'.elim
    · rw [hb] at h1; cases h1) id⟩,rfl⟩
variable {P S}
theorem jc.mono {w w':World} {s s':St} (hl:cy w s w' s'): ∀ (ts:List Ty) (x:aA S.C ts) (vs:List Value),jc S w s ts x vs→jc S w' s' ts x vs
  | [],_,_,h=>h
  | _::ts,_,_,⟨v,r,h1,h2,h3⟩=>⟨v,r,h1,h2.mono S hl,jc.mono hl ts _ _ h3⟩
theorem fA {t u:Ty} {x:t.den S.C} {y:u.den S.C} (h:fH S t u x=some y): ∃ e:t=u,e▸x=y:=by
  unfold fH at h
  split at h
  · rename_i e; exact ⟨e,Option.some.inj h⟩
  · cases h
theorem aN.nH {t:Ty} {v:Value} (h:isAgg v=bR t) (ht:bR t=false):v.cells.toList= [v]:=by
  rw [ht] at h
  cases v <;> first | rfl | simp [isAgg] at h
theorem Tk.Sz {bx:Bx S.C} {b:Nat} {e:Ty} {l:List (e.den S.C)} (h:bx b=some (.arr e l)):Tk S bx (aD bx b (some (.b8 e l))):=fun i=>by
  by_cases hi:i=b
  · subst hi; exact .inr (.inr ⟨e,l,h,bq _ _ _⟩)
  · exact .inl (bM _ _ hi)
theorem Tk.zw {bx:Bx S.C} {b:Nat} (h:live S bx b):Tk S bx (aD bx b (some .dead)):=fun i=>by
  by_cases hi:i=b
  · subst hi; exact .inr (.inl ⟨bq _ _ _,h⟩)
  · exact .inl (bM _ _ hi)
theorem Tk.dK (bx:Bx S.C) (v:V S.C):Tk S bx (aF bx (dK S bx v)):=by
  cases v with
  | aQ b=>
    unfold Sy.dK
    dsimp only
    split
    · rename_i e l hb; exact Tk.Sz hb
    · exact Tk.refl S bx
  | _=>exact Tk.refl S bx
theorem kC (bx:Bx S.C) (us vs:aV S.C):aF bx (us++vs)=aF (aF bx us) vs:=by
  induction us generalizing bx with
  | nil=>rfl
  | cons u us ih=>exact ih _
theorem Nh (bx aq:Bx S.C) (h: ∀ i,aq i=bx i∨ ∃ e l,bx i=some (.arr e l)∧aq i=some (.b8 e l)) (v:V S.C):
    (∀ i,aF aq (dK S bx v) i=bx i∨ ∃ e l,bx i=some (.arr e l)∧aF aq (dK S bx v) i=some (.b8 e l))∧Tk S aq (aF aq (dK S bx v)):=by
  have rP:(∀ i,aF aq [] i=bx i∨ ∃ e l,bx i=some (.arr e l)∧aF aq [] i=some (.b8 e l))∧Tk S aq (aF aq []):=⟨h,Tk.refl S aq⟩
  cases v with
  | aQ b=>
    unfold Sy.dK
    dsimp only
    split
    · rename_i e l hb
      refine ⟨fun i=> ?_,fun i=> ?_⟩ <;>
      · show _∨_
        by_cases hi:i=b
        · subst hi
          have e1:aF aq [(i, .b8 e l)] i=some (.b8 e l):=bq _ _ _
          first
          | exact .inr ⟨e,l,hb,e1⟩
          | (rcases h i with h1 | ⟨e',l',h1,h2⟩
             · exact .inr (.inr ⟨e,l,h1.trans hb,e1⟩)
             · rw [hb] at h1
               cases h1
               exact .inl (e1.trans h2.symm))
        · have e1:aF aq [(b, .b8 e l)] i=aq i:=bM _ _ hi
          first
          | (rw [e1]; exact h i)
          | exact .inl e1
    · exact rP
  | _=>exact rP
theorem Aw (bx:Bx S.C): ∀ (vs:List (V S.C)) (aq:Bx S.C),(∀ i,aq i=bx i∨ ∃ e l,bx i=some (.arr e l)∧aq i=some (.b8 e l))→
    (∀ i,aF aq (vs.flatMap (dK S bx)) i=bx i∨ ∃ e l,bx i=some (.arr e l)∧aF aq (vs.flatMap (dK S bx)) i=some (.b8 e l))∧Tk S aq (aF aq (vs.flatMap (dK S bx)))
  | [],aq,h=>⟨h,Tk.refl S aq⟩
  | v::vs,aq,h=>by
    simp only [List.flatMap_cons,kC]
    obtain ⟨h1,h2⟩:=Nh bx aq h v
    obtain ⟨h3,h4⟩:=Aw bx vs _ h1
    exact ⟨h3,h2.trans S h4⟩
end
end Go.Sy
namespace Go.Sy
section
variable {P:Program} {S:bB}
variable {w0:World} {M0 s0:St} {dq:List Deferred} {env:Env S.C} {a:Act} {w:World} {μ:Nat→Loc}
theorem Tk.eY {bx aq:Bx S.C} (h:Tk S bx aq) {i:Nat} (hl:live S aq i):aq i=bx i:=by
 rcases h i with e | ⟨e,_⟩ | ⟨e,l,_,e'⟩
 · exact e
 · unfold live at hl; rw [e] at hl; exact hl.elim
 · unfold live at hl; rw [e'] at hl; exact hl.elim
theorem Hz (h:Inv P S w0 M0 s0 dq env a w μ) {bx:Bx S.C} (hk:Tk S env.bx bx) {b:Nat} {e:Ty} {l:List (e.den S.C)} (hb:bx b=some (.b8 e l)) {v:Value}
 (hv:b6 P S w (aR S w0 M0 s0 env.bx μ w) μ env.bx (.aQ b) v): ∃ n,aN S w (di S w0 M0 s0 env.bx bx μ w) n (.sl e) l [v]:=by
 have hl:=pY S w0 M0 s0 env.bx bx μ w
 have key:(∃ n, ∀ (i:Nat) (x:e.den S.C),l[i]? =some x→ ∃ ds,ds.length=Ty.sz S e∧At w (di S w0 M0 s0 env.bx bx μ w) (μ b).b ((μ b).o+i*Ty.sz S e) ds∧aN S w (di S w0 M0 s0 env.bx bx μ w) n e x ds)→
  (∃ a cap,v= .slice a l.length cap∧sg (μ b) a l.length cap (Ty.sz S e))→ ∃ n,aN S w (di S w0 M0 s0 env.bx bx μ w) n (.sl e) l [v]:=by
  rintro ⟨n,hel⟩ ⟨a,cap,rfl,ha⟩
  refine ⟨n+1,a,cap,rfl,ha.fits, ?_⟩
  by_cases hn:(μ b).nil=true
  · exact .inl (by have :=ha.isNil hn; have :=ha.mB; have :=ha.fits; show l.length=0; omega)
  · refine .inr ⟨(μ b).b,(μ b).o,by rw [ha.addr]; simp [hn],fun i x hi=> ?_⟩
    exact hel i x hi
 have bound:(∀ (i:Nat) (x:e.den S.C),l[i]? =some x→ ∃ ds,ds.length=Ty.sz S e∧At w (di S w0 M0 s0 env.bx bx μ w) (μ b).b ((μ b).o+i*Ty.sz S e) ds∧ ∃ n,aN S w (di S w0 M0 s0 env.bx bx μ w) n e x ds)→
  ∃ n, ∀ (i:Nat) (x:e.den S.C),l[i]? =some x→ ∃ ds,ds.length=Ty.sz S e∧At w (di S w0 M0 s0 env.bx bx μ w) (μ b).b ((μ b).o+i*Ty.sz S e) ds∧aN S w (di S w0 M0 s0 env.bx bx μ w) n e x ds:=by
  intro hall
  have : ∀ m,m≤l.length→ ∃ n, ∀ (i:Nat) (x:e.den S.C),i<m→l[i]? =some x→ ∃ ds,ds.length=Ty.sz S e∧At w (di S w0 M0 s0 env.bx bx μ w) (μ b).b ((μ b).o+i*Ty.sz S e) ds∧aN S w (di S w0 M0 s0 env.bx bx μ w) n e x ds:=by
   intro m
   induction m with
   | zero=>exact fun _=>⟨0,fun i x hi=>by omega⟩
   | succ m ih=>
    intro hm
    obtain ⟨n,hn⟩:=ih (by omega)
    obtain ⟨ds,h1,h2,n',h3⟩:=hall m l[m] (by simp)
    refine ⟨max n n',fun i x hi hx=> ?_⟩
    by_cases e:i=m
    · subst e
      have :x=l[i]:=by simpa [List.getElem?_eq_getElem (show i<l.length by omega)] using hx.symm
      subst this
      exact ⟨ds,h1,h2,h3.up S (by omega)⟩
    · obtain ⟨ds,h1,h2,h3⟩:=hn i x (by omega) hx
      exact ⟨ds,h1,h2,h3.up S (by omega)⟩
  obtain ⟨n,hn⟩:=this l.length (Nat.le_refl _)
  exact ⟨n,fun i x hx=>hn i x (List.getElem?_eq_some_iff.1 hx).1 hx⟩
 rcases hk b with e1 | ⟨e1,_⟩ | ⟨e',l',e1,e2⟩
 · rw [hb] at e1
   obtain ⟨_,_,h3⟩:=h.cB b _ e1.symm
   refine key (bound fun i x hi=> ?_) (hv.2 e l (.inr e1.symm))
   obtain ⟨ds,d1,d2,n,d3⟩:=h3 i x hi
   exact ⟨ds,d1,d2.later hl,n,d3.mono S hl (Nat.le_refl _)⟩
 · rw [hb] at e1; cases e1
 · rw [hb] at e2
   cases e2
   have cG:live S env.bx b:=by unfold live; rw [e1]; trivial
   obtain ⟨g1,g2,g3,g4,h3⟩:=h.cB b _ e1
   refine key (bound fun i x hi=> ?_) (hv.2 e l (.inl e1))
   obtain ⟨ds,d1,d2,n,d3⟩:=h3 i x hi
   refine ⟨ds,d1,fun j u hj=>⟨d2 j u hj, ?_⟩,n,d3.mono S hl (Nat.le_refl _)⟩
   have hj':=(List.getElem?_eq_some_iff.1 hj).1
   have xz:=(List.getElem?_eq_some_iff.1 hi).1
   have jN:(μ b).aP (μ b).b ((μ b).o+i*Ty.sz S e+j):=by
    refine ⟨rfl,by omega, ?_⟩
    have :(i+1)*Ty.sz S e≤(μ b).cap*Ty.sz S e:=Nat.mul_le_mul_right _ (by omega)
    rw [Nat.add_mul,Nat.one_mul] at this
    omega
   refine ⟨(nV P S (h.cB b) cG jN).1,(h.own b cG _ _ jN).elim (fun h=> .inr (.inr h)) (fun h=> .inr (.inl h)),fun k hk'=> ?_⟩
   by_cases ek:k=b
   · subst ek; exact .inl ⟨e,l,hb⟩
   · exact .inr fun hf=>h.eH k b ek hk' cG _ _ hf jN
theorem GA (h:Inv P S w0 M0 s0 dq env a w μ) {bx aq:Bx S.C} (hk:Tk S env.bx bx) (hk':Tk S bx aq) {t:Ty} (ht:bR t=false) {V:V S.C} {v:Value} {x:t.den S.C}
 (hf: ∀ b e (l:List (e.den S.C)),V= .aQ b→bx b=some (.arr e l)→aq b=some (.b8 e l))
 (hv:b6 P S w (aR S w0 M0 s0 env.bx μ w) μ env.bx V v) (hx:dV S bx t V=some x): ∃ n,aN S w (di S w0 M0 s0 env.bx aq μ w) n t x [v]:=by
 have hl:=pY S w0 M0 s0 env.bx aq μ w
 have hd: ∀ (u:Ty) (y:u.den S.C),c7 S w (aR S w0 M0 s0 env.bx μ w) u y v→fH S u t y=some x→ ∃ n,aN S w (di S w0 M0 s0 env.bx aq μ w) n t x [v]:=by
  intro u y hr hc
  obtain ⟨rfl,rfl⟩:=fA hc
  obtain ⟨h1,n,hn⟩:=hr
  rw [aN.nH h1 ht] at hn
  exact ⟨n,hn.mono S hl (Nat.le_refl _)⟩
 cases V with
 | d u y=>exact hd u y hv hx
 | pr p i=>
  obtain ⟨rfl,rfl⟩:=fA hx
  cases hv
  exact ⟨1,rfl⟩
 | bE b e l=>exact hd (.sl e) l hv.1 hx
 | dD=>
  cases t with
  | sl e=>
   cases hx
   cases hv
   exact ⟨1,none,0,rfl,Nat.le_refl _, .inl rfl⟩
  | _=>cases hx
 | aQ b=>
  have ok: ∀ (e:Ty) (l:List (e.den S.C)),aq b=some (.b8 e l)→fH S (.sl e) t l=some x→ ∃ n,aN S w (di S w0 M0 s0 env.bx aq μ w) n t x [v]:=by
   intro e l hb hc
   obtain ⟨rfl,rfl⟩:=fA hc
   exact Hz h (hk.trans S hk') hb hv
  simp only [dV] at hx
  split at hx
  · rename_i e l hb; exact ok e l (hf b e l rfl hb) hx
  · rename_i e l hb
    refine ok e l ?_ hx
    rcases hk' b with e1 | ⟨_,e1⟩ | ⟨_,_,e1,_⟩
    · exact e1.trans hb
    · unfold live at e1; rw [hb] at e1; exact e1.elim
    · rw [hb] at e1; cases e1
  · cases hx
 | _=>cases hx
theorem Sp (h:Inv P S w0 M0 s0 dq env a w μ) {bx aq:Bx S.C} (hk:Tk S env.bx bx) (hk':Tk S bx aq): ∀ (ts:List Ty) (hts:ts.all (fun t=> !bR t)=true) {vs:List (V S.C)} {cs:List Value} {x:aA S.C ts},
 (∀ V ∈ vs.take ts.length, ∀ b e (l:List (e.den S.C)),V= .aQ b→bx b=some (.arr e l)→aq b=some (.b8 e l))→
 aT P S w (aR S w0 M0 s0 env.bx μ w) μ env.bx vs cs→jz S bx ts vs=some x→
 ∃ n,bY S (fun t x cs=>aN S w (di S w0 M0 s0 env.bx aq μ w) n t x cs) ts x (cs.take ts.length)
 | [],_,_,cs,_,_,_,_=>⟨0,by simp [bY]⟩
 | t::ts,hts,[],_,_,_,_,hx=>by simp [jz] at hx
 | t::ts,hts,V::vs,cs,x,hf,⟨c,r,hcs,hv,hr⟩,hx=>by
  simp only [List.all_cons,Bool.and_eq_true,Bool.not_eq_true'] at hts
  simp only [jz] at hx
  obtain ⟨y,hy,hx⟩:=Option.bind_eq_some_iff.1 hx
  obtain ⟨z,hz,hx⟩:=Option.bind_eq_some_iff.1 hx
  cases hx
  obtain ⟨n,hn⟩:=GA h hk hk' hts.1 (hf V (by simp)) hv hy
  obtain ⟨m,hm⟩:=Sp h hk hk' ts hts.2 (fun V hV=>hf V (by simp [hV])) hr hz
  refine ⟨max n m,c,r.take ts.length,by simp [hcs], ?_, ?_⟩
  · rw [show aA.head (aA.cons y z)=y from by cases ts <;> rfl]
    exact hn.up S (by omega)
  · rw [show aA.tail (aA.cons y z)=z from by cases ts <;> rfl]
    exact bY.mono S (fun t x cs hr=>hr.up S (by omega)) _ _ _ hm
theorem Iv (hS:dU S) (h:Inv P S w0 M0 s0 dq env a w μ) {bx aq:Bx S.C} (hk:Tk S env.bx bx) (hk':Tk S bx aq) {t:Ty} {vs:List (V S.C)} {cs:List Value} {x:t.den S.C}
 (hf: ∀ V ∈ vs.take (Ty.sz S t), ∀ b e (l:List (e.den S.C)),V= .aQ b→bx b=some (.arr e l)→aq b=some (.b8 e l))
 (hv:aT P S w (aR S w0 M0 s0 env.bx μ w) μ env.bx vs cs) (hx:jP S bx t vs=some x):
 ∃ n,aN S w (di S w0 M0 s0 env.bx aq μ w) n t x (cs.take (Ty.sz S t)):=by
 have one:bR t=false→Ty.sz S t=1→(∃ V r,vs=V::r∧dV S bx t V=some x)→ ∃ n,aN S w (di S w0 M0 s0 env.bx aq μ w) n t x (cs.take (Ty.sz S t)):=by
  rintro ht h1 ⟨V,vs',rfl,hx1⟩
  rw [h1]
  rw [h1] at hf
  obtain ⟨c,r,hcs,hv,hr⟩:=hv
  subst hcs
  exact GA h hk hk' ht (hf V (by simp)) hv hx1
 cases t with
 | st u=>
  simp only [jP] at hx
  obtain ⟨y,hy,hx⟩:=Option.bind_eq_some_iff.1 hx
  cases hx
  obtain ⟨n,hn⟩:=Sp h hk hk' (S.F u) (hS.flat u) hf hv hy
  refine ⟨n+1, ?_⟩
  show bY S _ (S.F u) (S.ex u (S.im u y)) _
  rw [hS.xe]
  exact hn
 | int k=>exact one rfl rfl (by cases vs with | nil=>cases hx | cons V r=>exact ⟨V,r,rfl,hx⟩)
 | bool=>exact one rfl rfl (by cases vs with | nil=>cases hx | cons V r=>exact ⟨V,r,rfl,hx⟩)
 | str=>exact one rfl rfl (by cases vs with | nil=>cases hx | cons V r=>exact ⟨V,r,rfl,hx⟩)
 | pt=>exact one rfl rfl (by cases vs with | nil=>cases hx | cons V r=>exact ⟨V,r,rfl,hx⟩)
 | sl e=>exact one rfl rfl (by cases vs with | nil=>cases hx | cons V r=>exact ⟨V,r,rfl,hx⟩)
theorem Hx (bx hJ:Bx S.C): ∀ (vs:List (V S.C)) (V:V S.C) (b:Nat) (e:Ty) (l:List (e.den S.C)),V ∈ vs→V= .aQ b→bx b=some (.arr e l)→
 (∀ i,hJ i=bx i∨ ∃ e l,bx i=some (.arr e l)∧hJ i=some (.b8 e l))→aF hJ (vs.flatMap (dK S bx)) b=some (.b8 e l)
 | [],_,_,_,_,h,_,_,_=>by simp at h
 | W::vs,V,b,e,l,h,hV,hb,h0=>by
  simp only [List.flatMap_cons,kC]
  obtain ⟨h1,_⟩:=Nh bx hJ h0 W
  rcases List.mem_cons.1 h with rfl | h
  · subst hV
    have e1:aF hJ (dK S bx (.aQ b)) b=some (.b8 e l):=by
     simp only [Sy.dK,hb]
     exact bq _ _ _
    have :=(Aw bx vs _ h1).1 b
    rcases this with e2 | ⟨e',l',e2,e3⟩
    · exfalso
      have :=(Aw bx vs _ h1).2 b
      rw [e2,e1,hb] at this
      rcases this with h | ⟨h,_⟩ | ⟨_,_,h,_⟩ <;> cases h
    · rw [hb] at e2; cases e2; exact e3
  · exact Hx bx _ vs V b e l h hV hb h1
theorem C6 (hS:dU S) (h:Inv P S w0 M0 s0 dq env a w μ) {bx:Bx S.C} (hk:Tk S env.bx bx) {t:Ty} {V:V S.C} {v:Value} {x:t.den S.C}
 (hv:RV P S w (aR S w0 M0 s0 env.bx μ w) μ env.bx V v) (hx:datum S bx t V=some x):
 Tk S bx (aF bx (eB S bx V))∧c7 S w (di S w0 M0 s0 env.bx (aF bx (eB S bx V)) μ w) t x v:=by
 have hl:=pY S w0 M0 s0 env.bx (aF bx (eB S bx V)) μ w
 have one: ∀ (W:Sy.V S.C),V=W→eB S bx V=dK S bx W→b6 P S w (aR S w0 M0 s0 env.bx μ w) μ env.bx W v→bR t=false→dV S bx t W=some x→
  Tk S bx (aF bx (eB S bx V))∧c7 S w (di S w0 M0 s0 env.bx (aF bx (eB S bx V)) μ w) t x v:=by
  intro W hW hfr hv ht hx
  have htk:Tk S bx (aF bx (eB S bx V)):=by rw [hfr]; exact Tk.dK bx W
  refine ⟨htk, ?_⟩
  obtain ⟨n,hn⟩:=GA h hk htk ht (fun b e l hm hb=>by
   rw [hfr]
   subst hm
   simp only [Sy.dK,hb]
   exact bq _ _ _) hv hx
  refine ⟨?_,n, ?_⟩
  · rw [ht]
    cases n with
    | zero=>exact hn.elim
    | succ n=>cases t with
     | int k=>simp [aN] at hn; subst hn; rfl
     | bool=>simp [aN] at hn; subst hn; rfl
     | str=>simp [aN] at hn; subst hn; rfl
     | pt=>simp [aN] at hn; subst hn; rfl
     | sl e=>obtain ⟨a,cap,h1,_⟩:=hn; simp at h1; subst h1; rfl
     | st u=>simp [bR] at ht
  · have :v.cells.toList= [v]:=by
     cases n with
     | zero=>exact hn.elim
     | succ n=>cases t with
      | int k=>simp [aN] at hn; subst hn; rfl
      | bool=>simp [aN] at hn; subst hn; rfl
      | str=>simp [aN] at hn; subst hn; rfl
      | pt=>simp [aN] at hn; subst hn; rfl
      | sl e=>obtain ⟨a,cap,h1,_⟩:=hn; simp at h1; subst h1; rfl
      | st u=>simp [bR] at ht
    rw [this]; exact hn
 cases V with
 | agg u vs=>
  obtain ⟨cs,rfl,hlen,_,hvs⟩:=hv
  cases t with
  | st u'=>
   simp only [datum] at hx
   split at hx
   · rename_i e
     subst e
     have hfz:=Aw (S:=S) bx vs bx (fun i=> .inl rfl)
     obtain ⟨n,hn⟩:=Iv hS h hk hfz.2 (t:= .st u) (vs:=vs) (fun V hV b e l hm hb=>Hx bx bx vs V b e l (List.mem_of_mem_take hV) hm hb (fun i=> .inl rfl)) hvs hx
     have hcl:=aT.length P S hvs
     refine ⟨hfz.2,rfl,n, ?_⟩
     rw [show Ty.sz S (.st u)=cs.toList.length from by show (S.F u).length=_; rw [hcl,hlen]] at hn
     rw [List.take_length] at hn
     exact hn
   · cases hx
  | _=>cases hx
 | d u y=>
  cases t with
  | st u'=>
   obtain ⟨rfl,rfl⟩:=fA (show fH S u (.st u') y=some x from hx)
   exact ⟨Tk.refl S bx,c7.mono S hl hv⟩
  | int k=>exact one _ rfl rfl hv rfl hx
  | bool=>exact one _ rfl rfl hv rfl hx
  | str=>exact one _ rfl rfl hv rfl hx
  | pt=>exact one _ rfl rfl hv rfl hx
  | sl e=>exact one _ rfl rfl hv rfl hx
 | jX vs=>cases t <;> simp [datum,dV] at hx
 | gQ f vs=>cases t <;> simp [datum,dV] at hx
 | undef=>cases t <;> simp [datum,dV] at hx
 | skip=>cases t <;> simp [datum,dV] at hx
 | pre b n=>cases t <;> simp [datum,dV] at hx
 | split b c=>cases t <;> simp [datum,dV] at hx
 | nY c=>cases t <;> simp [datum,dV] at hx
 | win b i n=>cases t <;> simp [datum,dV] at hx
 | pr p i=>cases t with
  | st u'=>cases hx
  | _=>exact one _ rfl rfl hv rfl hx
 | bE b e l=>cases t with
  | st u'=>cases hx
  | _=>exact one _ rfl rfl hv rfl hx
 | aQ b=>cases t with
  | st u'=>cases hx
  | _=>exact one _ rfl rfl hv rfl hx
 | ptr b o=>cases t <;> simp [datum,dV] at hx
 | dm b n=>cases t <;> simp [datum,dV] at hx
 | err b=>cases t <;> simp [datum,dV] at hx
 | gz b i o=>cases t <;> simp [datum,dV] at hx
 | eI t' y=>cases t <;> simp [datum,dV] at hx
 | nil=>cases t <;> simp [datum,dV] at hx
 | dD=>cases t with
  | st u'=>cases hx
  | _=>exact one _ rfl rfl hv rfl hx
 | fv a r g=>cases t <;> simp [datum,dV] at hx
end
end Go.Sy
namespace Go.Sy
section
variable {P:Program} {S:bB}
variable {w0:World} {M0 s0:St} {dq:List Deferred} {env:Env S.C} {a:Act} {w:World} {μ:Nat→Loc}
def cx (S:bB) (env:Env S.C) (μ:Nat→Loc) (bx aq:Bx S.C) (M:St):Prop:=
 ∀ b o,M b o→ ∃ i,live S env.bx i∧live S bx i∧aq i=some .dead∧(μ i).aP b o
theorem cx.none {bx aq:Bx S.C} {M:St} (h:j0 M):cx S env μ bx aq M:=fun b o hm=>(h b o hm).elim
theorem sI {bx aq:Bx S.C} (h:Tk S bx aq) {i:Nat} (hd:bx i=some .dead):aq i=some .dead:=by
 rcases h i with e | ⟨e,_⟩ | ⟨e,l,e1,_⟩
 · exact e.trans hd
 · exact e
 · rw [hd] at e1; cases e1
theorem cx.later {bx aq kI:Bx S.C} {M:St} (h:cx S env μ bx aq M) (hk:Tk S aq kI):cx S env μ bx kI M:=
 fun b o hm=>let ⟨i,h1,h2,h3,h4⟩:=h b o hm; ⟨i,h1,h2,sI hk h3,h4⟩
theorem cx.ME {bx aq kI:Bx S.C} {M:St} (h:cx S env μ aq kI M) (hk:Tk S bx aq):cx S env μ bx kI M:=
 fun b o hm=>let ⟨i,h1,h2,h3,h4⟩:=h b o hm; ⟨i,h1,(fC S (hk.eY h2)).1 h2,h3,h4⟩
theorem cx.apart (h:Inv P S w0 M0 s0 dq env a w μ) {bx aq kI:Bx S.C} {M M':St} (h1:cx S env μ bx aq M) (h2:cx S env μ aq kI M'): ∀ b o,M b o→M' b o→False:=by
 intro b o hm hm'
 obtain ⟨i,a1,a2,a3,a4⟩:=h1 b o hm
 obtain ⟨j,b1,b2,b3,b4⟩:=h2 b o hm'
 refine h.eH i j (fun e=> ?_) a1 b1 b o a4 b4
 subst e
 unfold live at b2
 rw [a3] at b2
 exact b2
theorem cx.union {bx aq kI:Bx S.C} {M M':St} (h1:cx S env μ bx aq M) (h2:cx S env μ aq kI M') (hk:Tk S bx aq) (hk':Tk S aq kI):cx S env μ bx kI (fun b o=>M b o∨M' b o):=
 fun b o hm=>hm.elim (h1.later hk' b o) (h2.ME hk b o)
theorem R_ (hS:dU S) (h:Inv P S w0 M0 s0 dq env a w μ) {bx:Bx S.C} (hk:Tk S env.bx bx) {c:CK} {vs:List (V S.C)} {cs:List Value} {x:c.den S.C} {us:aV S.C}
 (hv:aT P S w (aR S w0 M0 s0 env.bx μ w) μ env.bx vs cs) (hx:fe S bx c vs=some (x,us)):
 Tk S bx (aF bx us)∧ ∃ M,nB S w (di S w0 M0 s0 env.bx (aF bx us) μ w) M c x (cs.take (CK.sz S c))∧cx S env μ bx (aF bx us) M∧(cs.take (CK.sz S c)).length=CK.sz S c:=by
 cases c with
 | data t=>
  simp only [fe] at hx
  obtain ⟨y,hy,hx⟩:=Option.bind_eq_some_iff.1 hx
  cases hx
  have hfz:=Aw (S:=S) bx (vs.take (Ty.sz S t)) bx (fun i=> .inl rfl)
  obtain ⟨n,hn⟩:=Iv hS h hk hfz.2 (fun V hV b e l hm hb=>Hx bx bx _ V b e l hV hm hb (fun i=> .inl rfl)) hv hy
  exact ⟨hfz.2,fun _ _=>False,⟨fun _ _ h=>h,n,hn⟩,cx.none (fun _ _ h=>h),hn.length⟩
 | bE e=>
  simp only [fe] at hx
  split at hx
  · rename_i b e' l r
    split at hx
    · rename_i hb
      obtain ⟨y,hy,hx⟩:=Option.bind_eq_some_iff.1 hx
      cases hx
      obtain ⟨he,rfl⟩:=fA hy
      cases he
      obtain ⟨c,r',rfl,hv1,jO⟩:=hv
      have hlb:live S bx b:=by unfold live; rw [hb]; trivial
      have hb0:env.bx b=some .tail:=(hk.eY hlb).symm.trans hb
      have htk:Tk S bx (aF bx [(b, .dead)]):=Tk.zw hlb
      obtain ⟨a',cap,rfl,AS⟩:=hv1.2 hb0
      obtain ⟨_,n,hn⟩:=hv1.1
      refine ⟨htk,(μ b).aP,⟨a',cap,μ b,rfl,⟨n,hn.mono S (pY S w0 M0 s0 env.bx _ μ w) (Nat.le_refl _)⟩,AS,h.cB b _ hb0,fun _ _=>Iff.rfl⟩,fun b' o hm=>⟨b,(fC S (hk.eY hlb)).1 hlb,hlb,bq _ _ _,hm⟩,rfl⟩
    · cases hx
  · rename_i r
    cases hx
    obtain ⟨c,r',rfl,hv1,jO⟩:=hv
    cases hv1
    exact ⟨Tk.refl S bx,fun _ _=>False,⟨none,0,⟨0,0,0,0,true⟩,rfl,⟨1,none,0,rfl,Nat.le_refl _, .inl rfl⟩, .inl ⟨rfl,rfl,rfl⟩,fun j hj=>absurd hj (Nat.not_lt_zero j),fun b o=>⟨fun h=>h.elim,fun h=>by have h1:=h.2.1; have h2:=h.2.2; simp at h2⟩⟩,cx.none (fun _ _ h=>h),rfl⟩
  · cases hx
 | aQ e=>
  simp only [fe] at hx
  split at hx
  · rename_i b r
    split at hx
    · rename_i e' l hb
      obtain ⟨y,hy,hx⟩:=Option.bind_eq_some_iff.1 hx
      cases hx
      obtain ⟨he,rfl⟩:=fA hy
      cases he
      obtain ⟨c,r',rfl,hv1,jO⟩:=hv
      have hlb:live S bx b:=by unfold live; rw [hb]; trivial
      have hb0:env.bx b=some (.arr e l):=(hk.eY hlb).symm.trans hb
      have htk:Tk S bx (aF bx [(b, .dead)]):=Tk.zw hlb
      obtain ⟨a',cap,rfl,hao⟩:=hv1.2 e l (.inl hb0)
      obtain ⟨g1,g2,g3,g4,g5⟩:=h.cB b _ hb0
      refine ⟨htk,(μ b).aP,⟨a',cap,μ b,rfl,hao,g4,fun _ _=>Iff.rfl,fun i z hi=> ?_⟩,fun b' o hm=>⟨b,(fC S (hk.eY hlb)).1 hlb,hlb,bq _ _ _,hm⟩,rfl⟩
      obtain ⟨ds,d1,d2,n,d3⟩:=g5 i z hi
      exact ⟨ds,d1,d2,n,d3.mono S (pY S w0 M0 s0 env.bx _ μ w) (Nat.le_refl _)⟩
    · cases hx
  · rename_i b n r
    split at hx
    · rename_i e' l hb
      obtain ⟨y,hy,hx⟩:=Option.bind_eq_some_iff.1 hx
      cases hx
      obtain ⟨he,rfl⟩:=fA hy
      cases he
      obtain ⟨c,r',rfl,hv1,jO⟩:=hv
      have hlb:live S bx b:=by unfold live; rw [hb]; trivial
      have hb0:env.bx b=some (.arr e l):=(hk.eY hlb).symm.trans hb
      have htk:Tk S bx (aF bx [(b, .dead)]):=Tk.zw hlb
      obtain ⟨hn0,hnl,a',cap,rfl,hao⟩:=hv1.2 e l hb0
      obtain ⟨g1,g2,g3,g4,g5⟩:=h.cB b _ hb0
      have hlen:(List.take n.toNat l).length=n.toNat:=by rw [List.length_take]; omega
      refine ⟨htk,(μ b).aP,⟨a',cap,μ b, ?_, ?_,g4,fun _ _=>Iff.rfl,fun i z hi=> ?_⟩,fun b' o hm=>⟨b,(fC S (hk.eY hlb)).1 hlb,hlb,bq _ _ _,hm⟩,rfl⟩
      · show [_]= [_]
        rw [hlen]
      · rw [hlen]; exact hao
      · have hi':l[i]? =some z:=by
         rw [List.getElem?_take] at hi
         split at hi
         · exact hi
         · cases hi
        obtain ⟨ds,d1,d2,n,d3⟩:=g5 i z hi'
        exact ⟨ds,d1,d2,n,d3.mono S (pY S w0 M0 s0 env.bx _ μ w) (Nat.le_refl _)⟩
    · cases hx
  · rename_i r
    cases hx
    obtain ⟨c,r',rfl,hv1,jO⟩:=hv
    cases hv1
    exact ⟨Tk.refl S bx,fun _ _=>False,⟨none,0,⟨0,0,0,0,true⟩,rfl,⟨rfl,rfl,by simp,fun _=>rfl,Nat.le_refl _⟩,fun j hj=>absurd hj (Nat.not_lt_zero j),fun b o=>⟨fun h=>h.elim,fun h=>by have h1:=h.2.1; have h2:=h.2.2; simp at h2⟩,fun i x hi=>by simp at hi⟩,cx.none (fun _ _ h=>h),rfl⟩
  · cases hx
theorem Sa (hS:dU S) (h:Inv P S w0 M0 s0 dq env a w μ): ∀ (ps:List CK) {bx:Bx S.C} (hk:Tk S env.bx bx) {vs:List (V S.C)} {cs:List Value} {x:bZ S.C ps} {us:aV S.C},
 aT P S w (aR S w0 M0 s0 env.bx μ w) μ env.bx vs cs→eV S bx ps vs=some (x,us)→
 Tk S bx (aF bx us)∧ ∃ M,jG S w (di S w0 M0 s0 env.bx (aF bx us) μ w) M ps x (cs.take (CK.c_ S ps))∧cx S env μ bx (aF bx us) M∧(cs.take (CK.c_ S ps)).length=CK.c_ S ps
 | [],bx,hk,vs,cs,x,us,hv,hx=>by
  cases hx
  exact ⟨Tk.refl S bx,fun _ _=>False,⟨fun _ _ h=>h,by simp [CK.c_]⟩,cx.none (fun _ _ h=>h),by simp [CK.c_]⟩
 | c::ps,bx,hk,vs,cs,x,us,hv,hx=>by
  simp only [eV] at hx
  obtain ⟨⟨y,u1⟩,hy,hx⟩:=Option.bind_eq_some_iff.1 hx
  obtain ⟨⟨z,u2⟩,hz,hx⟩:=Option.bind_eq_some_iff.1 hx
  cases hx
  obtain ⟨k1,M1,r1,f1,n1⟩:=R_ hS h hk hv hy
  obtain ⟨k2,M2,r2,f2,n2⟩:=Sa hS h ps (hk.trans S k1) (hv.drop P S (CK.sz S c)) hz
  dsimp only at *
  rw [kC]
  refine ⟨k1.trans S k2,fun b o=>M1 b o∨M2 b o,⟨M1,M2,cs.take (CK.sz S c),(cs.drop (CK.sz S c)).take (CK.c_ S ps),⟨fun _ _=>Iff.rfl,cx.apart h f1 f2⟩, ?_,n1, ?_, ?_⟩,cx.union f1 f2 k1 k2, ?_⟩
  · rw [CK.c_,List.take_add]
  · rw [show bZ.head (bZ.cons y z)=y from by cases ps <;> rfl]
    exact r1.mono S (zp S k2)
  · rw [show bZ.tail (bZ.cons y z)=z from by cases ps <;> rfl]
    exact r2
  · rw [CK.c_,List.take_add,List.length_append,n1,n2]
theorem pZ {w:World} {b o n o' n':Nat} (h:w.there b o n) (h1:o≤o') (h2:o'+n'≤o+n):w.there b o' n':=fun j hj=>by
 have :=h (o' - o+j) (by omega)
 rw [show o+(o' - o+j)=o'+j from by omega] at this
 exact this
theorem Py {w:World} {b o:Nat} {cs:List Value} (h:w.rangeAt b o cs) (k:Nat):w.rangeAt b (o+k) (cs.drop k):=fun j v hj=>by
 rw [Nat.add_assoc]
 exact h (k+j) v (by simpa using hj)
theorem PB {w:World} {b o:Nat} {cs:List Value} (h:w.rangeAt b o cs) (k:Nat):w.rangeAt b o (cs.take k):=fun j v hj=>by
 rw [List.getElem?_take] at hj
 split at hj
 · exact h j v hj
 · cases hj
theorem IV (hS:dU S) (h:Inv P S w0 M0 s0 dq env a w μ) {bx:Bx S.C} (hk:Tk S env.bx bx) {b off:Nat} {ws:List (V S.C)} (hb:bx b=some (.cells ws)) {ps:List CK} {x:bZ S.C ps} {us:aV S.C} {v:Value}
 (hv:b6 P S w (aR S w0 M0 s0 env.bx μ w) μ env.bx (.ptr b off) v) (hx:eV S (aD bx b (some .dead)) ps (ws.drop off)=some (x,us)):
 Tk S bx (aF bx ((b, .dead)::us))∧ ∃ M,fq S w (di S w0 M0 s0 env.bx (aF bx ((b, .dead)::us)) μ w) M ps x v∧cx S env μ bx (aF bx ((b, .dead)::us)) M:=by
 have hlb:live S bx b:=by unfold live; rw [hb]; trivial
 have hb0:env.bx b=some (.cells ws):=(hk.eY hlb).symm.trans hb
 have hl0:live S env.bx b:=(fC S (hk.eY hlb)).1 hlb
 have k1:Tk S bx (aD bx b (some .dead)):=Tk.zw hlb
 obtain ⟨g1,g2,g3,cs,g4,g5⟩:=h.cB b _ hb0
 obtain ⟨k2,M2,r2,f2,n2⟩:=Sa hS h ps (hk.trans S k1) (g5.drop P S off) hx
 have AY:v=_:=hv
 subst AY
 have hlen:=aT.length P S g5
 have hsz:off+CK.c_ S ps≤cs.length∨CK.c_ S ps=0:=by
  rw [List.length_take,List.length_drop] at n2
  omega
 refine ⟨k1.trans S k2,fun b' o'=>(b'=(μ b).b∧(μ b).o+off≤o'∧o'<(μ b).o+off+((cs.drop off).take (CK.c_ S ps)).length)∨M2 b' o',⟨_,_,(cs.drop off).take (CK.c_ S ps),M2,rfl, ?_,PB (Py g4 off) _,⟨fun _ _=>Iff.rfl, ?_⟩,r2⟩, ?_⟩
 · rcases hsz with hsz | hsz
   · exact pZ g3 (by omega) (by rw [n2]; omega)
   · intro j hj; rw [n2,hsz] at hj; exact absurd hj (Nat.not_lt_zero _)
 · rintro b' o' ⟨rfl,h1,h2⟩ hm
   obtain ⟨i,a1,a2,a3,a4⟩:=f2 _ _ hm
   refine h.eH b i (fun e=> ?_) hl0 a1 _ _ ⟨rfl,by omega, ?_⟩ a4
   · subst e
     unfold live at a2
     rw [bq] at a2
     exact a2
   · rw [n2] at h2
     rcases hsz with hsz | hsz <;> omega
 · rintro b' o' (⟨rfl,h1,h2⟩ | hm)
   · refine ⟨b,hl0,hlb,sI k2 (bq _ _ _),rfl,by omega, ?_⟩
     rw [n2] at h2
     rcases hsz with hsz | hsz <;> omega
   · exact f2.ME k1 _ _ hm
theorem LY (hS:dU S) (h:Inv P S w0 M0 s0 dq env a w μ) {bx:Bx S.C} (hk:Tk S env.bx bx) {t:Ty} {V:V S.C} {v:Value} {x:t.den S.C}
 (hv:b6 P S w (aR S w0 M0 s0 env.bx μ w) μ env.bx V v) (hx:oP S bx t V=some x):oF S w (di S w0 M0 s0 env.bx bx μ w) t x v:=by
 have hl:=pY S w0 M0 s0 env.bx bx μ w
 cases V with
 | ptr b off=>
  cases off with
  | succ n=>cases hx
  | zero=>
   simp only [oP] at hx
   split at hx
   · rename_i ws hb
     have hb0:env.bx b=some (.cq ws):=by
      rcases hk b with e | ⟨e,_⟩ | ⟨e,l,_,e1⟩
      · exact e.symm.trans hb
      · rw [hb] at e; cases e
      · rw [hb] at e1; cases e1
     obtain ⟨g1,cs,g2,g3⟩:=h.cB b _ hb0
     have AY:v=_:=hv
     subst AY
     cases hnm:ws.all (OW S) with
     | false=>rw [hnm] at hx; cases hx
     | true=>
     rw [hnm] at hx
     obtain ⟨n,hn⟩:=Iv hS h hk (Tk.refl S bx) (t:=t) (vs:=ws) (fun V hV b' e l hm hb'=>by
      have :=(List.all_eq_true.1 hnm) V (List.mem_of_mem_take hV)
      subst hm
      cases this) g3 hx
     refine ⟨_,_,cs.take (Ty.sz S t),rfl,fun j u hj=> ?_,hn.length,n,hn⟩
     rw [List.getElem?_take] at hj
     split at hj
     · have :=(g2.later hl) j u hj
       simpa using this
     · cases hj
   · cases hx
 | eI u y=>
  obtain ⟨rfl,rfl⟩:=fA (show fH S u t y=some x from hx)
  exact oF.mono S hl hv
 | _=>cases hx
theorem GR (hS:dU S) (h:Inv P S w0 M0 s0 dq env a w μ) {bx:Bx S.C} (hk:Tk S env.bx bx): ∀ (ts:List Ty) {vs:List (V S.C)} {cs:List Value} {x:aA S.C ts},
 aT P S w (aR S w0 M0 s0 env.bx μ w) μ env.bx vs cs→caps S bx ts vs=some x→jc S w (di S w0 M0 s0 env.bx bx μ w) ts x cs
 | [],[],cs,x,hv,_=>hv
 | [],_::_,_,_,_,hx=>by cases hx
 | _::_,[],_,_,_,hx=>by cases hx
 | t::ts,V::vs,cs,x,⟨c,r,hcs,h1,h2⟩,hx=>by
  simp only [caps] at hx
  obtain ⟨y,hy,hx⟩:=Option.bind_eq_some_iff.1 hx
  obtain ⟨z,hz,hx⟩:=Option.bind_eq_some_iff.1 hx
  cases hx
  refine ⟨c,r,hcs, ?_, ?_⟩
  · rw [show aA.head (aA.cons y z)=y from by cases ts <;> rfl]
    exact LY hS h hk h1 hy
  · rw [show aA.tail (aA.cons y z)=z from by cases ts <;> rfl]
    exact GR hS h hk ts h2 hz
theorem WD (hS:dU S) (h:Inv P S w0 M0 s0 dq env a w μ) {bx:Bx S.C} (hk:Tk S env.bx bx) {fs:List (jd S)} (qA: ∀ e ∈ fs,eG P S e) {A R:List Ty} {V:V S.C} {v:Value} {g:aA S.C A→Option (aA S.C R)}
 (hv:RV P S w (aR S w0 M0 s0 env.bx μ w) μ env.bx V v) (hx:uT S fs bx A R V=some g):oD P S w (di S w0 M0 s0 env.bx bx μ w) A R g v:=by
 have hl:=pY S w0 M0 s0 env.bx bx μ w
 cases V with
 | fv A' R' g'=>
  simp only [uT] at hx
  split at hx
  · rename_i e1
    split at hx
    · rename_i e2
      subst e1 e2
      cases hx
      exact oD.mono P S hl hv
    · cases hx
  · cases hx
 | gQ f vs=>
  obtain ⟨cs,rfl,hvs⟩:=hv
  simp only [uT] at hx
  obtain ⟨e,he,hx1⟩:=List.exists_of_findSome?_eq_some hx
  clear hx
  split at hx1
  · rename_i ef
    split at hx1
    · rename_i e1
      split at hx1
      · rename_i e2
        obtain ⟨y,hy,hx2⟩:=Option.bind_eq_some_iff.1 hx1
        clear hx1
        obtain ⟨f',A',c',R',sp⟩:=e
        dsimp only at *
        subst ef e1 e2
        have hx3:=Option.some.inj hx2
        subst hx3
        have Dm:=GR hS h hk _ hvs hy
        refine ⟨f', #[],cs,rfl,(qA _ he).1,fun w1 s1 cY HE x args z hargs hg=> ?_⟩
        have :=(qA _ he).2 w1 s1 x y z args cs.toList HE hargs (jc.mono cY _ _ _ Dm) hg
        rw [show #[]++args.toArray++cs=(args++cs.toList).toArray from by simp]
        exact this
      · cases hx1
    · cases hx1
  · cases hx1
 | _=>cases hx
theorem Sh (hS:dU S) (h:Inv P S w0 M0 s0 dq env a w μ) {bx:Bx S.C} (hk:Tk S env.bx bx) {ps:List CK} {b:Nat} {x:bZ S.C ps} {us:aV S.C} (hx:iN S bx ps b=some (x,us)):
 Tk S bx (aF bx us)∧ ∃ M,fq S w (di S w0 M0 s0 env.bx (aF bx us) μ w) M ps x (.pointer (some ⟨(μ b).b,(μ b).o,none⟩))∧cx S env μ bx (aF bx us) M:=by
 unfold iN at hx
 split at hx
 · rename_i ws hb
   cases hw:Nat.beq ws.length (CK.c_ S ps) with
   | false=>rw [hw] at hx; cases hx
   | true=>
    rw [hw,cond_true] at hx
    obtain ⟨⟨y,u'⟩,hy,hx⟩:=Option.bind_eq_some_iff.1 hx
    cases hx
    exact IV hS h hk hb (show b6 P S w (aR S w0 M0 s0 env.bx μ w) μ env.bx (.ptr b 0) _ from rfl) hy
 · cases hx
theorem aeN (hS:dU S) (h:Inv P S w0 M0 s0 dq env a w μ) {bx:Bx S.C} (hk:Tk S env.bx bx) {fs:List (jd S)} (qA: ∀ e ∈ fs,eG P S e) {k:K} {V:V S.C} {v:Value} {x:k.den S.C} {us:aV S.C}
 (hv:RV P S w (aR S w0 M0 s0 env.bx μ w) μ env.bx V v) (hx:cW S fs bx k V=some (x,us)):
 Tk S bx (aF bx us)∧ ∃ M,oE P S w (di S w0 M0 s0 env.bx (aF bx us) μ w) M k x v∧cx S env μ bx (aF bx us) M:=by
 have ck: ∀ (c:CK),(∀ t,c≠ .data t)→CK.sz S c=1→ ∀ (y:c.den S.C),fe S bx c [V]=some (y,us)→Tk S bx (aF bx us)∧ ∃ M,(nB S w (di S w0 M0 s0 env.bx (aF bx us) μ w) M c y v.cells.toList∧isAgg v=false)∧cx S env μ bx (aF bx us) M:=by
  intro c hc h1 y hy
  have hv1:b6 P S w (aR S w0 M0 s0 env.bx μ w) μ env.bx V v:=by
   cases V with
   | agg u ws=>cases c <;> first | exact absurd rfl (hc _) | cases hy
   | jX ws=>cases c <;> first | exact absurd rfl (hc _) | cases hy
   | gQ f ws=>cases c <;> first | exact absurd rfl (hc _) | cases hy
   | _=>exact hv
  obtain ⟨k1,M,r1,f1,n1⟩:=R_ hS h hk (vs:= [V]) (cs:= [v]) ⟨v,[],rfl,hv1,rfl⟩ hy
  rw [h1] at r1
  have hag:isAgg v=false:=by
   cases c with
   | data t=>exact absurd rfl (hc t)
   | bE e=>obtain ⟨a',cap,L,he,_⟩:=r1; simp at he; subst he; rfl
   | aQ e=>obtain ⟨a',cap,L,he,_⟩:=r1; simp at he; subst he; rfl
  refine ⟨k1,M,⟨?_,hag⟩,f1⟩
  rw [aN.nH (t:= .bool) (by rw [hag]; rfl) rfl]
  exact r1
 have obj: ∀ (ps:List CK) (b off:Nat) (ws:List (Sy.V S.C)) (y:bZ S.C ps) (us':aV S.C),V= .ptr b off→bx b=some (.cells ws)→eV S (aD bx b (some .dead)) ps (ws.drop off)=some (y,us')→us=(b, .dead)::us'→
  Tk S bx (aF bx us)∧ ∃ M,fq S w (di S w0 M0 s0 env.bx (aF bx us) μ w) M ps y v∧cx S env μ bx (aF bx us) M:=by
  intro ps b off ws y us' hV hb hy hu
  subst hV hu
  exact IV hS h hk hb hv hy
 cases k with
 | val c=>
  cases c with
  | data t=>
   simp only [cW] at hx
   obtain ⟨y,hy,hx⟩:=Option.bind_eq_some_iff.1 hx
   cases hx
   obtain ⟨k1,r1⟩:=C6 hS h hk hv hy
   exact ⟨k1,fun _ _=>False,⟨⟨fun _ _ h=>h,r1.2⟩,r1.1⟩,cx.none (fun _ _ h=>h)⟩
  | bE e=>exact ck (.bE e) (by simp) rfl x hx
  | aQ e=>exact ck (.aQ e) (by simp) rfl x hx
 | obj ps=>
  simp only [cW] at hx
  split at hx
  · split at hx
    · rename_i b off _ ws hb
      cases hw:Nat.beq off 0&&Nat.beq ws.length (CK.c_ S ps) with
      | false=>rw [hw] at hx; cases hx
      | true=>
       rw [hw,cond_true] at hx
       obtain ⟨⟨y,u'⟩,hy,hx⟩:=Option.bind_eq_some_iff.1 hx
       cases hx
       exact obj ps _ _ _ _ _ rfl hb hy rfl
    · cases hx
  · cases hx
 | opt ps=>
  simp only [cW] at hx
  split at hx
  · cases hx
    exact ⟨Tk.refl S bx,fun _ _=>False,⟨fun _ _ h=>h,hv⟩,cx.none (fun _ _ h=>h)⟩
  · split at hx
    · rename_i b off _ ws hb
      cases hw:Nat.beq off 0&&Nat.beq ws.length (CK.c_ S ps) with
      | false=>rw [hw] at hx; cases hx
      | true=>
       rw [hw,cond_true] at hx
       obtain ⟨⟨y,u'⟩,hy,hx⟩:=Option.bind_eq_some_iff.1 hx
       cases hx
       exact obj ps _ _ _ _ _ rfl hb hy rfl
    · cases hx
  · cases hx
 | dm ps=>
  simp only [cW] at hx
  split at hx
  · split at hx
    · rename_i b n _ ws hb
      cases hw:Nat.beq n ws.length&&Nat.beq ws.length (CK.c_ S ps) with
      | false=>rw [hw] at hx; cases hx
      | true=>
       rw [hw,cond_true] at hx
       rw [Bool.and_eq_true] at hw
       have w1:=Nat.eq_of_beq_eq_true hw.1
       have w2:=Nat.eq_of_beq_eq_true hw.2
       obtain ⟨⟨y,u'⟩,hy,hx⟩:=Option.bind_eq_some_iff.1 hx
       cases hx
       have hv:v= .slice (some ⟨(μ b).b,(μ b).o,none⟩) n n:=hv
       obtain ⟨k1,M,r1,f1⟩:=IV hS h hk (v:= .pointer (some ⟨(μ b).b,(μ b).o,none⟩)) hb (show b6 P S w (aR S w0 M0 s0 env.bx μ w) μ env.bx (.ptr b 0) _ from rfl) hy
       exact ⟨k1,M,⟨_,by rw [hv,w1,w2],r1⟩,f1⟩
    · cases hx
  · cases hx
 | err=>
  simp only [cW] at hx
  split at hx
  · cases hx
    exact ⟨Tk.refl S bx,fun _ _=>False,⟨fun _ _ h=>h,hv⟩,cx.none (fun _ _ h=>h)⟩
  · cases hx
 | bH=>
  simp only [cW] at hx
  split at hx
  · split at hx
    · split at hx
      · rename_i b off _ j hb _ l hj
        cases hw:Nat.beq off 0 with
        | false=>rw [hw] at hx; cases hx
        | true=>
         rw [hw] at hx
         cases hx
         have ho:=Nat.eq_of_beq_eq_true hw
         subst ho
         have hne:j≠b:=fun e=>by subst e; rw [hb] at hj; cases hj
         have lb:live S bx b:=by unfold live; rw [hb]; trivial
         have lj:live S bx j:=by unfold live; rw [hj]; trivial
         have hb0:env.bx b=some (.bH j):=(hk.eY lb).symm.trans hb
         have hj0:env.bx j=some (.buf x):=(hk.eY lj).symm.trans hj
         have Ou:live S env.bx b:=(fC S (hk.eY lb)).1 lb
         have OH:live S env.bx j:=(fC S (hk.eY lj)).1 lj
         obtain ⟨g1,g2,g3,u,g4,g5⟩:=h.cB b _ hb0
         have gj:si S w (μ j) x:=h.cB j _ hj0
         have hv:v= .pointer (some ⟨(μ b).b,(μ b).o+0,none⟩):=hv
         have k1:Tk S bx (aD bx b (some .dead)):=Tk.zw lb
         have Y8:live S (aD bx b (some .dead)) j:=by unfold live; rw [bM _ _ hne,hj]; trivial
         have k2:Tk S (aD bx b (some .dead)) (aD (aD bx b (some .dead)) j (some .dead)):=Tk.zw Y8
         have fb: ∀ b' o',(Loc.mk (μ b).b 0 2 0 false).aP b' o'→(μ b).aP b' o':=fun b' o' ⟨q1,q2,q3⟩=>⟨q1,by omega,by have :o'<0+2:=q3; omega⟩
         refine ⟨k1.trans S k2,fun b' o'=>(Loc.mk (μ b).b 0 2 0 false).aP b' o'∨(μ j).aP b' o',⟨(μ b).b,μ j,by rw [hv,g1],g5 _ hj0▸g4,gj,fun _ _=>Iff.rfl,fun b' o' q1 q2=>h.eH j b hne OH Ou _ _ q2 (fb _ _ q1)⟩, ?_⟩
         rintro b' o' (q | q)
         · exact ⟨b,Ou,lb,(bM _ _ hne.symm).trans (bq _ _ _),fb _ _ q⟩
         · exact ⟨j,OH,lj,bq _ _ _,q⟩
      · cases hx
    · cases hx
  · cases hx
 | nil=>
  simp only [cW] at hx
  split at hx
  · cases hx
    exact ⟨Tk.refl S bx,fun _ _=>False,⟨fun _ _ h=>h,hv⟩,cx.none (fun _ _ h=>h)⟩
  · cases hx
 | cA t ps=>
  simp only [cW] at hx
  split at hx
  · rename_i b c
    obtain ⟨⟨y,u1⟩,hy,hx⟩:=Option.bind_eq_some_iff.1 hx
    obtain ⟨⟨z,u2⟩,hz,hx⟩:=Option.bind_eq_some_iff.1 hx
    cases hx
    obtain ⟨kb,q,e1,e2,e3,e4⟩:=hv
    obtain ⟨k1,M1,r1,f1⟩:=Sh hS h hk hy
    obtain ⟨k2,M2,r2,f2⟩:=Sh hS h (hk.trans S k1) hz
    dsimp only at *
    rw [kC]
    rw [e3,e4] at r2
    exact ⟨k1.trans S k2,fun b o=>M1 b o∨M2 b o,⟨kb,q,⟨(μ c).b,(μ c).o,none⟩,M1,M2,e1,e2.later (pY S _ _ _ _ _ _ _),⟨fun _ _=>Iff.rfl,cx.apart h f1 f2⟩,fq.mono S (zp S k2) r1,r2⟩,cx.union f1 f2 k1 k2⟩
  · cases hx
 | ro t=>
  simp only [cW] at hx
  obtain ⟨y,hy,hx⟩:=Option.bind_eq_some_iff.1 hx
  cases hx
  have hv1:b6 P S w (aR S w0 M0 s0 env.bx μ w) μ env.bx V v:=by
   cases V <;> first | exact hv | cases hy
  exact ⟨Tk.refl S bx,fun _ _=>False,⟨fun _ _ h=>h,LY hS h hk hv1 hy⟩,cx.none (fun _ _ h=>h)⟩
 | fn A R=>
  simp only [cW] at hx
  obtain ⟨y,hy,hx⟩:=Option.bind_eq_some_iff.1 hx
  cases hx
  exact ⟨Tk.refl S bx,fun _ _=>False,⟨fun _ _ h=>h,WD hS h hk qA hv hy⟩,cx.none (fun _ _ h=>h)⟩
def gN (P:Program) (S:bB) (w:World) (s:St) (μ:Nat→Loc) (bx:Bx S.C):List (V S.C)→List Value→Prop
 | [],cs=>cs= []
 | v::vs,cs=> ∃ c r,cs=c::r∧RV P S w s μ bx v c∧gN P S w s μ bx vs r
theorem Cq (hS:dU S) (h:Inv P S w0 M0 s0 dq env a w μ) {fs:List (jd S)} (qA: ∀ e ∈ fs,eG P S e): ∀ (ks:List K) {bx:Bx S.C} (hk:Tk S env.bx bx) {vs:List (V S.C)} {cs:List Value} {x:Ks S.C ks} {us:aV S.C},
 gN P S w (aR S w0 M0 s0 env.bx μ w) μ env.bx vs cs→fm S fs bx ks vs=some (x,us)→
 Tk S bx (aF bx us)∧ ∃ M,cM P S w (di S w0 M0 s0 env.bx (aF bx us) μ w) M ks x cs∧cx S env μ bx (aF bx us) M
 | [],bx,hk,[],cs,x,us,hv,hx=>by
  cases hx
  exact ⟨Tk.refl S bx,fun _ _=>False,⟨fun _ _ h=>h,hv⟩,cx.none (fun _ _ h=>h)⟩
 | [],_,_,_::_,_,_,_,_,hx=>by cases hx
 | _::_,_,_,[],_,_,_,_,hx=>by cases hx
 | k::ks,bx,hk,V::vs,cs,x,us,⟨c,r,hcs,hv1,jO⟩,hx=>by
  simp only [fm] at hx
  obtain ⟨⟨y,u1⟩,hy,hx⟩:=Option.bind_eq_some_iff.1 hx
  obtain ⟨⟨z,u2⟩,hz,hx⟩:=Option.bind_eq_some_iff.1 hx
  cases hx
  obtain ⟨k1,M1,r1,f1⟩:=aeN hS h hk qA hv1 hy
  obtain ⟨k2,M2,r2,f2⟩:=Cq hS h qA ks (hk.trans S k1) jO hz
  dsimp only at *
  rw [kC]
  refine ⟨k1.trans S k2,fun b o=>M1 b o∨M2 b o,⟨M1,M2,c,r,⟨fun _ _=>Iff.rfl,cx.apart h f1 f2⟩,hcs, ?_, ?_⟩,cx.union f1 f2 k1 k2⟩
  · rw [show Ks.head (Ks.cons y z)=y from by cases ks <;> rfl]
    exact r1.mono P S (zp S k2)
  · rw [show Ks.tail (Ks.cons y z)=z from by cases ks <;> rfl]
    exact r2
end
end Go.Sy
namespace Go.Sy
theorem kF.left {M A B:St} (h:kF M A B) {b o:Nat} (ha:A b o):M b o:=(h.1 b o).2 (.inl ha)
theorem kF.right {M A B:St} (h:kF M A B) {b o:Nat} (ha:B b o):M b o:=(h.1 b o).2 (.inr ha)
section
variable {P:Program} {S:bB}
def Agree (us:aV S.C) (lam:Nat→Loc) (μ:Nat→Loc) (bx:Bx S.C):Prop:= ∀ u ∈ us,bx u.1=some u.2∧μ u.1=lam u.1
structure cQ (P:Program) (S:bB) (w:World) (s:St) (I:Nat→Prop) (us:aV S.C) (lam:Nat→Loc) (M:St):Prop where
 gU: ∀ u ∈ us,I u.1
 one: ∀ u ∈ us, ∀ u' ∈ us,u.1=u'.1→u=u'
 rb: ∀ μ bx,Agree us lam μ bx→ ∀ u ∈ us,RB P S w s μ bx (lam u.1) u.2
 lv: ∀ bx:Bx S.C, ∀ u ∈ us,bx u.1=some u.2→live S bx u.1
 aP: ∀ b o,M b o↔ ∃ u ∈ us,(lam u.1).aP b o
 eH: ∀ u ∈ us, ∀ u' ∈ us,u.1≠u'.1→ ∀ b o,(lam u.1).aP b o→(lam u'.1).aP b o→False
 ref: ∀ u ∈ us, ∀ vs,(u.2= .cells vs∨u.2= .cq vs)→ ∀ v ∈ vs, ∀ j ∈ aI S v, ∃ u' ∈ us,u'.1=j
theorem cQ.nil {w:World} {s:St} {I:Nat→Prop} {M:St} (h:j0 M) (lam:Nat→Loc):cQ P S w s I [] lam M:=
 ⟨by simp,by simp,by simp,by simp,fun b o=>⟨fun hm=>(h b o hm).elim,by simp⟩,by simp,by simp⟩
def both (us:aV S.C) (l1 l2:Nat→Loc):Nat→Loc:=fun i=>if i ∈ us.map (·.1) then l1 i else l2 i
theorem cQ.both {w:World} {s:St} {I1 I2:Nat→Prop} {eP p7:aV S.C} {l1 l2:Nat→Loc} {M M1 M2:St} (h1:cQ P S w s I1 eP l1 M1) (h2:cQ P S w s I2 p7 l2 M2)
 (hI: ∀ i,I1 i→I2 i→False) (hM:kF M M1 M2):cQ P S w s (fun i=>I1 i∨I2 i) (eP++p7) (both eP l1 l2) M∧
  (∀ μ bx,Agree (eP++p7) (Sy.both eP l1 l2) μ bx→Agree eP l1 μ bx∧Agree p7 l2 μ bx):=by
 have e1: ∀ u ∈ eP,Sy.both eP l1 l2 u.1=l1 u.1:=fun u hu=>if_pos (List.mem_map.2 ⟨u,hu,rfl⟩)
 have e2: ∀ u ∈ p7,Sy.both eP l1 l2 u.1=l2 u.1:=fun u hu=>if_neg fun hm=>by
  obtain ⟨u',bh,he⟩:=List.mem_map.1 hm
  exact hI u.1 (he▸h1.gU u' bh) (h2.gU u hu)
 have hag: ∀ μ bx,Agree (eP++p7) (Sy.both eP l1 l2) μ bx→Agree eP l1 μ bx∧Agree p7 l2 μ bx:=fun μ bx h=>
  ⟨fun u hu=>⟨(h u (by simp [hu])).1,(h u (by simp [hu])).2.trans (e1 u hu)⟩,fun u hu=>⟨(h u (by simp [hu])).1,(h u (by simp [hu])).2.trans (e2 u hu)⟩⟩
 refine ⟨⟨?_, ?_, ?_, ?_, ?_, ?_, ?_⟩,hag⟩
 · intro u hu
   rcases List.mem_append.1 hu with hu | hu
   · exact .inl (h1.gU u hu)
   · exact .inr (h2.gU u hu)
 · intro u hu u' bh he
   rcases List.mem_append.1 hu with hu | hu <;> rcases List.mem_append.1 bh with bh | bh
   · exact h1.one u hu u' bh he
   · exact (hI u.1 (h1.gU u hu) (he▸h2.gU u' bh)).elim
   · exact (hI u'.1 (h1.gU u' bh) (he▸h2.gU u hu)).elim
   · exact h2.one u hu u' bh he
 · intro μ bx ha u hu
   rcases List.mem_append.1 hu with hu | hu
   · rw [e1 u hu]; exact h1.rb μ bx (hag μ bx ha).1 u hu
   · rw [e2 u hu]; exact h2.rb μ bx (hag μ bx ha).2 u hu
 · intro bx u hu hb
   rcases List.mem_append.1 hu with hu | hu
   · exact h1.lv bx u hu hb
   · exact h2.lv bx u hu hb
 · intro b o
   rw [hM.1 b o,h1.aP,h2.aP]
   constructor
   · rintro (⟨u,hu,hf⟩ | ⟨u,hu,hf⟩)
     · exact ⟨u,by simp [hu],by rw [e1 u hu]; exact hf⟩
     · exact ⟨u,by simp [hu],by rw [e2 u hu]; exact hf⟩
   · rintro ⟨u,hu,hf⟩
     rcases List.mem_append.1 hu with hu | hu
     · rw [e1 u hu] at hf; exact .inl ⟨u,hu,hf⟩
     · rw [e2 u hu] at hf; exact .inr ⟨u,hu,hf⟩
 · intro u hu u' bh hne b o hf hf'
   rcases List.mem_append.1 hu with hu | hu <;> rcases List.mem_append.1 bh with bh | bh
   · rw [e1 u hu] at hf; rw [e1 u' bh] at hf'
     exact h1.eH u hu u' bh hne b o hf hf'
   · rw [e1 u hu] at hf; rw [e2 u' bh] at hf'
     exact hM.2 b o ((h1.aP b o).2 ⟨u,hu,hf⟩) ((h2.aP b o).2 ⟨u',bh,hf'⟩)
   · rw [e2 u hu] at hf; rw [e1 u' bh] at hf'
     exact hM.2 b o ((h1.aP b o).2 ⟨u',bh,hf'⟩) ((h2.aP b o).2 ⟨u,hu,hf⟩)
   · rw [e2 u hu] at hf; rw [e2 u' bh] at hf'
     exact h2.eH u hu u' bh hne b o hf hf'
 · intro u hu vs hvs v hv j hj
   rcases List.mem_append.1 hu with hu | hu
   · obtain ⟨u',bh,he⟩:=h1.ref u hu vs hvs v hv j hj
     exact ⟨u',by simp [bh],he⟩
   · obtain ⟨u',bh,he⟩:=h2.ref u hu vs hvs v hv j hj
     exact ⟨u',by simp [bh],he⟩
theorem cQ.weaken {w:World} {s:St} {I I':Nat→Prop} {us:aV S.C} {lam:Nat→Loc} {M:St} (h:cQ P S w s I us lam M) (hI: ∀ i,I i→I' i):cQ P S w s I' us lam M:=
 ⟨fun u hu=>hI _ (h.gU u hu),h.one,h.rb,h.lv,h.aP,h.eH,h.ref⟩
theorem Sl {w:World} {s:St} {n:Nat} (μ:Nat→Loc) (bx:Bx S.C): ∀ (ts:List Ty) (hts:ts.all (fun t=> !bR t)=true) (x:aA S.C ts) (cs:List Value),
 bY S (fun t x cs=>aN S w s n t x cs) ts x cs→aT P S w s μ bx (tX S ts x) cs∧(tX S ts x).all (cm S)=true∧ ∀ v ∈ tX S ts x,aI S v= []
 | [],_,x,cs,h=>⟨h,rfl,by simp [tX]⟩
 | t::ts,hts,x,cs,⟨c,r,hcs,h1,h2⟩=>by
  simp only [List.all_cons,Bool.and_eq_true,Bool.not_eq_true'] at hts
  obtain ⟨r1,r2,r3⟩:=Sl μ bx ts hts.2 _ _ h2
  have hc:isAgg c=false:=by
   cases n with
   | zero=>exact h1.elim
   | succ n=>cases t with
    | int k=>simp [aN] at h1; subst h1; rfl
    | bool=>simp [aN] at h1; subst h1; rfl
    | str=>simp [aN] at h1; subst h1; rfl
    | pt=>simp [aN] at h1; subst h1; rfl
    | sl e=>obtain ⟨a,cap,h,_⟩:=h1; simp at h; subst h; rfl
    | st u=>simp [bR] at hts
  refine ⟨⟨c,r,hcs,⟨by rw [hc,hts.1],n, ?_⟩,r1⟩, ?_, ?_⟩
  · rw [aN.nH (t:=t) (by rw [hc,hts.1]) hts.1]
    exact h1
  · simp only [tX,List.all_cons,Bool.and_eq_true]
    exact ⟨by cases t <;> first | rfl | simp [bR] at hts,r2⟩
  · intro v hv
    simp only [tX,List.mem_cons] at hv
    rcases hv with rfl | hv
    · rfl
    · exact r3 v hv
theorem oS (hS:dU S) {w:World} {s:St} {n:Nat} (μ:Nat→Loc) (bx:Bx S.C) {t:Ty} {x:t.den S.C} {cs:List Value} (h:aN S w s n t x cs):
 aT P S w s μ bx (kK S t x) cs∧(kK S t x).all (cm S)=true∧ ∀ v ∈ kK S t x,aI S v= []:=by
 have one:bR t=false→kK S t x= [.d t x]→aT P S w s μ bx (kK S t x) cs∧(kK S t x).all (cm S)=true∧ ∀ v ∈ kK S t x,aI S v= []:=by
  intro ht he
  rw [he]
  have hl:=h.length S
  rw [show Ty.sz S t=1 from by cases t <;> first | rfl | simp [bR] at ht] at hl
  obtain ⟨c,rfl⟩:=List.length_eq_one_iff.1 hl
  have hc:isAgg c=false:=by
   cases n with
   | zero=>exact h.elim
   | succ n=>cases t with
    | int k=>simp [aN] at h; subst h; rfl
    | bool=>simp [aN] at h; subst h; rfl
    | str=>simp [aN] at h; subst h; rfl
    | pt=>simp [aN] at h; subst h; rfl
    | sl e=>obtain ⟨a,cap,h,_⟩:=h; simp at h; subst h; rfl
    | st u=>simp [bR] at ht
  refine ⟨⟨c,[],rfl,⟨by rw [hc,ht],n, ?_⟩,rfl⟩, ?_, ?_⟩
  · rw [aN.nH (t:=t) (by rw [hc,ht]) ht]
    exact h
  · cases t <;> first | rfl | simp [bR] at ht
  · intro v hv
    simp at hv
    subst hv
    rfl
 cases t with
 | st u=>
  cases n with
  | zero=>exact h.elim
  | succ n=>exact Sl μ bx (S.F u) (hS.flat u) _ _ h
 | int k=>exact one rfl rfl
 | bool=>exact one rfl rfl
 | str=>exact one rfl rfl
 | pt=>exact one rfl rfl
 | sl e=>exact one rfl rfl
theorem DR (hS:dU S) {w:World} {s M:St} (id:Nat) {c:CK} {x:c.den S.C} {cs:List Value} (h:nB S w s M c x cs):
 id≤(cZ S id c x).2.2∧ ∃ lam,cQ P S w s (fun i=>id≤i∧i<(cZ S id c x).2.2) (cZ S id c x).2.1 lam M∧
  (cZ S id c x).1.all (cm S)=true∧(∀ v ∈ (cZ S id c x).1, ∀ j ∈ aI S v, ∃ u ∈ (cZ S id c x).2.1,u.1=j)∧
  ∀ μ bx,Agree (cZ S id c x).2.1 lam μ bx→aT P S w s μ bx (cZ S id c x).1 cs:=by
 cases c with
 | data t=>
  obtain ⟨hM,n,hn⟩:=h
  have ho:=fun μ bx=>oS (P:=P) hS μ bx hn
  refine ⟨Nat.le_refl _,fun _=>⟨0,0,0,0,true⟩,cQ.nil hM _,(ho (fun _=>⟨0,0,0,0,true⟩) (fun _=>none)).2.1, ?_,fun μ bx _=>(ho μ bx).1⟩
  intro v hv j hj
  rw [(ho (fun _=>⟨0,0,0,0,true⟩) (fun _=>none)).2.2 v hv] at hj
  simp at hj
 | bE e=>
  obtain ⟨a,cap,L,rfl,⟨n,hn⟩,AS,dB,hM⟩:=h
  refine ⟨Nat.le_succ _,fun _=>L,⟨?_, ?_, ?_, ?_, ?_, ?_, ?_⟩,rfl, ?_, ?_⟩
  · intro u hu; simp [cZ] at hu; subst hu; simp [cZ]
  · intro u hu u' bh _; simp [cZ] at hu bh; rw [hu,bh]
  · intro μ bx ha u hu; simp [cZ] at hu; subst hu; exact dB
  · intro bx u hu hb; simp [cZ] at hu; subst hu; unfold live; rw [hb]; trivial
  · intro b o; rw [hM]; simp [cZ]
  · intro u hu u' bh hne; simp [cZ] at hu bh; subst hu bh; exact absurd rfl hne
  · intro u hu vs hvs; simp [cZ] at hu; subst hu; rcases hvs with hvs | hvs <;> cases hvs
  · intro v hv j hj; simp [cZ] at hv; subst hv; simp [aI] at hj; subst hj; exact ⟨(j, .tail),by simp [cZ],rfl⟩
  · intro μ bx ha
    refine ⟨_,[],rfl,⟨⟨rfl,n,hn⟩,fun _=>⟨a,cap,rfl, ?_⟩⟩,rfl⟩
    rw [(ha (id, .tail) (by simp [cZ])).2]
    exact AS
 | aQ e=>
  obtain ⟨a,cap,L,rfl,hao,dB,hM,hel⟩:=h
  refine ⟨Nat.le_succ _,fun _=>L,⟨?_, ?_, ?_, ?_, ?_, ?_, ?_⟩,rfl, ?_, ?_⟩
  · intro u hu; simp [cZ] at hu; subst hu; simp [cZ]
  · intro u hu u' bh _; simp [cZ] at hu bh; rw [hu,bh]
  · intro μ bx ha u hu; simp [cZ] at hu; subst hu
    exact ⟨hao.cells,hao.isNil,by have :=hao.fits; have :=hao.mB; omega,dB,hel⟩
  · intro bx u hu hb; simp [cZ] at hu; subst hu; unfold live; rw [hb]; trivial
  · intro b o; rw [hM]; simp [cZ]
  · intro u hu u' bh hne; simp [cZ] at hu bh; subst hu bh; exact absurd rfl hne
  · intro u hu vs hvs; simp [cZ] at hu; subst hu; rcases hvs with hvs | hvs <;> cases hvs
  · intro v hv j hj; simp [cZ] at hv; subst hv; simp [aI] at hj; subst hj; exact ⟨(j, .arr e x),by simp [cZ],rfl⟩
  · intro μ bx ha
    refine ⟨_,[],rfl,⟨⟨_,_,_,rfl⟩,fun e' l' hb=> ?_⟩,rfl⟩
    obtain ⟨h1,h2⟩:=ha (id, .arr e x) (by simp [cZ])
    dsimp only at h1 h2
    rcases hb with hb | hb
    · rw [h1] at hb
      cases hb
      exact ⟨a,cap,rfl,by rw [h2]; exact hao⟩
    · rw [h1] at hb; cases hb
theorem IN (hS:dU S) {w:World} {s:St} : ∀ (cs:List CK) {M:St} (id:Nat) {x:bZ S.C cs} {vs:List Value},jG S w s M cs x vs→
 id≤(bS S id cs x).2.2∧ ∃ lam,cQ P S w s (fun i=>id≤i∧i<(bS S id cs x).2.2) (bS S id cs x).2.1 lam M∧
  (bS S id cs x).1.all (cm S)=true∧(∀ v ∈ (bS S id cs x).1, ∀ j ∈ aI S v, ∃ u ∈ (bS S id cs x).2.1,u.1=j)∧
  ∀ μ bx,Agree (bS S id cs x).2.1 lam μ bx→aT P S w s μ bx (bS S id cs x).1 vs
 | [],M,id,x,vs,h=>⟨Nat.le_refl _,fun _=>⟨0,0,0,0,true⟩,cQ.nil h.1 _,rfl,by simp [bS],fun _ _ _=>h.2⟩
 | c::cs,M,id,x,vs,⟨M1,M2,v1,v2,hM,hvs,_,h1,h2⟩=>by
  obtain ⟨A6,l1,g1,s1,r1,ri⟩:=DR (P:=P) hS id h1
  obtain ⟨ID,l2,g2,s2,r2,rj⟩:=IN hS cs (cZ S id c (bZ.head x)).2.2 h2
  obtain ⟨g,hag⟩:=cQ.both g1 g2 (fun i hi hi'=>by omega) hM
  refine ⟨Nat.le_trans A6 ID,_,g.weaken (fun i hi=> ?_), ?_, ?_, ?_⟩
  · show id≤i∧i<(bS S (cZ S id c (bZ.head x)).2.2 cs (bZ.tail x)).2.2
    rcases hi with hi | hi
    · exact ⟨hi.1,Nat.lt_of_lt_of_le hi.2 ID⟩
    · exact ⟨Nat.le_trans A6 hi.1,hi.2⟩
  · show ((cZ S id c (bZ.head x)).1++(bS S (cZ S id c (bZ.head x)).2.2 cs (bZ.tail x)).1).all (cm S)=true
    rw [List.all_append,s1,s2]; rfl
  · intro v hv j hj
    rcases List.mem_append.1 hv with hv | hv
    · obtain ⟨u,hu,he⟩:=r1 v hv j hj
      exact ⟨u,List.mem_append.2 (.inl hu),he⟩
    · obtain ⟨u,hu,he⟩:=r2 v hv j hj
      exact ⟨u,List.mem_append.2 (.inr hu),he⟩
  · intro μ bx ha
    obtain ⟨a1,a2⟩:=hag μ bx ha
    rw [hvs]
    exact aT.append P S (ri μ bx a1) (rj μ bx a2)
end
end Go.Sy
namespace Go.Sy
section
variable {P:Program} {S:bB}
theorem zx: ∀ (us:aV S.C) (bx:Bx S.C) {i:Nat},(∀ u ∈ us,u.1≠i)→aF bx us i=bx i
 | [],_,_,_=>rfl
 | u::us,bx,i,h=>(zx us _ fun u' bh=>h u' (by simp [bh])).trans (bM _ _ (Ne.symm (h u (by simp))))
theorem FQ: ∀ (us:aV S.C) (bx:Bx S.C),(∀ u ∈ us, ∀ u' ∈ us,u.1=u'.1→u=u')→ ∀ u ∈ us,aF bx us u.1=some u.2
 | [],_,_,_,h=>by simp at h
 | v::us,bx,h1,u,hu=>by
  by_cases e: ∃ u' ∈ us,u'.1=u.1
  · obtain ⟨u',bh,e⟩:=e
    have :u'=u:=h1 u' (by simp [bh]) u hu e
    subst this
    exact FQ us _ (fun a ha b hb=>h1 a (by simp [ha]) b (by simp [hb])) u' bh
  · rcases List.mem_cons.1 hu with rfl | hu
    · show aF (aD bx u.1 (some u.2)) us u.1=some u.2
      rw [zx us _ fun u' bh he=>e ⟨u',bh,he⟩,bq]
    · exact absurd ⟨u,hu,rfl⟩ e
theorem sF {v c:Value} (h:v.cells.toList= [c]) (ha:isAgg v=false):v=c:=by
 rw [aN.nH (t:= .bool) ha rfl] at h
 simpa using h
theorem vm (cs:List CK): ∀ (id:Nat) (x:bZ S.C cs) (n:Nat),(bS S id cs x).2.2+n=id+cs.foldl oneMore n:=by
 induction cs with
 | nil=>intro id x n; rfl
 | cons c cs ih=>
  intro id x n
  have :=ih (cZ S id c (bZ.head x)).2.2 (bZ.tail x)
  simp only [bS,List.foldl_cons]
  cases c with
  | data t=>exact this n
  | bE e=>have :=this (n+1); simp only [cZ,oneMore] at this ⊢; omega
  | aQ e=>have :=this (n+1); simp only [cZ,oneMore] at this ⊢; omega
theorem oG {w:World} {s:St} {μ:Nat→Loc} {bx:Bx S.C} {V:V S.C} {v:Value} (h:b6 P S w s μ bx V v):RV P S w s μ bx V v:=by
 cases V <;> first | exact h | exact (h:False).elim
theorem xJ (hS:dU S) {w:World} {s M:St} (id:Nat) {cs:List CK} {x:bZ S.C cs} {v:Value} (h:fq S w s M cs x v):
 ∃ lam,cQ P S w s (fun i=>id≤i∧i<(bS S (id+1) cs x).2.2) ((id, .cells (bS S (id+1) cs x).1)::(bS S (id+1) cs x).2.1) lam M∧
  id<(bS S (id+1) cs x).2.2∧
  ∀ μ bx,Agree ((id, .cells (bS S (id+1) cs x).1)::(bS S (id+1) cs x).2.1) lam μ bx→b6 P S w s μ bx (.ptr id 0) v:=by
 obtain ⟨b,o,ds,M',rfl,dB,eX,hM,hcs⟩:=h
 obtain ⟨le,l2,g2,s2,r2,rj⟩:=IN (P:=P) hS cs (id+1) hcs
 have hne: ∀ u ∈ (bS S (id+1) cs x).2.1,u.1≠id:=fun u hu e=>by have :=(g2.gU u hu).1; omega
 let lam:Nat→Loc:=fun i=>if i=id then ⟨b,o,ds.length,0,false⟩ else l2 i
 have e1:lam id=⟨b,o,ds.length,0,false⟩:=if_pos rfl
 have e2: ∀ u ∈ (bS S (id+1) cs x).2.1,lam u.1=l2 u.1:=fun u hu=>if_neg (hne u hu)
 have hag: ∀ μ bx,Agree ((id, .cells (bS S (id+1) cs x).1)::(bS S (id+1) cs x).2.1) lam μ bx→Agree (bS S (id+1) cs x).2.1 l2 μ bx:=
  fun μ bx h u hu=>⟨(h u (by simp [hu])).1,(h u (by simp [hu])).2.trans (e2 u hu)⟩
 refine ⟨lam,⟨?_, ?_, ?_, ?_, ?_, ?_, ?_⟩,by omega, ?_⟩
 · intro u hu
   rcases List.mem_cons.1 hu with rfl | hu
   · exact ⟨Nat.le_refl _,by show id<_; omega⟩
   · have :=g2.gU u hu; omega
 · intro u hu u' bh he
   rcases List.mem_cons.1 hu with rfl | hu <;> rcases List.mem_cons.1 bh with rfl | bh
   · rfl
   · exact absurd he.symm (hne u' bh)
   · exact absurd he (hne u hu)
   · exact g2.one u hu u' bh he
 · intro μ bx ha u hu
   rcases List.mem_cons.1 hu with rfl | hu
   · show RB P S w s μ bx (lam id) (.cells _)
     rw [e1]
     have hr:=rj μ bx (hag μ bx ha)
     exact ⟨s2,(aT.length P S hr),dB,ds,eX,hr⟩
   · rw [e2 u hu]
     exact g2.rb μ bx (hag μ bx ha) u hu
 · intro bx u hu hb
   rcases List.mem_cons.1 hu with rfl | hu
   · unfold live; rw [hb]; trivial
   · exact g2.lv bx u hu hb
 · intro b' o'
   rw [hM.1 b' o',g2.aP]
   constructor
   · rintro (h | ⟨u,hu,hf⟩)
     · refine ⟨_,List.mem_cons_self, ?_⟩
       show (lam id).aP b' o'
       rw [e1]; exact h
     · exact ⟨u,by simp [hu],by rw [e2 u hu]; exact hf⟩
   · rintro ⟨u,hu,hf⟩
     rcases List.mem_cons.1 hu with rfl | hu
     · have hf:(lam id).aP b' o':=hf
       rw [e1] at hf; exact .inl hf
     · rw [e2 u hu] at hf; exact .inr ⟨u,hu,hf⟩
 · intro u hu u' bh hn b' o' hf hf'
   rcases List.mem_cons.1 hu with rfl | hu <;> rcases List.mem_cons.1 bh with rfl | bh
   · exact hn rfl
   · have hf:(lam id).aP b' o':=hf
     rw [e1] at hf; rw [e2 u' bh] at hf'
     exact hM.2 b' o' hf ((g2.aP b' o').2 ⟨u',bh,hf'⟩)
   · have hf':(lam id).aP b' o':=hf'
     rw [e1] at hf'; rw [e2 u hu] at hf
     exact hM.2 b' o' hf' ((g2.aP b' o').2 ⟨u,hu,hf⟩)
   · rw [e2 u hu] at hf; rw [e2 u' bh] at hf'
     exact g2.eH u hu u' bh hn b' o' hf hf'
 · intro u hu vs hvs v hv j hj
   rcases List.mem_cons.1 hu with rfl | hu
   · rcases hvs with hvs | hvs
     · cases hvs
       obtain ⟨u',bh,he⟩:=r2 v hv j hj
       exact ⟨u',by simp [bh],he⟩
     · cases hvs
   · obtain ⟨u',bh,he⟩:=g2.ref u hu vs hvs v hv j hj
     exact ⟨u',by simp [bh],he⟩
 · intro μ bx ha
   have :=(ha (id, .cells (bS S (id+1) cs x).1) (by simp)).2
   dsimp only at this
   show _=_
   rw [this,e1]
   rfl
theorem GJ {w:World} {s M:St} (i j:Nat) (hne:j≠i) (L:Loc) (h0:L.o=0) (h2:L.n=2) {x:List UInt8} {v:Value} (hv:v= .pointer (some ⟨L.b,L.o,none⟩)) (h:CF S w M x v):
 ∃ lam,lam i=L∧cQ P S w s (fun k=>k=i∨k=j) [(i, .bH j),(j, .buf x)] lam M:=by
 obtain ⟨b,R,hb,hh,hr,hM⟩:=h
 rw [hb] at hv
 have hb':b=L.b:=by
  simp only [Value.pointer.injEq,Option.some.injEq,Addr.mk.injEq] at hv
  exact hv.1
 subst hb'
 let lam:Nat→Loc:=fun k=>if k=i then L else R
 have e1:lam i=L:=if_pos rfl
 have e2:lam j=R:=if_neg hne
 have fL: ∀ b' o',(Loc.mk L.b 0 2 0 false).aP b' o'↔L.aP b' o':=fun b' o'=>by
  unfold Loc.aP
  show b'=L.b∧0≤o'∧o'<0+2↔b'=L.b∧L.o≤o'∧o'<L.o+L.n
  rw [h0,h2]
 refine ⟨lam,e1,⟨?_, ?_, ?_, ?_, ?_, ?_, ?_⟩⟩
 · intro u hu
   simp only [List.mem_cons,List.not_mem_nil,or_false] at hu
   rcases hu with rfl | rfl
   · exact .inl rfl
   · exact .inr rfl
 · intro u hu u' bh he
   simp only [List.mem_cons,List.not_mem_nil,or_false] at hu bh
   rcases hu with rfl | rfl <;> rcases bh with rfl | rfl
   · rfl
   · exact absurd he.symm hne
   · exact absurd he hne
   · rfl
 · intro μ bx ha u hu
   have a1:=ha (i, .bH j) (by simp)
   have a2:=ha (j, .buf x) (by simp)
   simp only [List.mem_cons,List.not_mem_nil,or_false] at hu
   rcases hu with rfl | rfl
   · show RB P S w s μ bx (lam i) (.bH j)
     rw [e1]
     refine ⟨h0,h2,by rw [a2.1]; simp,_,hh,fun l hl=> ?_⟩
     rw [a2.1] at hl
     cases hl
     rw [a2.2,e2]
   · show RB P S w s μ bx (lam j) (.buf x)
     rw [e2]
     exact hr
 · intro bx u hu hb
   simp only [List.mem_cons,List.not_mem_nil,or_false] at hu
   rcases hu with rfl | rfl <;> · unfold live; rw [hb]; trivial
 · intro b' o'
   rw [hM.1 b' o',fL]
   constructor
   · rintro (h | h)
     · exact ⟨(i, .bH j),by simp,by show (lam i).aP b' o'; rw [e1]; exact h⟩
     · exact ⟨(j, .buf x),by simp,by show (lam j).aP b' o'; rw [e2]; exact h⟩
   · rintro ⟨u,hu,hf⟩
     simp only [List.mem_cons,List.not_mem_nil,or_false] at hu
     rcases hu with rfl | rfl
     · have hf:(lam i).aP b' o':=hf
       rw [e1] at hf; exact .inl hf
     · have hf:(lam j).aP b' o':=hf
       rw [e2] at hf; exact .inr hf
 · intro u hu u' bh hn b' o' hf hf'
   simp only [List.mem_cons,List.not_mem_nil,or_false] at hu bh
   rcases hu with rfl | rfl <;> rcases bh with rfl | rfl
   · exact hn rfl
   · have hf:(lam i).aP b' o':=hf
     have hf':(lam j).aP b' o':=hf'
     rw [e1] at hf; rw [e2] at hf'
     exact hM.2 b' o' ((fL _ _).2 hf) hf'
   · have hf':(lam i).aP b' o':=hf'
     have hf:(lam j).aP b' o':=hf
     rw [e1] at hf'; rw [e2] at hf
     exact hM.2 b' o' ((fL _ _).2 hf') hf
   · exact hn rfl
 · intro u hu vs hvs
   simp only [List.mem_cons,List.not_mem_nil,or_false] at hu
   rcases hu with rfl | rfl <;> rcases hvs with hvs | hvs <;> cases hvs
theorem WN (hS:dU S) {w:World} {s M:St} (id:Nat) {k:K} (hk:(match k with | .opt _=>false | _=>true)=true) {x:k.den S.C} {v:Value} (h:oE P S w s M k x v):
 ∃ lam,cQ P S w s (fun i=>id≤i∧i<id+qC k) (gk S id k x).2 lam M∧(∀ j ∈ aL S (gk S id k x).1, ∃ u ∈ (gk S id k x).2,u.1=j)∧
  ∀ μ bx,Agree (gk S id k x).2 lam μ bx→RV P S w s μ bx (gk S id k x).1 v:=by
 cases k with
 | val c=>
  obtain ⟨h1,h2⟩:=h
  obtain ⟨le,lam,g,s1,r1,rv⟩:=DR (P:=P) hS id h1
  cases c with
  | data t=>
   obtain ⟨hM,n,hn⟩:=h1
   exact ⟨fun _=>⟨0,0,0,0,true⟩,cQ.nil hM _,by simp [gk,aL,aI],fun μ bx _=>⟨h2,n,hn⟩⟩
  | bE e=>
   refine ⟨lam,g,fun j hj=>r1 (.bE id e x) (by simp [cZ]) j hj,fun μ bx ha=> ?_⟩
   obtain ⟨c,r,hc,hv,hr⟩:=rv μ bx ha
   cases hr
   rw [sF hc h2]
   exact oG hv
  | aQ e=>
   refine ⟨lam,g,fun j hj=>r1 (.aQ id) (by simp [cZ]) j hj,fun μ bx ha=> ?_⟩
   obtain ⟨c,r,hc,hv,hr⟩:=rv μ bx ha
   cases hr
   rw [sF hc h2]
   exact oG hv
 | obj cs=>
  obtain ⟨lam,g,le,rv⟩:=xJ (P:=P) hS id h
  refine ⟨lam,g.weaken fun i hi=> ?_,fun j hj=>⟨(id, .cells (bS S (id+1) cs x).1),by simp [gk],by simp [gk,aL,aI] at hj; exact hj.symm⟩,fun μ bx ha=>oG (rv μ bx ha)⟩
  have :=vm cs (id+1) x 0
  simp only [qC]
  omega
 | opt cs=>cases hk
 | cA t cs=>
  obtain ⟨b0,o0,p,M1,M2,hv,dL,hM,h1,h2⟩:=h
  obtain ⟨l1,g1,A6,ri⟩:=xJ (P:=P) hS id h1
  obtain ⟨l2,g2,ID,rj⟩:=xJ (P:=P) hS (id+1) h2
  have hz:=vm cs (id+1+1) x.2 0
  obtain ⟨g,hag⟩:=cQ.both g1 g2 (fun i q1 q2=>by
   have ZU:i<id+1:=q1.2
   omega) hM
  refine ⟨_,g.weaken fun i hi=> ?_,fun j hj=> ?_,fun μ bx ha=> ?_⟩
  · simp only [qC]
    rcases hi with hi | hi
    · have ZU:i<id+1:=hi.2
      omega
    · omega
  · have hj:j ∈ [id+1,id]:=hj
    simp only [List.mem_cons,List.not_mem_nil,or_false] at hj
    rcases hj with rfl | rfl
    · exact ⟨(id+1,_),List.mem_cons_of_mem _ (List.mem_cons_self),rfl⟩
    · exact ⟨(j,_),List.mem_cons_self,rfl⟩
  · obtain ⟨a1,a2⟩:=hag μ bx ha
    have e1:Value.pointer (some p)= .pointer (some ⟨(μ id).b,(μ id).o+0,none⟩):=ri μ bx a1
    have e2:Value.pointer (some ⟨b0,o0+1,none⟩)= .pointer (some ⟨(μ (id+1)).b,(μ (id+1)).o+0,none⟩):=rj μ bx a2
    cases e1
    simp only [Value.pointer.injEq,Option.some.injEq,Addr.mk.injEq] at e2
    exact ⟨b0,o0,hv,dL,e2.1.symm,by omega⟩
 | dm cs=>
  obtain ⟨p,hv,h⟩:=h
  obtain ⟨lam,g,le,rv⟩:=xJ (P:=P) hS id h
  refine ⟨lam,g.weaken fun i hi=> ?_,fun j hj=>⟨(id, .cells (bS S (id+1) cs x).1),by simp [gk],by simp [gk,aL,aI] at hj; exact hj.symm⟩,fun μ bx ha=>oG ?_⟩
  · have :=vm cs (id+1) x 0
    simp only [qC]
    omega
  · have :Value.pointer (some p)= .pointer (some ⟨(μ id).b,(μ id).o+0,none⟩):=rv μ bx ha
    show v= .slice (some ⟨(μ id).b,(μ id).o,none⟩) (CK.c_ S cs) (CK.c_ S cs)
    rw [hv]
    cases this
    rfl
 | err=>exact ⟨fun _=>⟨0,0,0,0,true⟩,cQ.nil h.1 _,by simp [gk,aL,aI],fun μ bx _=>h.2⟩
 | bH=>
  have h:CF S w M x v:=h
  obtain ⟨b,R,hb,_⟩:=Iff.mp Iff.rfl h
  obtain ⟨lam,e,g⟩:=GJ (P:=P) (s:=s) id (id+1) (by omega) ⟨b,0,2,0,false⟩ rfl rfl hb h
  refine ⟨lam,g.weaken fun i hi=> ?_,fun j hj=>⟨(id, .bH (id+1)),by simp [gk],by simp [gk,aL,aI] at hj; exact hj.symm⟩,fun μ bx ha=>oG ?_⟩
  · simp only [qC]; omega
  · have a1:=(ha (id, .bH (id+1)) (by simp [gk])).2
    show v= .pointer (some ⟨(μ id).b,(μ id).o+0,none⟩)
    rw [hb,show μ id=lam id from a1,e]
 | nil=>exact ⟨fun _=>⟨0,0,0,0,true⟩,cQ.nil h.1 _,by simp [gk,aL,aI],fun μ bx _=>h.2⟩
 | ro t=>exact ⟨fun _=>⟨0,0,0,0,true⟩,cQ.nil h.1 _,by simp [gk,aL,aI],fun μ bx _=>h.2⟩
 | fn a r=>exact ⟨fun _=>⟨0,0,0,0,true⟩,cQ.nil h.1 _,by simp [gk,aL,aI],fun μ bx _=>h.2⟩
def zN (a:Act):List Nat→List Value→Prop
 | [],vs=>vs= []
 | t::sl,vs=> ∃ v r,vs=v::r∧a.tmps.getD t Go.undef=v∧zN a sl r
theorem MG (hS:dU S) {w:World} {s:St} (a:Act): ∀ (ks:List K) (sl:List Nat) {M:St} {x:Ks S.C ks} {vs:List Value} (env:Env S.C),ni sl ks=true→cM P S w s M ks x vs→zN a sl vs→
 ∃ us lam,cQ P S w s (fun i=> ∃ t ∈ sl,16*t≤i∧i<16*t+16) us lam M∧(gP S ks sl x env).bx=aF env.bx us∧
  (∀ t,t ∉ sl→(gP S ks sl x env).tm t=env.tm t)∧
  ∀ t ∈ sl,(∀ j ∈ aL S ((gP S ks sl x env).tm t), ∃ u ∈ us,u.1=j)∧ ∀ μ bx,Agree us lam μ bx→RV P S w s μ bx ((gP S ks sl x env).tm t) (a.tmps.getD t Go.undef)
 | [],[],M,x,vs,env,_,h,_=>⟨[],fun _=>⟨0,0,0,0,true⟩,cQ.nil h.1 _,rfl,fun _ _=>rfl,by simp⟩
 | [],_::_,_,_,_,_,h,_,_=>by cases h
 | _::_,[],_,_,_,_,h,_,_=>by cases h
 | k::ks,t::sl,M,x,vs,env,hok,⟨M1,M2,v,r,hM,hvs,h1,h2⟩,⟨v',r',AX,ht,iU⟩=>by
  simp only [ni,Bool.and_eq_true,Bool.not_eq_true'] at hok
  obtain ⟨⟨⟨o1,o2⟩,o3⟩,o4⟩:=hok
  have ot:t ∉ sl:=by
   intro hm
   have :=List.contains_iff_mem.2 hm
   rw [o2] at this; cases this
  rw [hvs] at AX
  cases AX
  obtain ⟨l1,g1,r1,ri⟩:=WN (P:=P) hS (16*t) o3 h1
  obtain ⟨p7,l2,g2,hb,hto,Dy⟩:=MG hS a ks sl (env.apply (some t) (gk S (16*t) k (Ks.head x)).1 (gk S (16*t) k (Ks.head x)).2) o4 h2 iU
  obtain ⟨g,hag⟩:=cQ.both (g1.weaken (I':=fun i=>16*t≤i∧i<16*t+16) fun i hi=>⟨hi.1,by have :=Nat.le_of_ble_eq_true o1; omega⟩) g2 (fun i hi ⟨t',ht',h1,h2⟩=>ot (by
   have :t'=t:=by omega
   exact this▸ht')) hM
  refine ⟨_,_,g.weaken fun i hi=> ?_, ?_, ?_, ?_⟩
  · rcases hi with hi | ⟨t',ht',hi⟩
    · exact ⟨t,by simp,hi⟩
    · exact ⟨t',by simp [ht'],hi⟩
  · rw [kC]; exact hb
  · intro t' ht'
    have e1:=hto t' (fun h=>ht' (by simp [h]))
    rw [show (gP S (k::ks) (t::sl) x env).tm t'=_ from e1]
    exact bM _ _ (fun h=>ht' (by simp [h]))
  · intro t' ht'
    by_cases e:t'=t
    · subst e
      have e1:=hto t' ot
      rw [show (gP S (k::ks) (t'::sl) x env).tm t'=_ from e1]
      rw [show (env.apply (some t') (gk S (16*t') k (Ks.head x)).1 (gk S (16*t') k (Ks.head x)).2).tm t'=(gk S (16*t') k (Ks.head x)).1 from bq _ _ _]
      refine ⟨fun j hj=> ?_,fun μ bx ha=> ?_⟩
      · obtain ⟨u,hu,he⟩:=r1 j hj
        exact ⟨u,List.mem_append.2 (.inl hu),he⟩
      · rw [ht]; exact ri μ bx (hag μ bx ha).1
    · have X8:t' ∈ sl:=by rcases List.mem_cons.1 ht' with h | h; exact absurd h e; exact h
      obtain ⟨h1,h2⟩:=Dy t' X8
      refine ⟨fun j hj=> ?_,fun μ bx ha=>h2 μ bx (hag μ bx ha).2⟩
      obtain ⟨u,hu,he⟩:=h1 j hj
      exact ⟨u,List.mem_append.2 (.inr hu),he⟩
theorem MF: ∀ (ks:List K) (sl:List Nat) (x:Ks S.C ks) (env:Env S.C),(gP S ks sl x env).df=env.df
 | [],_,_,_=>rfl
 | _::_,[],_,_=>rfl
 | k::r,t::sl,x,env=>MF r sl (Ks.tail x) _
theorem MH (hS:dU S) {w0:World} {M0 s0:St} {dq:List Deferred} {w:World} {s M:St} {a:Act} {ks:List K} {sl:List Nat} {x:Ks S.C ks} {vs:List Value}
 (hok:ni sl ks=true) (h:cM P S w s M ks x vs) (iU:zN a sl vs) (hs: ∀ b o,s b o→b<w.heap.size∧(s0 b o∨M0 b o∨w0.heap.size≤b)∧ ¬ M b o)
 (hM: ∀ b o,M b o→w0.heap.size≤b∨M0 b o) (hc:bI w0 w M0) {df:Bool} (hd:a.defers=cond df dq []) (hG:kD S w0 M0): ∃ μ,Inv P S w0 M0 s0 dq (gP S ks sl x (Env.none S df)) a w μ:=by
 obtain ⟨us,lam,g,hb,hto,Dy⟩:=MG (P:=P) hS a ks sl (Env.none S df) hok h iU
 have hin: ∀ i B,(gP S ks sl x (Env.none S df)).bx i=some B→(i,B) ∈ us:=by
  intro i B hi
  rw [hb] at hi
  by_cases e: ∃ u ∈ us,u.1=i
  · obtain ⟨u,hu,rfl⟩:=e
    rw [FQ us _ g.one u hu] at hi
    cases hi
    exact hu
  · rw [zx us _ fun u hu he=>e ⟨u,hu,he⟩] at hi
    cases hi
 have hag:Agree us lam lam (gP S ks sl x (Env.none S df)).bx:=fun u hu=>⟨by rw [hb]; exact FQ us _ g.one u hu,rfl⟩
 have cG: ∀ i,live S (gP S ks sl x (Env.none S df)).bx i→ ∃ u ∈ us,u.1=i:=by
  intro i hi
  unfold live at hi
  cases e:(gP S ks sl x (Env.none S df)).bx i with
  | none=>rw [e] at hi; exact hi.elim
  | some B=>exact ⟨(i,B),hin i B e,rfl⟩
 have hl:cy w s w (aR S w0 M0 s0 (gP S ks sl x (Env.none S df)).bx lam w):=fun b o X6=>by
  obtain ⟨h1,h2,h3⟩:=hs b o X6
  refine ⟨⟨h1,h2,fun i hi hf=> ?_⟩,rfl⟩
  obtain ⟨u,hu,rfl⟩:=cG i hi
  exact h3 ((g.aP b o).2 ⟨u,hu,hf⟩)
 have dA: ∀ i B0,(gP S ks sl x (Env.none S df)).bx i=some B0→ ∃ B,(gP S ks sl x (Env.none S df)).bx i=some B∧dJ S (lam i) (lam i) B0 B:=fun i B hi=>⟨B,hi,dJ.refl S _ _⟩
 have xA: ∀ j,(∃ u ∈ us,u.1=j)→(gP S ks sl x (Env.none S df)).bx j≠none:=by
  rintro j ⟨u,hu,rfl⟩
  rw [(hag u hu).1]; simp
 refine ⟨lam,⟨fun t=> ?_,fun i B hi=> ?_,fun i j hij li lj b o fi fj=> ?_,fun i li b o fi=> ?_,fun t i hi=> ?_,fun i vs' hvs v hv j hj=> ?_,hc,by rw [MF]; exact hd,hG⟩⟩
 · by_cases ht:t ∈ sl
   · obtain ⟨h1,h2⟩:=Dy t ht
     exact RV.step P S hl dA (fun i hi=>xA i (h1 i hi)) (h2 lam _ hag)
   · rw [hto t ht]; trivial
 · have hu:=hin i B hi
   have hr:=g.rb lam _ hag (i,B) hu
   cases B with
   | cells vs'=>
    obtain ⟨h1,h2,h3,cs,h4,h5⟩:=hr
    exact ⟨h1,h2,h3,cs,h4,aT.step P S hl dA (fun v hv j hj=>xA j (g.ref _ hu vs' (.inl rfl) v hv j hj)) h5⟩
   | cq vs'=>
    obtain ⟨h1,cs,h4,h5⟩:=hr
    exact ⟨h1,cs,h4.later hl,aT.step P S hl dA (fun v hv j hj=>xA j (g.ref _ hu vs' (.inr rfl) v hv j hj)) h5⟩
   | arr e l=>
    obtain ⟨h1,h2,h3,h4,h5⟩:=hr
    refine ⟨h1,h2,h3,h4,fun k y hk=> ?_⟩
    obtain ⟨ds,d1,d2,n,d3⟩:=h5 k y hk
    exact ⟨ds,d1,d2,n,d3.mono S hl (Nat.le_refl _)⟩
   | b8 e l=>
    obtain ⟨h2,h3,h5⟩:=hr
    refine ⟨h2,h3,fun k y hk=> ?_⟩
    obtain ⟨ds,d1,d2,n,d3⟩:=h5 k y hk
    exact ⟨ds,d1,d2.later hl,n,d3.mono S hl (Nat.le_refl _)⟩
   | tail=>exact hr
   | dead=>trivial
   | bH j=>exact hr
   | buf l=>exact hr
 · obtain ⟨u,hu,rfl⟩:=cG i li
   obtain ⟨u',bh,rfl⟩:=cG j lj
   exact g.eH u hu u' bh hij b o fi fj
 · obtain ⟨u,hu,rfl⟩:=cG i li
   exact hM b o ((g.aP b o).2 ⟨u,hu,fi⟩)
 · by_cases ht:t ∈ sl
   · exact xA i ((Dy t ht).1 i hi)
   · rw [hto t ht] at hi
     simp [Env.none,aL,aI] at hi
 · rcases hvs with hvs | hvs
   · exact xA j (g.ref _ (hin i _ hvs) vs' (.inl rfl) v hv j hj)
   · exact xA j (g.ref _ (hin i _ hvs) vs' (.inr rfl) v hv j hj)
end
end Go.Sy
namespace Go.Sy
def Tr.leaf {X:Type} :Tr X→X→Prop
 | .fail,_=>False
 | .ret y,x=>y=x
 | .ite p _ a b,x=>(p∧a.leaf x)∨(¬ p∧b.leaf x)
 | .bind _ m f,x=> ∃ y,m=some y∧(f y).leaf x
 | .opt _ m n s,x=>(m=none∧n.leaf x)∨ ∃ y,m=some y∧(s y).leaf x
theorem Tr.wD {X R:Type} : ∀ (t:Tr X) {k:X→Option R} {r:R},t.run k=some r→ ∃ x,t.leaf x∧k x=some r
 | .fail,_,_,h=>by cases h
 | .ret x,_,_,h=>⟨x,rfl,h⟩
 | .ite p i a b,k,r,h=>by
  by_cases hp:p
  · rw [Tr.run,if_pos hp] at h
    obtain ⟨x,h1,h2⟩:=Tr.wD a h
    exact ⟨x, .inl ⟨hp,h1⟩,h2⟩
  · rw [Tr.run,if_neg hp] at h
    obtain ⟨x,h1,h2⟩:=Tr.wD b h
    exact ⟨x, .inr ⟨hp,h1⟩,h2⟩
 | .bind _ m f,k,r,h=>by
  obtain ⟨y,hy,h⟩:=Option.bind_eq_some_iff.1 h
  obtain ⟨x,h1,h2⟩:=Tr.wD (f y) h
  exact ⟨x,⟨y,hy,h1⟩,h2⟩
 | .opt _ m n s,k,r,h=>by
  cases m with
  | none=>
   obtain ⟨x,h1,h2⟩:=Tr.wD n h
   exact ⟨x, .inl ⟨rfl,h1⟩,h2⟩
  | some y=>
   obtain ⟨x,h1,h2⟩:=Tr.wD (s y) h
   exact ⟨x, .inr ⟨y,rfl,h1⟩,h2⟩
theorem Tr.IE {X:Type} : ∀ (gs:List Gd) {t:Tr X} {x:X},(Tr.gd gs t).leaf x→(∀ g ∈ gs,g.p)∧t.leaf x
 | [],_,_,h=>⟨by simp,h⟩
 | g::gs,t,x,h=>by
  rcases h with ⟨h1,h2⟩ | ⟨_,h2⟩
  · obtain ⟨h3,h4⟩:=Tr.IE gs h2
    exact ⟨fun g' hg=>(List.mem_cons.1 hg).elim (fun e=>e▸h1) (h3 g'),h4⟩
  · exact h2.elim
section
variable {P:Program} {S:bB}
variable {w0:World} {M0 s0:St} {dq:List Deferred} {env:Env S.C} {a:Act} {w:World} {μ:Nat→Loc}
theorem Inv.tk (h:Inv P S w0 M0 s0 dq env a w μ) {aq:Bx S.C} (hk:Tk S env.bx aq):Inv P S w0 M0 s0 dq { env with bx:=aq } a w μ:=by
 have hf: ∀ i, ¬ aq i=env.bx i→live S aq i→False:=fun i hi hl=>hi (hk.eY hl)
 refine h.step (T:=fun _ _=>False) (U:=fun i=> ¬ aq i=env.bx i) (bI.refl w _) (fun _ _ h=>h.elim) (fun i hi=>⟨Classical.not_not.1 hi,rfl⟩)
  (fun i hi hl=>(hf i hi hl).elim) (fun i B0 cg=> ?_) (fun i _ hi _ _ hl=>(hf i hi hl).elim) (fun i B hi hB=> ?_) (fun i vs hi hvs=> ?_)
 · rcases hk i with e | ⟨e,hl⟩ | ⟨e,l,e1,e2⟩
   · exact ⟨B0,e.trans cg,dJ.refl S _ _⟩
   · refine ⟨_,e, ?_⟩
     cases B0 <;> rfl
   · rw [cg] at e1
     cases e1
     exact ⟨_,e2,rfl,rfl,rfl⟩
 · rcases hk i with e | ⟨e,_⟩ | ⟨e,l,e1,e2⟩
   · exact absurd e hi
   · rw [e] at hB; cases hB; trivial
   · rw [e2] at hB
     cases hB
     have cG:live S env.bx i:=by unfold live; rw [e1]; trivial
     obtain ⟨g1,g2,g3,g4,h3⟩:=h.cB i _ e1
     have hl:cy w (aR S w0 M0 s0 env.bx μ w) w (aR S w0 M0 s0 aq μ w):=h.later (T:=fun _ _=>False) (U:=fun i=> ¬ aq i=env.bx i) (bI.refl w _) (fun _ _ h=>h.elim) (fun i hi=>⟨Classical.not_not.1 hi,rfl⟩)
      (fun i hi hl=>(hf i hi hl).elim)
     refine ⟨g2,g3,fun k x AH=> ?_⟩
     obtain ⟨ds,d1,d2,n,d3⟩:=h3 k x AH
     refine ⟨ds,d1,fun j u hj=>⟨d2 j u hj, ?_⟩,n,d3.mono S hl (Nat.le_refl _)⟩
     have hj':=(List.getElem?_eq_some_iff.1 hj).1
     have xz:=(List.getElem?_eq_some_iff.1 AH).1
     have jN:(μ i).aP (μ i).b ((μ i).o+k*Ty.sz S e+j):=by
      refine ⟨rfl,by omega, ?_⟩
      have :(k+1)*Ty.sz S e≤(μ i).cap*Ty.sz S e:=Nat.mul_le_mul_right _ (by omega)
      rw [Nat.add_mul,Nat.one_mul] at this
      omega
     refine ⟨(nV P S (h.cB i) cG jN).1,(h.own i cG _ _ jN).elim (fun h=> .inr (.inr h)) (fun h=> .inr (.inl h)),fun j AG hf'=> ?_⟩
     have hj0:=(fC S (hk.eY AG)).1 AG
     refine h.eH j i (fun e'=> ?_) hj0 cG _ _ hf' jN
     subst e'
     unfold live at AG
     rw [e2] at AG
     exact AG
 · rcases hk i with e | ⟨e,_⟩ | ⟨e,l,e1,e2⟩
   · exact absurd e hi
   · rcases hvs with hvs | hvs <;> · rw [e] at hvs; cases hvs
   · rcases hvs with hvs | hvs <;> · rw [e2] at hvs; cases hvs
theorem Inv.IQ (h:Inv P S w0 M0 s0 dq env a w μ) {w':World} (hw:bI w w' (fun _ _=>False)) {i:Nat} (hi:env.bx i=none) {B:eW S.C} {L:Loc}
 (hf: ∀ b o,L.aP b o→w.heap.size≤b)
 (hb:cy w (aR S w0 M0 s0 env.bx μ w) w' (aR S w0 M0 s0 (aD env.bx i (some B)) (aD μ i L) w')→
  (∀ V v,RV P S w (aR S w0 M0 s0 env.bx μ w) μ env.bx V v→(∀ j ∈ aL S V,env.bx j≠none)→RV P S w' (aR S w0 M0 s0 (aD env.bx i (some B)) (aD μ i L) w') (aD μ i L) (aD env.bx i (some B)) V v)→
  (∀ V v,b6 P S w (aR S w0 M0 s0 env.bx μ w) μ env.bx V v→(∀ j ∈ aI S V,env.bx j≠none)→b6 P S w' (aR S w0 M0 s0 (aD env.bx i (some B)) (aD μ i L) w') (aD μ i L) (aD env.bx i (some B)) V v)→
  RB P S w' (aR S w0 M0 s0 (aD env.bx i (some B)) (aD μ i L) w') (aD μ i L) (aD env.bx i (some B)) L B)
 (hr: ∀ vs,(B= .cells vs∨B= .cq vs)→ ∀ v ∈ vs, ∀ j ∈ aI S v,env.bx j≠none):
 Inv P S w0 M0 s0 dq { env with bx:=aD env.bx i (some B) } a w' (aD μ i L)∧
  cy w (aR S w0 M0 s0 env.bx μ w) w' (aR S w0 M0 s0 (aD env.bx i (some B)) (aD μ i L) w')∧
  (∀ V v,RV P S w (aR S w0 M0 s0 env.bx μ w) μ env.bx V v→(∀ j ∈ aL S V,env.bx j≠none)→RV P S w' (aR S w0 M0 s0 (aD env.bx i (some B)) (aD μ i L) w') (aD μ i L) (aD env.bx i (some B)) V v):=by
 have hU: ∀ j, ¬ j=i→aD env.bx i (some B) j=env.bx j∧aD μ i L j=μ j:=fun j hj=>⟨bM _ _ hj,bM _ _ hj⟩
 have NO: ∀ j,j=i→live S (aD env.bx i (some B)) j→ ∀ b o,(aD μ i L j).aP b o→w.heap.size≤b∨ ∃ k,k=i∧live S env.bx k∧(μ k).aP b o:=by
  rintro j rfl _ b o hfo
  rw [bq] at hfo
  exact .inl (hf b o hfo)
 have hc: ∀ j B0,env.bx j=some B0→ ∃ B',aD env.bx i (some B) j=some B'∧dJ S (μ j) (aD μ i L j) B0 B':=by
  intro j B0 hj
  have :j≠i:=fun e=>by subst e; rw [hi] at hj; cases hj
  rw [bM _ _ this,bM _ _ this]
  exact ⟨B0,hj,dJ.refl S _ _⟩
 have hl:=h.later (T:=fun _ _=>False) (U:=fun j=>j=i) hw (fun _ _ h=>h.elim) hU NO
 have qw:=fun V v (hv:RV P S w (aR S w0 M0 s0 env.bx μ w) μ env.bx V v) hr=>RV.step P S hl hc hr hv
 have W2:=fun V v (hv:b6 P S w (aR S w0 M0 s0 env.bx μ w) μ env.bx V v) hr=>b6.step P S hl hc hr hv
 refine ⟨h.step (T:=fun _ _=>False) (U:=fun j=>j=i) hw (fun _ _ h=>h.elim) hU NO hc ?_ ?_ ?_,hl,qw⟩
 · rintro j k rfl rfl hne; exact absurd rfl hne
 · rintro j B' rfl jk
   rw [bq] at jk
   cases jk
   rw [bq]
   exact hb hl qw W2
 · rintro j vs rfl hvs v hv k hk
   rw [bq] at hvs
   have h0:=hr vs (by rcases hvs with hvs | hvs <;> · cases hvs; simp) v hv k hk
   obtain ⟨B0,cg⟩:=Option.ne_none_iff_exists'.1 h0
   obtain ⟨B',jk,_⟩:=hc k B0 cg
   rw [jk]; simp
theorem bU (h:Inv P S w0 M0 s0 dq env a w μ) {x:Operand} {V:V S.C} (hx:bn S env.tm x=some V):
 RV P S w (aR S w0 M0 s0 env.bx μ w) μ env.bx V (a.eval x)∧ ∀ i ∈ aL S V,env.bx i≠none:=by
 cases x with
 | tmp t=>cases hx; exact ⟨h.k9 t,h.ref t⟩
 | const v=>
  simp only [bn,Mo] at hx
  split at hx <;> cases hx
  · exact ⟨⟨rfl,1,rfl⟩,by simp [aL,aI]⟩
  · exact ⟨⟨rfl,1,rfl⟩,by simp [aL,aI]⟩
  · rename_i s
    refine ⟨⟨rfl,1, ?_⟩,by simp [aL,aI]⟩
    show [Value.string s]= [Value.string ⟨s.data.toList.toArray⟩]
    cases s; simp
  · exact ⟨rfl,by simp [aL,aI]⟩
  · exact ⟨rfl,by simp [aL,aI]⟩
 | func f=>cases hx; exact ⟨⟨#[],rfl,rfl⟩,by simp [aL]⟩
 | global g=>cases hx
theorem wp_pure (h:Inv P S w0 M0 s0 dq env a w μ) {o:Oper} {K:Act→World→Prop} {Q:Exit→Act→World→Prop} {V:V S.C} {v:Value}
 (hrun:(execOp a.eval o).run P w= .ok (.value v) w) (hd: ∀ d,o.dst=some d→d<a.tmps.size)
 (hv:RV P S w (aR S w0 M0 s0 env.bx μ w) μ env.bx V v) (hr: ∀ i ∈ aL S V,env.bx i≠none)
 (hK: ∀ a' w' μ',Inv P S w0 M0 s0 dq (env.apply o.dst V []) a' w' μ'→a'.tmps.size=a.tmps.size→K a' w'):o.wp P a w K Q:=by
 unfold Oper.wp
 rw [hrun]
 refine hK _ w μ (h.put hd hv hr) ?_
 cases o.dst <;> simp [Act.put]
theorem afP (h:Inv P S w0 M0 s0 dq env a w μ) {o:Oper} {K:Act→World→Prop} {Q:Exit→Act→World→Prop} {V:V S.C} {v:Value} {us:aV S.C}
 (hrun:(execOp a.eval o).run P w= .ok (.value v) w) (hd: ∀ d,o.dst=some d→d<a.tmps.size) (hk:Tk S env.bx (aF env.bx us))
 (hv:Inv P S w0 M0 s0 dq { env with bx:=aF env.bx us } a w μ→RV P S w (aR S w0 M0 s0 (aF env.bx us) μ w) μ (aF env.bx us) V v) (hr: ∀ i ∈ aL S V,aF env.bx us i≠none)
 (hK: ∀ a' w' μ',Inv P S w0 M0 s0 dq (env.apply o.dst V us) a' w' μ'→a'.tmps.size=a.tmps.size→K a' w'):o.wp P a w K Q:=by
 unfold Oper.wp
 rw [hrun]
 have hI:=h.tk hk
 refine hK _ w μ (hI.put hd (hv hI) hr) ?_
 cases o.dst <;> simp [Act.put]
theorem R8 {aq:Bx S.C} (hk:Tk S env.bx aq):cy w (aR S w0 M0 s0 env.bx μ w) w (aR S w0 M0 s0 aq μ w):=fun b o ⟨h1,h2,h3⟩=>
 ⟨⟨h1,h2,fun i hi=>h3 i ((fC S (hk.eY hi)).1 hi)⟩,rfl⟩
theorem t_ (h:Inv P S w0 M0 s0 dq env a w μ) {o:Oper} {K:Act→World→Prop} {Q:Exit→Act→World→Prop} {w':World} {V:V S.C} {v:Value} {i:Nat} {B:eW S.C} {L:Loc}
 (hrun:(execOp a.eval o).run P w= .ok (.value v) w') (hd: ∀ d,o.dst=some d→d<a.tmps.size) (hw:bI w w' (fun _ _=>False)) (hi:env.bx i=none)
 (hf: ∀ b o,L.aP b o→w.heap.size≤b)
 (hb:cy w (aR S w0 M0 s0 env.bx μ w) w' (aR S w0 M0 s0 (aD env.bx i (some B)) (aD μ i L) w')→
  (∀ V v,RV P S w (aR S w0 M0 s0 env.bx μ w) μ env.bx V v→(∀ j ∈ aL S V,env.bx j≠none)→RV P S w' (aR S w0 M0 s0 (aD env.bx i (some B)) (aD μ i L) w') (aD μ i L) (aD env.bx i (some B)) V v)→
  (∀ V v,b6 P S w (aR S w0 M0 s0 env.bx μ w) μ env.bx V v→(∀ j ∈ aI S V,env.bx j≠none)→b6 P S w' (aR S w0 M0 s0 (aD env.bx i (some B)) (aD μ i L) w') (aD μ i L) (aD env.bx i (some B)) V v)→
  RB P S w' (aR S w0 M0 s0 (aD env.bx i (some B)) (aD μ i L) w') (aD μ i L) (aD env.bx i (some B)) L B∧
  RV P S w' (aR S w0 M0 s0 (aD env.bx i (some B)) (aD μ i L) w') (aD μ i L) (aD env.bx i (some B)) V v)
 (hr: ∀ vs,(B= .cells vs∨B= .cq vs)→ ∀ v ∈ vs, ∀ j ∈ aI S v,env.bx j≠none) (hV: ∀ j ∈ aL S V,j=i∨env.bx j≠none)
 (hK: ∀ a' w' μ',Inv P S w0 M0 s0 dq (env.apply o.dst V [(i,B)]) a' w' μ'→a'.tmps.size=a.tmps.size→K a' w'):o.wp P a w K Q:=by
 unfold Oper.wp
 rw [hrun]
 have AY:RV P S w' (aR S w0 M0 s0 (aD env.bx i (some B)) (aD μ i L) w') (aD μ i L) (aD env.bx i (some B)) V v:=by
  obtain ⟨_,hl,qw⟩:=h.IQ hw hi hf (fun h1 h2 h3=>(hb h1 h2 h3).1) hr
  refine (hb hl qw (fun V v hv hr=> ?_)).2
  refine b6.step P S hl (fun j B0 hj=> ?_) hr hv
  have :j≠i:=fun e=>by subst e; rw [hi] at hj; cases hj
  rw [bM _ _ this,bM _ _ this]
  exact ⟨B0,hj,dJ.refl S _ _⟩
 obtain ⟨hI,_,_⟩:=h.IQ hw hi hf (fun h1 h2 h3=>(hb h1 h2 h3).1) hr
 refine hK _ w' _ (hI.put hd AY fun j hj=> ?_) ?_
 · rcases hV j hj with rfl | hj
   · show aD env.bx j (some B) j≠none
     rw [bq]; simp
   · by_cases e:j=i
     · subst e; exact absurd hi hj
     · show aD env.bx i (some B) j≠none
       rw [bM _ _ e]; exact hj
 · cases o.dst <;> simp [Act.put]
end
end Go.Sy
namespace Go.Sy
section
variable (P:Program) (S:bB) (ay:Nat→Nat)
def zA:Ty→Value
 | .int k=> .int k 0
 | .bool=> .bool false
 | .str=> .string ⟨#[]⟩
 | .sl _=> .slice none 0 0
 | .pt=> .pointer none
 | .st _=> .bool false
def wL:Ty→List Value
 | .st u=>(S.F u).map zA
 | t=> [zA t]
def uf:(ts:List Ty)→aA S.C ts
 | []=>()
 | t::ts=>aA.cons (Ty.zero S t) (uf ts)
def cc (t:Nat) (T:Ty):Prop:=
 (∃ i z,P.info? t=some i∧i.size=Ty.sz S T∧i.zero=some z∧isAgg z=bR T∧z.cells.toList=wL S T)∧
 match T with
 | .int k=>P.underlying t=some (.int k)
 | .bool=>P.underlying t=some .bool
 | .str=>P.underlying t=some .string
 | .pt=> ∃ e,P.underlying t=some (.pointer e)
 | .sl e=> ∃ te ie,P.underlying t=some (.slice te)∧S.ty te=some e∧P.info? te=some ie∧ie.bytes=ay t∧1≤ay t
 | .st u=>(S.ex u (S.z u)=uf S (S.F u)∧(P.built t []).isSome=true)∧match S.ar t with
  | none=> ∃ fs,P.underlying t=some (.struct fs)∧
   ∀ f o T',S.fP u f=some (o,T')→ ∃ fd,fs[f]? =some fd∧fd.offset=o∧S.ty fd.type=some T'∧1≤Ty.sz S T'∧o+Ty.sz S T'≤(S.F u).length
  | some (n,e)=> ∃ te,P.underlying t=some (.array n te)∧S.ty te=some e∧((Ty.sz S e=1∧bR e=false∧S.F u=List.replicate n e)∨ ∃ w,e= .st w∧S.F u=(List.replicate n (S.F w)).flatten)∧ ∀ f o T',S.fP u f=some (o,T')→o=f*Ty.sz S e∧T'=e∧f<n
def zE (S:bB):List Field→List Ty→Nat→Prop
 | [],[],_=>True
 | fd::fs,T::ts,i=>fd.offset=i∧fd.name≠ "_" ∧S.ty fd.type=some T∧(match T with | .int _=>True | .bool=>True | .str=>True | _=>False)∧zE S fs ts (i+1)
 | _,_,_=>False
def zF (P:Program) (S:bB):List Field→List Ty→Nat→Prop
 | [],ts,_=>ts= []
 | fd::fs,ts,i=>fd.offset=i∧fd.name≠ "_" ∧
  ((∃ T r,ts=T::r∧S.ty fd.type=some T∧(match T with | .int _=>True | .bool=>True | .str=>True | _=>False)∧zF P S fs r (i+1))∨
   ∃ v r gs,ts=S.F v++r∧S.ty fd.type=some (.st v)∧P.underlying fd.type=some (.struct gs)∧P.stoodInHeld fd.type=false∧1≤(S.F v).length∧zE S gs.toList (S.F v) 0∧zF P S fs r (i+(S.F v).length))
def EqAt (P:Program) (S:bB) (t:Nat):Prop:=
 ∃ u,S.ty t=some (.st u)∧(∃ fs,P.underlying t=some (.struct fs)∧zF P S fs.toList (S.F u) 0)∧P.stoodInHeld t=false∧P.eqGuardType P.depth t=false
structure bA:Prop extends dU S where
 ty: ∀ t T,S.ty t=some T→cc P S ay t T
 pt: ∀ t,S.pt t=true→ ∃ e,P.underlying t=some (.pointer e)
 eq: ∀ t,S.eq t=true→EqAt P S t
 sQ: ∀ t,S.sQ t=true→ ∃ ms,P.underlying t=some (.interface ms)
 bt: ∀ p,S.bt=some p→p.1≠p.2∧ ∃ i z,P.info? p.1=some i∧i.zero=some z∧z.cells= #[.pointer none, .slice none 0 0]
variable {P S ay}
theorem bA.agg (h:bA P S ay) {t:Nat} {T:Ty} (ht:S.ty t=some T) (w:World):(Go.isAgg t).run P w= .ok (bR T) w:=by
 obtain ⟨_,h2⟩:=h.ty t T ht
 unfold Go.isAgg
 cases T with
 | int k=>simp [run_underlying h2,bR]
 | bool=>simp [run_underlying h2,bR]
 | str=>simp [run_underlying h2,bR]
 | pt=>obtain ⟨e,h2⟩:=h2; simp [run_underlying h2,bR]
 | sl e=>obtain ⟨te,ie,hu,_⟩:=h2; simp [run_underlying hu,bR]
 | st u=>
  obtain ⟨_,h2⟩:=h2
  cases ha:S.ar t with
  | none=>rw [ha] at h2; obtain ⟨fs,hu,_⟩:=h2; simp [run_underlying hu,bR]
  | some p=>rw [ha] at h2; obtain ⟨te,hu,_⟩:=h2; simp [run_underlying hu,bR]
theorem bA.size (h:bA P S ay) {t:Nat} {T:Ty} (ht:S.ty t=some T) (w:World):(Go.sizeOf t).run P w= .ok (Ty.sz S T) w:=by
 obtain ⟨⟨i,z,h1,h2,_⟩,_⟩:=h.ty t T ht
 simp [Go.sizeOf,typeInfo,h1,h2]
theorem bA.Sx (h:bA P S ay) {t:Nat} {T:Ty} (ht:S.ty t=some T): ∃ d,P.underlying t=some d:=by
 obtain ⟨_,h2⟩:=h.ty t T ht
 cases T with
 | int k=>exact ⟨_,h2⟩
 | bool=>exact ⟨_,h2⟩
 | str=>exact ⟨_,h2⟩
 | pt=>obtain ⟨e,h2⟩:=h2; exact ⟨_,h2⟩
 | sl e=>obtain ⟨te,ie,hu,_⟩:=h2; exact ⟨_,hu⟩
 | st u=>
  obtain ⟨_,h2⟩:=h2
  cases ha:S.ar t with
  | none=>rw [ha] at h2; obtain ⟨fs,hu,_⟩:=h2; exact ⟨_,hu⟩
  | some p=>rw [ha] at h2; obtain ⟨te,hu,_⟩:=h2; exact ⟨_,hu⟩
theorem fU {bx:Bx S.C} {ids:List Nat} {i:Nat} {B:eW S.C} (h:restrict S bx ids i=some B):bx i=some B:=by
 unfold restrict at h
 cases e:ids.contains i with
 | true=>rw [e] at h; exact h
 | false=>rw [e] at h; cases h
variable {w0:World} {M0 s0:St} {dq:List Deferred} {env:Env S.C} {a:Act} {w:World} {μ:Nat→Loc} {K:Act→World→Prop} {Q:Exit→Act→World→Prop} {o:Oper} {V:V S.C} {us:aV S.C}
def Goal (P:Program) (S:bB) (w0:World) (M0 s0:St) (dq:List Deferred) (env:Env S.C) (a:Act) (dst:Option Nat) (V:Sy.V S.C) (us:aV S.C) (K:Act→World→Prop):Prop:=
 ∀ a' w' μ',Inv P S w0 M0 s0 dq (env.apply dst V us) a' w' μ'→a'.tmps.size=a.tmps.size→K a' w'
theorem bW {V V':Sy.V S.C} {us us':aV S.C} (h:(aM S V us).leaf (V',us')):V'=V∧us'=us:=by
 have :(V,us)=(V',us'):=h
 cases this; exact ⟨rfl,rfl⟩
theorem IP {nl:Bool} (h:Inv P S w0 M0 s0 dq env a w μ) (hd: ∀ d,o.dst=some d→d<a.tmps.size) {x:Operand} {B:Nat} (ho:execOp a.eval o=pure (.value (a.eval x)))
 (hnew: ∀ u ∈ us,B≤u.1→u.1<B+16→env.bx u.1=none)
 (hl:(match bn S env.tm x with
  | some .dD=>cond nl (aM S .dD []) (match gi S o.type with
   | some e=>aM S (.bE B e []) [(B, .tail)]
   | none=> .fail)
  | some v=>aM S v []
  | none=> .fail).leaf (V,us)) (hK:Goal P S w0 M0 s0 dq env a o.dst V us K):o.wp P a w K Q:=by
 have hrun:(execOp a.eval o).run P w= .ok (.value (a.eval x)) w:=by rw [ho]; rfl
 split at hl
 · rename_i hx
   obtain ⟨hv,_⟩:=bU h hx
   cases nl with
   | true=>
    obtain ⟨rfl,rfl⟩:=bW hl
    exact wp_pure h hrun hd hv (by simp [aL,aI]) hK
   | false=>
   rw [cond_false] at hl
   split at hl
   · rename_i e he
     obtain ⟨rfl,rfl⟩:=bW hl
     have hB:=hnew (B, .tail) (by simp) (Nat.le_refl _) (by show B<B+16; omega)
     have hv:a.eval x= .slice none 0 0:=hv
     refine t_ (i:=B) (B:= .tail) (L:=⟨0,0,0,0,true⟩) h hrun hd (bI.refl w _) hB (fun b o hf=> ?_) (fun _ _ _=>⟨fun j hj=>absurd hj (Nat.not_lt_zero j), ?_⟩) (by simp) (fun j hj=> .inl (by simpa [aL,aI] using hj)) hK
     · have h1:=hf.2.1; have h2:=hf.2.2; simp at h2
     · rw [hv]
       refine ⟨⟨rfl,1,none,0,rfl,Nat.le_refl _, .inl rfl⟩,fun _=>⟨none,0,rfl, ?_⟩⟩
       rw [bq]
       exact .inl ⟨rfl,rfl,rfl⟩
   · exact hl.elim
 · rename_i v hne hx
   obtain ⟨rfl,rfl⟩:=bW hl
   obtain ⟨hv,hr⟩:=bU h hx
   exact wp_pure h hrun hd hv hr hK
 · exact hl.elim
theorem zK {w:World} {s:St} {k:IntKind} {n:Int} {v:Value} (h:c7 S w s (.int k) n v):v= .int k n:=by
 obtain ⟨ha,m,hm⟩:=h
 cases m with
 | zero=>exact hm.elim
 | succ m=>exact sF hm ha
theorem ur {w:World} {s:St} {b:Bool} {v:Value} (h:c7 S w s .bool b v):v= .bool b:=by
 obtain ⟨ha,m,hm⟩:=h
 cases m with
 | zero=>exact hm.elim
 | succ m=>exact sF hm ha
theorem sn {w:World} {s:St} {b:List UInt8} {v:Value} (h:c7 S w s .str b v):v= .string ⟨b.toArray⟩:=by
 obtain ⟨ha,m,hm⟩:=h
 cases m with
 | zero=>exact hm.elim
 | succ m=>exact sF hm ha
theorem nC {w:World} {s:St} {e:Ty} {l:List (e.den S.C)} {v:Value} (h:c7 S w s (.sl e) l v):
 ∃ a cap,v= .slice a l.length cap∧l.length≤cap∧(l.length=0∨ ∃ b o n,a=some ⟨b,o,none⟩∧zD S (fun t x cs=>aN S w s n t x cs) w s e b o l):=by
 obtain ⟨ha,m,hm⟩:=h
 cases m with
 | zero=>exact hm.elim
 | succ m=>
  obtain ⟨a,cap,h1,h2,h3⟩:=hm
  exact ⟨a,cap,sF h1 ha,h2,h3.imp id fun ⟨b,o,h4,h5⟩=>⟨b,o,m,h4,h5⟩⟩
theorem j_ (w:World) (s:St) (k:IntKind) (n:Int):c7 S w s (.int k) n (.int k n):=⟨rfl,1,rfl⟩
theorem qn (w:World) (s:St) (b:Bool):c7 S w s .bool b (.bool b):=⟨rfl,1,rfl⟩
theorem Ci (w:World) (s:St) (b:List UInt8):c7 S w s .str b (.string ⟨b.toArray⟩):=⟨rfl,1,rfl⟩
theorem kN {w:World} {s:St} {bx:Bx S.C} {V:Sy.V S.C} {v:Value} {k:IntKind} {n:Int} (h:RV P S w s μ bx V v) (hi:V.int?=some (k,n)):v= .int k n:=by
 unfold Sy.V.int? at hi
 split at hi
 · cases hi; exact zK h
 · cases hi
theorem FF {w:World} {s:St} {bx:Bx S.C} {V:Sy.V S.C} {v:Value} {b:List UInt8} (h:RV P S w s μ bx V v) (hi:V.tT=some b):v= .string ⟨b.toArray⟩:=by
 unfold Sy.V.tT at hi
 split at hi
 · cases hi; exact sn h
 · cases hi
theorem LK {w:World} {s:St} {bx:Bx S.C} {V:Sy.V S.C} {v:Value} {b:Bool} (h:RV P S w s μ bx V v) (hi:V.bool?=some b):v= .bool b:=by
 unfold Sy.V.bool? at hi
 split at hi
 · cases hi; exact ur h
 · cases hi; exact h
 · cases hi
theorem MT (h:Inv P S w0 M0 s0 dq env a w μ) {x:Operand} {b:Bool} (hx:bn S env.tm x=some (.d .bool b)):a.eval x= .bool b:=
 ur (bU h hx).1
theorem ZO (h:Inv P S w0 M0 s0 dq env a w μ) (hd: ∀ d,o.dst=some d→d<a.tmps.size) {c x y:Operand} (ho:o.op= .pick c x y)
 (hl:(match bn S env.tm c with
  | some (.d .bool b)=>match (b:Bool) with
   | true=>match bn S env.tm x with
    | some v=>aM S v []
    | none=> .fail
   | false=>match bn S env.tm y with
    | some v=>aM S v []
    | none=> .fail
  | _=> .fail).leaf (V,us)) (hK:Goal P S w0 M0 s0 dq env a o.dst V us K):o.wp P a w K Q:=by
 split at hl
 · rename_i b hc
   have hb:=MT h hc
   cases b with
   | true=>
    dsimp only at hl
    split at hl
    · rename_i v hx
      obtain ⟨rfl,rfl⟩:=bW hl
      obtain ⟨hv,hr⟩:=bU h hx
      exact wp_pure h (by simp [execOp,ho,hb,asBool]) hd hv hr hK
    · exact hl.elim
   | false=>
    dsimp only at hl
    split at hl
    · rename_i v hx
      obtain ⟨rfl,rfl⟩:=bW hl
      obtain ⟨hv,hr⟩:=bU h hx
      exact wp_pure h (by simp [execOp,ho,hb,asBool]) hd hv hr hK
    · exact hl.elim
 · exact hl.elim
end
end Go.Sy
namespace Go.Sy
section
variable {P:Program} {S:bB} {ay:Nat→Nat}
variable {w0:World} {M0 s0:St} {dq:List Deferred} {env:Env S.C} {a:Act} {w:World} {μ:Nat→Loc} {K:Act→World→Prop} {Q:Exit→Act→World→Prop} {o:Oper} {V:V S.C} {us:aV S.C}
theorem wV {α:Type} [BEq α] [LawfulBEq α] [DecidableEq α] (x y:α):(x == y)=decide (x=y):=by rw [Bool.eq_iff_iff]; simp
theorem hO {gs:List Gd} {V':Sy.V S.C} {us':aV S.C} (h:(Tr.gd gs (aM S V' us')).leaf (V,us)):(∀ g ∈ gs,g.p)∧V=V'∧us=us':=by
 obtain ⟨h1,h2⟩:=Tr.IE gs h
 exact ⟨h1,bW h2⟩
theorem Us {op:BinOp} {k k':IntKind} (hk:Oi op=true∨k=k') {x y:Int} {gs:List Gd} (h:arith S op k x y=some (gs,V)) (hg: ∀ g ∈ gs,g.p) (t:TypeId) (w:World):
 (∃ v,(binOp op t (.int k x) (.int k' y)).run P w= .ok v w∧ ∀ (w1:World) (s:St) (μ:Nat→Loc) (bx:Bx S.C),RV P S w1 s μ bx V v)∧aL S V= []:=by
 cases op <;> simp only [arith] at h <;> cases h
 case add=>rcases hk with hk | rfl; cases hk; exact ⟨⟨_,by simp [binOp,Op.intArith],fun _ _ _ _=>j_ ..⟩,rfl⟩
 case sub=>rcases hk with hk | rfl; cases hk; exact ⟨⟨_,by simp [binOp,Op.intArith],fun _ _ _ _=>j_ ..⟩,rfl⟩
 case mul=>rcases hk with hk | rfl; cases hk; exact ⟨⟨_,by simp [binOp,Op.intArith],fun _ _ _ _=>j_ ..⟩,rfl⟩
 case quo=>
  rcases hk with hk | rfl; cases hk
  have h0: ¬ y=0:=hg _ (List.mem_singleton.2 rfl)
  exact ⟨⟨_,by simp [binOp,Op.intDiv,h0],fun _ _ _ _=>j_ ..⟩,rfl⟩
 case rem=>
  rcases hk with hk | rfl; cases hk
  have h0: ¬ y=0:=hg _ (List.mem_singleton.2 rfl)
  exact ⟨⟨_,by simp [binOp,Op.intDiv,h0],fun _ _ _ _=>j_ ..⟩,rfl⟩
 case and=>rcases hk with hk | rfl; cases hk; exact ⟨⟨_,by simp [binOp,Op.intBits],fun _ _ _ _=>j_ ..⟩,rfl⟩
 case shl=>
  have h0:0≤y:=hg _ (List.mem_singleton.2 rfl)
  have h0': ¬ y<0:=by omega
  exact ⟨⟨_,by simp [binOp,Op.shift,h0'],fun _ _ _ _=>j_ ..⟩,rfl⟩
 case shr=>
  have h0:0≤y:=hg _ (List.mem_singleton.2 rfl)
  have h0': ¬ y<0:=by omega
  exact ⟨⟨_,by simp [binOp,Op.shift,h0'],fun _ _ _ _=>j_ ..⟩,rfl⟩
 case eql=>rcases hk with hk | rfl; cases hk; exact ⟨⟨.bool (decide (x=y)),by simp [binOp,Op.intCmp,wV],fun _ _ _ _=>rfl⟩,rfl⟩
 case neq=>rcases hk with hk | rfl; cases hk; exact ⟨⟨.bool (decide (x≠y)),by simp [binOp,Op.intCmp,bne,wV],fun _ _ _ _=>rfl⟩,rfl⟩
 case lss=>rcases hk with hk | rfl; cases hk; exact ⟨⟨.bool (decide (x<y)),by simp [binOp,Op.intCmp],fun _ _ _ _=>rfl⟩,rfl⟩
 case leq=>rcases hk with hk | rfl; cases hk; exact ⟨⟨.bool (decide (x≤y)),by simp [binOp,Op.intCmp],fun _ _ _ _=>rfl⟩,rfl⟩
 case gtr=>rcases hk with hk | rfl; cases hk; exact ⟨⟨.bool (decide (y<x)),by simp [binOp,Op.intCmp],fun _ _ _ _=>rfl⟩,rfl⟩
 case geq=>rcases hk with hk | rfl; cases hk; exact ⟨⟨.bool (decide (y≤x)),by simp [binOp,Op.intCmp],fun _ _ _ _=>rfl⟩,rfl⟩
theorem aed {op:BinOp} {x y:List UInt8} {gs:List Gd} (h:Km S op x y=some (gs,V)) (hg: ∀ g ∈ gs,g.p) (t:TypeId) (w:World):
 (∃ v,(binOp op t (.string ⟨x.toArray⟩) (.string ⟨y.toArray⟩)).run P w= .ok v w∧ ∀ (w1:World) (s:St) (μ:Nat→Loc) (bx:Bx S.C),RV P S w1 s μ bx V v)∧aL S V= []:=by
 cases op <;> simp only [Km] at h <;> cases h
 case add=>
  have h0:x.length+y.length≤9223372036854775807:=hg _ (List.mem_singleton.2 rfl)
  refine ⟨⟨.string ⟨(x++y).toArray⟩, ?_,fun _ _ _ _=>Ci ..⟩,rfl⟩
  have h1: ¬ (IntKind.i64.max<((ByteArray.size ⟨x.toArray⟩+ByteArray.size ⟨y.toArray⟩:Nat):Int)):=by
   show ¬ ((9223372036854775807:Int)<((x.toArray.size+y.toArray.size:Nat):Int))
   simp; omega
  have h2:(⟨x.toArray⟩:ByteArray)++⟨y.toArray⟩=⟨(x++y).toArray⟩:=by
   apply ByteArray.ext; simp
  simp only [binOp,Op.stringOp]
  rw [if_neg h1,h2]
  rfl
 case eql=>exact ⟨⟨.bool (decide (x=y)),by simp [binOp,Op.stringOp,wV],fun _ _ _ _=>rfl⟩,rfl⟩
 case neq=>exact ⟨⟨.bool (decide (x≠y)),by simp [binOp,Op.stringOp,wV],fun _ _ _ _=>rfl⟩,rfl⟩
def Ja:Value→Bool
 | .agg _ | .nilIface=>false
 | _=>true
theorem Hi {op:BinOp} {t:TypeId} {x y:Operand} {v u:Value} (h:Ja v=true) (w:World):(eqGuard op t x y v u).run P w= .ok () w:=by
 unfold eqGuard
 cases v <;> first | (simp [Ja] at h; done) | (simp; done) | (simp; split <;> rfl)
theorem ac_ (d:Nat) {t:TypeId} (hu:P.underlying t=some .bool) (b c:Bool) (w:World):(Op.equalIn (d+1) t (.bool b) (.bool c)).run P w= .ok (b == c) w:=by
 unfold Op.equalIn
 simp [run_underlying hu]
theorem Re {t:TypeId} (hu:P.underlying t=some .bool) (b c:Bool) (w:World):(Op.equal t (.bool b) (.bool c)).run P w= .ok (b == c) w:=ac_ 9999 hu b c w
theorem ada (d:Nat) {t e:TypeId} (hu:P.underlying t=some (.pointer e))  (w:World):(Op.equalIn (d+1) t (.pointer none) (.pointer none)).run P w= .ok true w:=by
 unfold Op.equalIn
 simp [run_underlying hu]
theorem Rf {t e:TypeId} (hu:P.underlying t=some (.pointer e))  (w:World):(Op.equal t (.pointer none) (.pointer none)).run P w= .ok true w:=ada 9999 hu w
theorem adb (d:Nat) {t e:TypeId} (hu:P.underlying t=some (.pointer e)) (p:Addr) (w:World):(Op.equalIn (d+1) t (.pointer (some p)) (.pointer none)).run P w= .ok false w:=by
 unfold Op.equalIn
 simp [run_underlying hu]
theorem Rg {t e:TypeId} (hu:P.underlying t=some (.pointer e)) (p:Addr) (w:World):(Op.equal t (.pointer (some p)) (.pointer none)).run P w= .ok false w:=adb 9999 hu p w
theorem UJ (hP:bA P S ay) (h:Inv P S w0 M0 s0 dq env a w μ) (hd: ∀ d,o.dst=some d→d<a.tmps.size) {op:BinOp} {t t':TypeId} {x y:Operand} (ho:o.op= .binOp op t x y t')
 (hl:(match bn S env.tm x,bn S env.tm y with
  | some p,some q=>match CX S op t p q with
   | some (gs,v)=>Tr.gd gs (aM S v [])
   | none=> .fail
  | _,_=> .fail).leaf (V,us)) (hK:Goal P S w0 M0 s0 dq env a o.dst V us K):o.wp P a w K Q:=by
 split at hl
 · rename_i p q hx hy
   split at hl
   · rename_i gs v hb
     obtain ⟨hg,rfl,rfl⟩:=hO hl
     obtain ⟨hv1,_⟩:=bU h hx
     obtain ⟨jO,_⟩:=bU h hy
     have fin: ∀ (v1 v2:Value),a.eval x=v1→a.eval y=v2→Ja v1=true→
      ((∃ v,(binOp op t v1 v2).run P w= .ok v w∧ ∀ (w1:World) (s:St) (μ:Nat→Loc) (bx:Bx S.C),RV P S w1 s μ bx V v)∧aL S V= [])→o.wp P a w K Q:=by
      rintro v1 v2 e1 e2 ha ⟨⟨v,hr,hv⟩,hid⟩
      refine wp_pure h (v:=v) ?_ hd (hv ..) (by simp [hid]) hK
      unfold execOp
      simp only [ho,e1,e2]
      simp [Hi ha,hr]
     unfold CX at hb
     split at hb
     · rename_i k i k' j h1 h2
       split at hb
       · rename_i hk
         exact fin _ _ (kN hv1 h1) (kN jO h2) rfl (Us hk hb hg t w)
       · cases hb
     · split at hb
       · rename_i h1 h2
         exact fin _ _ (FF hv1 h1) (FF jO h2) rfl (aed hb hg t w)
       · split at hb
         · rename_i b c h1 h2
           have e1:=LK hv1 h1
           have e2:=LK jO h2
           cases hty:S.ty t with
           | none=>rw [hty] at hb; cases hb
           | some T=>
            rw [hty] at hb
            cases T with
            | bool=>
             have hu:P.underlying t=some .bool:=(hP.ty t _ hty).2
             refine fin _ _ e1 e2 rfl ?_
             dsimp only [cond] at hb
             split at hb <;> cases hb
             · exact ⟨⟨.bool (decide (b=c)),by simp [binOp,Re hu,wV],fun _ _ _ _=>rfl⟩,rfl⟩
             · exact ⟨⟨.bool (decide (b≠c)),by simp [binOp,Re hu,wV],fun _ _ _ _=>rfl⟩,rfl⟩
            | _=>cases hb
         · cases Ia:S.pt t with
           | false=>rw [Ia] at hb; cases hb
           | true=>
            rw [Ia] at hb
            obtain ⟨e,hu⟩:=hP.pt t Ia
            dsimp only [cond] at hb
            split at hb
            · have e1:a.eval x= .pointer none:=hv1
              have e2:a.eval y= .pointer none:=jO
              refine fin _ _ e1 e2 rfl ?_
              split at hb <;> cases hb
              · exact ⟨⟨.bool true,by simp [binOp,Rf hu],fun _ _ _ _=>qn ..⟩,rfl⟩
              · exact ⟨⟨.bool false,by simp [binOp,Rf hu],fun _ _ _ _=>qn ..⟩,rfl⟩
            · rename_i b off
              have e2:a.eval y= .pointer none:=jO
              have e1:a.eval x=_:=hv1
              refine fin _ _ e1 e2 rfl ?_
              split at hb <;> cases hb
              · exact ⟨⟨.bool false,by simp [binOp,Rg hu],fun _ _ _ _=>qn ..⟩,rfl⟩
              · exact ⟨⟨.bool true,by simp [binOp,Rg hu],fun _ _ _ _=>qn ..⟩,rfl⟩
            · cases hb
   · exact hl.elim
 · exact hl.elim
end
end Go.Sy
namespace Go.Sy
section
variable {P:Program} {S:bB} {ay:Nat→Nat}
variable {w0:World} {M0 s0:St} {dq:List Deferred} {env:Env S.C} {a:Act} {w:World} {μ:Nat→Loc} {K:Act→World→Prop} {Q:Exit→Act→World→Prop} {o:Oper} {V:V S.C} {us:aV S.C}
theorem qt {t:Nat} {e:Ty} (h:gi S t=some e):S.ty t=some (.sl e):=by
 unfold gi at h
 split at h
 · rename_i e' he; cases h; exact he
 · cases h
theorem bA.sl (hP:bA P S ay) {t:Nat} {e:Ty} (h:S.ty t=some (.sl e)): ∃ te ie z,P.underlying t=some (.slice te)∧S.ty te=some e∧P.info? te=some ie∧ie.bytes=ay t∧1≤ay t∧ie.size=Ty.sz S e∧ie.zero=some z∧isAgg z=bR e∧z.cells.toList=wL S e:=by
 obtain ⟨_,te,ie,h1,h2,h3,h4,h5⟩:=hP.ty t _ h
 obtain ⟨⟨i,z,g1,g2,g3,g4,g5⟩,_⟩:=hP.ty te e h2
 rw [h3] at g1
 cases g1
 exact ⟨te,ie,z,h1,h2,h3,h4,h5,g2,g3,g4,g5⟩
theorem J2 (hP:bA P S ay) {t:Nat} {e:Ty} (ht:S.ty t=some (.sl e)) {b o' n cap:Nat} {k:IntKind} {i:Int} (h0:0≤i) (h1:i<(n:Int)) (w:World):
 (Instr.indexAt t (.slice (some ⟨b,o',none⟩) n cap) (.int k i)).run P w= .ok (.pointer (some ⟨b,o'+i.toNat*Ty.sz S e,none⟩)) w:=by
 obtain ⟨te,ie,z,hu,he,_⟩:=hP.sl ht
 simp [Instr.indexAt,asIntOf,run_underlying hu,h0,h1,hP.size he w,Addr.add_mid]
theorem xk {e:Ty} {l:List (e.den S.C)} {i:Int} (h0:0≤i) (h1:i<(l.length:Int)):l[i.toNat]? =some (jj S e l i):=by
 have :i.toNat<l.length:=by omega
 unfold jj
 rw [List.getD_eq_getElem?_getD,List.getElem?_eq_getElem this]
 rfl
theorem O_ {b:Nat} {i:Int} {p:Sy.V S.C×aV S.C} : ∀ (n j:Nat),(I_ S b i j n).leaf p→ ∃ k:Nat,i=(k:Int)∧p=(.ptr b k,[])
 | 0,_,h=>h.elim
 | n+1,j,h=>by
  rcases h with ⟨h1,h2⟩ | ⟨_,h2⟩
  · exact ⟨j,h1,h2.symm⟩
  · exact O_ n (j+1) h2
theorem Yo (hP:bA P S ay) (h:Inv P S w0 M0 s0 dq env a w μ) (hd: ∀ d,o.dst=some d→d<a.tmps.size) {t:TypeId} {x i:Operand} {ids:List Nat} (ho:o.op= .indexAddr t x i)
 (hl:(match gi S t,bn S env.tm x,bn S env.tm i with
  | some e,some v,some w=>match w.int? with
   | some (_,n)=>Iw S e (restrict S env.bx ids) n v
   | none=> .fail
  | _,_,_=> .fail).leaf (V,us)) (hK:Goal P S w0 M0 s0 dq env a o.dst V us K):o.wp P a w K Q:=by
 split at hl
 · rename_i e v wv het hx hi
   have ht:=qt het
   obtain ⟨hv,eJ⟩:=bU h hx
   obtain ⟨qB,_⟩:=bU h hi
   split at hl
   · rename_i k n hn
     have hin:=kN qB hn
     have data: ∀ (e':Ty) (l:List (e'.den S.C)),c7 S w (aR S w0 M0 s0 env.bx μ w) (.sl e') l (a.eval x)→(if e'=e then Tr.gd (fB n l.length) (aM S (.eI e' (jj S e' l n)) []) else .fail).leaf (V,us)→o.wp P a w K Q:=by
      intro e' l hr cY
      clear hl
      split at cY
      · rename_i he
        subst he
        obtain ⟨hg,rfl,rfl⟩:=hO cY
        have g0:0≤n:=hg ⟨0≤n,inferInstance⟩ (by simp [fB,gd])
        have g1:n<(l.length:Int):=hg ⟨n<(l.length:Int),inferInstance⟩ (by simp [fB,gd])
        obtain ⟨ad,cap,e1,e2,e3⟩:=nC hr
        rcases e3 with e3 | ⟨b,o',m,rfl,hel⟩
        · omega
        · obtain ⟨ds,d1,d2,d3⟩:=hel n.toNat _ (xk g0 g1)
          refine wp_pure (V:= .eI e' (jj S e' l n)) h (v:= .pointer (some ⟨b,o'+n.toNat*Ty.sz S e',none⟩)) ?_ hd ⟨b,_,ds,rfl,d2,d1,m,d3⟩ (by simp [aL,aI]) hK
          unfold execOp
          simp only [ho,e1,hin]
          simp [J2 hP ht g0 g1]
      · exact cY.elim
     have own: ∀ (b:Nat) (e':Ty) (l:List (e'.den S.C)),v= .aQ b→(env.bx b=some (.arr e' l)∨env.bx b=some (.b8 e' l))→(if e'=e then Tr.gd (fB n l.length) (aM S (.gz b n 0) []) else .fail).leaf (V,us)→o.wp P a w K Q:=by
      intro b e' l Ih hb cY
      clear hl
      split at cY
      · rename_i he
        subst he
        obtain ⟨hg,rfl,rfl⟩:=hO cY
        have g0:0≤n:=hg ⟨0≤n,inferInstance⟩ (by simp [fB,gd])
        have g1:n<(l.length:Int):=hg ⟨n<(l.length:Int),inferInstance⟩ (by simp [fB,gd])
        subst Ih
        obtain ⟨ad,cap,e1,hao⟩:=hv.2 e' l hb
        have XY:(μ b).nil=false:=by
         cases nT:(μ b).nil with
         | false=>rfl
         | true=>have :=hao.isNil nT; have :=hao.mB; have :=hao.fits; omega
        have had:ad=some ⟨(μ b).b,(μ b).o,none⟩:=by rw [hao.addr,XY]; rfl
        subst had
        refine wp_pure (V:= .gz b n 0) h (v:= .pointer (some ⟨(μ b).b,(μ b).o+n.toNat*Ty.sz S e',none⟩)) ?_ hd ⟨⟨_,rfl⟩,fun e'' l'' AA=> ?_⟩ (fun j hj=>eJ j (by simpa [aL,aI] using hj)) hK
        · unfold execOp
          simp only [ho,e1,hin]
          simp [J2 hP ht g0 g1]
        · have :(∃ h:e''=e',h▸l''=l):=by
           rcases hb with hb | hb <;> rcases AA with AA | AA <;> rw [hb] at AA <;> cases AA <;> exact ⟨rfl,rfl⟩
          obtain ⟨rfl,rfl⟩:=this
          exact ⟨g0,by show n.toNat<l''.length; have g1:n<(l''.length:Int):=g1; omega,rfl⟩
      · exact cY.elim
     unfold Iw at hl
     split at hl
     · exact data _ _ hv hl
     · exact data _ _ hv.1 hl
     · rename_i b
       split at hl
       · rename_i hb; exact own _ _ _ rfl (.inl (fU hb)) hl
       · rename_i hb; exact own _ _ _ rfl (.inr (fU hb)) hl
       · exact hl.elim
     · rename_i b m
       split at hl
       · rename_i e1
         obtain ⟨hg,hl⟩:=Tr.IE _ hl
         have g0:0≤n:=hg ⟨0≤n,inferInstance⟩ (by simp [fB,gd])
         have g1:n<(m:Int):=hg ⟨n<(m:Int),inferInstance⟩ (by simp [fB,gd])
         obtain ⟨j,hj,hp⟩:=O_ m 0 hl
         cases hp
         have hv:a.eval x= .slice (some ⟨(μ b).b,(μ b).o,none⟩) m m:=hv
         have e2:n.toNat=j:=by omega
         refine wp_pure (V:= .ptr b j) h (v:= .pointer (some ⟨(μ b).b,(μ b).o+j,none⟩)) ?_ hd rfl (fun j hj=>eJ j (by simpa [aL,aI] using hj)) hK
         unfold execOp
         simp only [ho,hv,hin]
         have :=J2 hP ht (b:=(μ b).b) (o':=(μ b).o) (n:=m) (cap:=m) (k:=k) g0 g1
         rw [e2,show j*Ty.sz S (.sl e1)=j from Nat.mul_one j] at this
         simp [this]
       · exact hl.elim
     · exact hl.elim
   · exact hl.elim
 · exact hl.elim
theorem Yq (hP:bA P S ay) (h:Inv P S w0 M0 s0 dq env a w μ) (hd: ∀ d,o.dst=some d→d<a.tmps.size) {t:TypeId} {x i:Operand} (ho:o.op= .index t x i)
 (hl:(match bn S env.tm x,bn S env.tm i with
  | some v,some w=>match S.ty t,v.tT,w.int? with
   | some .str,some s,some (_,n)=>Tr.gd (fB n s.length) (aM S (.d (.int .u8) (((s.getD n.toNat 0).toNat:Nat):Int)) [])
   | _,_,_=> .fail
  | _,_=> .fail).leaf (V,us)) (hK:Goal P S w0 M0 s0 dq env a o.dst V us K):o.wp P a w K Q:=by
 split at hl
 · rename_i v wv hx hi
   obtain ⟨hv,eJ⟩:=bU h hx
   obtain ⟨qB,_⟩:=bU h hi
   split at hl
   · rename_i s k n ht hs hn
     obtain ⟨hg,rfl,rfl⟩:=hO hl
     have g0:0≤n:=hg ⟨0≤n,inferInstance⟩ (by simp [fB,gd])
     have g1:n<(s.length:Int):=hg ⟨n<(s.length:Int),inferInstance⟩ (by simp [fB,gd])
     have hu:P.underlying t=some .string:=(hP.ty t _ ht).2
     have hlt:n.toNat<s.length:=by omega
     refine wp_pure (V:= .d (.int .u8) (((s.getD n.toNat 0).toNat:Nat):Int)) h (v:= .int .u8 (((s.getD n.toNat 0).toNat:Nat):Int)) ?_ hd (j_ ..) (by simp [aL,aI]) hK
     unfold execOp
     simp only [ho,FF hv hs,kN qB hn]
     have e1:(⟨s.toArray⟩:ByteArray)[n.toNat]? =some (s.getD n.toNat 0):=by
      rw [List.getD_eq_getElem?_getD,List.getElem?_eq_getElem hlt]
      show (if h:n.toNat<s.toArray.size then some _ else none)=_
      rw [dif_pos (by simpa using hlt)]
      rfl
     simp [Instr.index,asIntOf,run_underlying hu,g0,e1]
   · exact hl.elim
 · exact hl.elim
theorem Wy (h:Inv P S w0 M0 s0 dq env a w μ) (hd: ∀ d,o.dst=some d→d<a.tmps.size) {x:Operand} {i:Nat} (ho:o.op= .extract x i)
 (hl:(match bn S env.tm x with
  | some (.jX vs)=>match vs[i]? with
   | some v=>aM S v []
   | none=> .fail
  | _=> .fail).leaf (V,us)) (hK:Goal P S w0 M0 s0 dq env a o.dst V us K):o.wp P a w K Q:=by
 split at hl
 · rename_i vs hx
   obtain ⟨⟨cs,hv,hvs⟩,eJ⟩:=bU h hx
   split at hl
   · rename_i v hi
     obtain ⟨rfl,rfl⟩:=bW hl
     obtain ⟨c,hc,hr⟩:=aT.get P S i hvs hi
     refine wp_pure h (v:=c) ?_ hd (oG hr) (fun j hj=> ?_) hK
     · unfold execOp
       have :cs[i]? =some c:=by simpa using hc
       simp only [ho,hv]
       simp [Instr.extract,this]
     · refine eJ j ?_
       simp only [aL,List.mem_flatMap]
       refine ⟨V,List.mem_of_getElem? hi, ?_⟩
       cases V <;> first | exact hj | exact (hr:False).elim
   · exact hl.elim
 · exact hl.elim
theorem Zr (h:Inv P S w0 M0 s0 dq env a w μ) (hd: ∀ d,o.dst=some d→d<a.tmps.size) {x:Operand} (ho:o.op= .nilCheck x)
 (hl:(match bn S env.tm x with
  | some (.ptr b o)=>aM S (.ptr b o) []
  | some (.eI t x)=>aM S (.eI t x) []
  | some (.gz b i p)=>aM S (.gz b i p) []
  | some (.split b c)=>aM S (.split b c) []
  | _=> .fail).leaf (V,us)) (hK:Goal P S w0 M0 s0 dq env a o.dst V us K):o.wp P a w K Q:=by
 have fin: ∀ ad,a.eval x= .pointer (some ad)→bn S env.tm x=some V→us= []→o.wp P a w K Q:=by
  rintro ad he hx rfl
  obtain ⟨hv,hr⟩:=bU h hx
  refine wp_pure h (v:=a.eval x) ?_ hd hv hr hK
  unfold execOp
  simp only [ho,he]
  rfl
 split at hl
 · rename_i b off hx
   obtain ⟨rfl,rfl⟩:=bW hl
   have hv:a.eval x=_:=(bU h hx).1
   exact fin _ hv hx rfl
 · rename_i t y hx
   obtain ⟨rfl,rfl⟩:=bW hl
   obtain ⟨b,o',ds,hv,_⟩:=(bU h hx).1
   exact fin _ hv hx rfl
 · rename_i b i p hx
   obtain ⟨rfl,rfl⟩:=bW hl
   obtain ⟨⟨ad,hv⟩,_⟩:=(bU h hx).1
   exact fin _ hv hx rfl
 · rename_i b c hx
   obtain ⟨rfl,rfl⟩:=bW hl
   obtain ⟨k,q,hv,_⟩:=(bU h hx).1
   exact fin _ hv hx rfl
 · exact hl.elim
theorem afE (h:Inv P S w0 M0 s0 dq env a w μ) (hd: ∀ d,o.dst=some d→d<a.tmps.size) {op:UnOp} {t:TypeId} {x:Operand} (ho:o.op= .unOp op t x)
 (hl:(match op,bn S env.tm x with
  | .not,some (.pr p i)=>aM S (.pr (¬ p) (@instDecidableNot p i)) []
  | .not,some (.d .bool b)=>aM S (.d .bool (Bool.not b)) []
  | .neg,some v=>match v.int? with
   | some (k,n)=>aM S (.d (.int k) (k.wrap (0 - n))) []
   | none=> .fail
  | _,_=> .fail).leaf (V,us)) (hK:Goal P S w0 M0 s0 dq env a o.dst V us K):o.wp P a w K Q:=by
 split at hl
 · rename_i p i hx
   obtain ⟨rfl,rfl⟩:=bW hl
   have hv:a.eval x= .bool (decide p):=(bU h hx).1
   refine wp_pure h (v:= .bool (!decide p)) ?_ hd ?_ (by simp [aL,aI]) hK
   · unfold execOp; simp only [ho,hv]; rfl
   · show Value.bool (!decide p)= .bool (decide (¬ p))
     simp
 · rename_i b hx
   obtain ⟨rfl,rfl⟩:=bW hl
   have hv:=ur (bU h hx).1
   refine wp_pure (V:= .d .bool (Bool.not b)) h (v:= .bool (Bool.not b)) ?_ hd (qn ..) (by simp [aL,aI]) hK
   unfold execOp; simp only [ho,hv]; rfl
 · rename_i v hx
   split at hl
   · rename_i k n hn
     obtain ⟨rfl,rfl⟩:=bW hl
     have hv:=kN (bU h hx).1 hn
     refine wp_pure (V:= .d (.int k) (k.wrap (0 - n))) h (v:= .int k (k.wrap (0 - n))) ?_ hd (j_ ..) (by simp [aL,aI]) hK
     unfold execOp; simp only [ho,hv]; rfl
   · exact hl.elim
 · exact hl.elim
theorem foldl_push: ∀ (l:List Int) (r:ByteArray),l.foldl (fun r n=>r.push (UInt8.ofNat n.toNat)) r=⟨r.data++(bytesOf l).toArray⟩
 | [],r=>by simp [bytesOf]
 | n::l,r=>by
  rw [List.foldl_cons,foldl_push l]
  simp [bytesOf,ByteArray.push]
theorem ac8 {P:Program} {w:World} {s t te:TypeId} (q:List Int) (b o cap:Nat) (AW:P.underlying s=some (.slice te)) (Ig:P.underlying te=some (.int .u8)) (xD:P.underlying t=some .string)
 (hc: ∀ j x,q[j]? =some x→w.cell? ⟨b,o+j,none⟩=some (.int .u8 x)):(convert s t (.slice (some ⟨b,o,none⟩) q.length cap)).run P w= .ok (.string ⟨(bytesOf q).toArray⟩) w:=by
 have hcells:(loadCells ⟨b,o,none⟩ q.length).run P w= .ok (q.map (Value.int .u8)).toArray w:=by
  have :=run_loadCells_list (P:=P) (w:=w) ⟨b,o,none⟩ (q.map (Value.int .u8)) (fun j v hj=>by
   rw [List.getElem?_map] at hj
   obtain ⟨x,hx,rfl⟩:=Option.map_eq_some_iff.1 hj
   rw [Addr.add_lit]; exact hc j x hx)
  rw [List.length_map] at this
  exact this
 have hrun:=run_bytesToString (P:=P) w ⟨b,o,none⟩ q.length cap q hcells
 rw [foldl_push] at hrun
 rw [run_convert_bytes_string w s t te (some ⟨b,o,none⟩) q.length cap AW Ig xD,hrun]
 simp
theorem VU (hP:bA P S ay) (h:Inv P S w0 M0 s0 dq env a w μ) (hd: ∀ d,o.dst=some d→d<a.tmps.size) {s t:TypeId} {x:Operand} {ids:List Nat} (ho:o.op= .convert s t x)
 (hl:(match S.ty s,S.ty t,bn S env.tm x with
  | some _,some (.int k),some v=>match v.int? with
   | some (_,n)=>aM S (.d (.int k) (k.wrap n)) []
   | none=> .fail
  | some T,some .str,some v=>match v.tT with
   | some s=>aM S (.d .str s) []
   | none=>match T,v with
    | .sl (.int .u8), .aQ b=>match restrict S env.bx ids b with
     | some (.arr (.int .u8) (n::l))=>aM S (.d .str (bytesOf (n::l))) []
     | _=> .fail
    | _,_=> .fail
  | _,_,_=> .fail).leaf (V,us)) (hK:Goal P S w0 M0 s0 dq env a o.dst V us K):o.wp P a w K Q:=by
 split at hl
 · rename_i T k v hs ht hx
   obtain ⟨d,hu⟩:=hP.Sx hs
   split at hl
   · rename_i k' n hn
     obtain ⟨rfl,rfl⟩:=bW hl
     have hv:=kN (bU h hx).1 hn
     have xD:P.underlying t=some (.int k):=(hP.ty t _ ht).2
     refine wp_pure (V:= .d (.int k) (k.wrap n)) h (v:= .int k (k.wrap n)) ?_ hd (j_ ..) (by simp [aL,aI]) hK
     unfold execOp
     simp only [ho,hv]
     simp [convert,run_underlying hu,run_underlying xD,Conv.intToInt]
   · exact hl.elim
 · rename_i T v hs ht hx
   obtain ⟨d,hu⟩:=hP.Sx hs
   have xD:P.underlying t=some .string:=(hP.ty t _ ht).2
   split at hl
   · rename_i b hn
     obtain ⟨rfl,rfl⟩:=bW hl
     have hv:=FF (bU h hx).1 hn
     refine wp_pure (V:= .d .str b) h (v:= .string ⟨b.toArray⟩) ?_ hd (Ci ..) (by simp [aL,aI]) hK
     unfold execOp
     simp only [ho,hv]
     simp [convert,run_underlying hu,run_underlying xD]
   · split at hl
     · rename_i b _
       split at hl
       · rename_i n l lG
         obtain ⟨rfl,rfl⟩:=bW hl
         have hb:=fU lG
         obtain ⟨te,ie,AW,hte,_⟩:=(hP.ty s _ hs).2
         have Ig:P.underlying te=some (.int .u8):=(hP.ty te _ hte).2
         obtain ⟨_,hv⟩:=(bU h hx).1
         obtain ⟨ad,cap,hv,hA⟩:=hv _ _ (.inl hb)
         have hR:=h.cB b _ hb
         have nT:(μ b).nil=false:=by
          cases hn:(μ b).nil with
          | false=>rfl
          | true=>
           have h1:=hA.isNil hn
           have h2:=hA.fits
           have h3:=hA.mB
           simp only [List.length_cons] at h2
           omega
         have had:ad=some ⟨(μ b).b,(μ b).o,none⟩:=by rw [hA.addr,nT]; rfl
         refine wp_pure (V:= .d .str (bytesOf (n::l))) h (v:= .string ⟨(bytesOf (n::l)).toArray⟩) ?_ hd (Ci ..) (by simp [aL,aI]) hK
         unfold execOp
         simp only [ho]
         rw [show a.eval x=_ from hv,had]
         have e:=ac8 (P:=P) (w:=w) (s:=s) (t:=t) (n::l) (μ b).b (μ b).o cap AW Ig xD fun j x hx=>by
          obtain ⟨ds,hd1,Xp,m,Dn⟩:=hR.2.2.2.2 j x hx
          cases m with
          | zero=>exact Dn.elim
          | succ m=>
           have Dn:ds= [.int .u8 x]:=Dn
           subst Dn
           have :=Xp 0 _ rfl
           rw [show Ty.sz S (.int .u8)=1 from rfl,Nat.mul_one,Nat.add_zero] at this
           exact this
         have e:(convert s t (.slice (some ⟨(μ b).b,(μ b).o,none⟩) (l.length+1) cap)).run P w=_:=e
         simp [e,Result.andThen]
       · exact hl.elim
     · exact hl.elim
 · exact hl.elim
end
end Go.Sy
namespace Go.Sy
section
variable {P:Program} {S:bB} {ay:Nat→Nat}
variable {w0:World} {M0 s0:St} {dq:List Deferred} {env:Env S.C} {a:Act} {w:World} {μ:Nat→Loc} {K:Act→World→Prop} {Q:Exit→Act→World→Prop} {o:Oper} {V:V S.C} {us:aV S.C}
theorem Ly {s:St} {bx:Bx S.C} {t:Ty} (ht:bR t=false) {V:Sy.V S.C} {v:Value} {x:t.den S.C} (hv:b6 P S w s μ bx V v) (hx:dV S (fun _=>none) t V=some x): ∃ n,aN S w s n t x [v]:=by
 have hd: ∀ (u:Ty) (y:u.den S.C),c7 S w s u y v→fH S u t y=some x→ ∃ n,aN S w s n t x [v]:=by
  intro u y hr hc
  obtain ⟨rfl,rfl⟩:=fA hc
  obtain ⟨h1,n,hn⟩:=hr
  rw [aN.nH h1 ht] at hn
  exact ⟨n,hn⟩
 cases V with
 | d u y=>exact hd u y hv hx
 | pr p i=>
  obtain ⟨rfl,rfl⟩:=fA hx
  cases hv
  exact ⟨1,rfl⟩
 | bE b e l=>exact hd (.sl e) l hv.1 hx
 | dD=>
  cases t with
  | sl e=>cases hx; cases hv; exact ⟨1,none,0,rfl,Nat.le_refl _, .inl rfl⟩
  | _=>cases hx
 | _=>cases hx
theorem Sn {s:St} {bx:Bx S.C} : ∀ (ts:List Ty) (hts:ts.all (fun t=> !bR t)=true) {vs:List (Sy.V S.C)} {cs:List Value} {x:aA S.C ts},
 aT P S w s μ bx vs cs→jz S (fun _=>none) ts vs=some x→ ∃ n,bY S (fun t x cs=>aN S w s n t x cs) ts x (cs.take ts.length)
 | [],_,_,cs,_,_,_=>⟨0,by simp [bY]⟩
 | t::ts,hts,[],_,_,_,hx=>by simp [jz] at hx
 | t::ts,hts,V::vs,cs,x,⟨c,r,hcs,hv,hr⟩,hx=>by
  simp only [List.all_cons,Bool.and_eq_true,Bool.not_eq_true'] at hts
  simp only [jz] at hx
  obtain ⟨y,hy,hx⟩:=Option.bind_eq_some_iff.1 hx
  obtain ⟨z,hz,hx⟩:=Option.bind_eq_some_iff.1 hx
  cases hx
  obtain ⟨n,hn⟩:=Ly hts.1 hv hy
  obtain ⟨m,hm⟩:=Sn ts hts.2 hr hz
  refine ⟨max n m,c,r.take ts.length,by simp [hcs], ?_, ?_⟩
  · rw [show aA.head (aA.cons y z)=y from by cases ts <;> rfl]
    exact hn.up S (by omega)
  · rw [show aA.tail (aA.cons y z)=z from by cases ts <;> rfl]
    exact bY.mono S (fun t x cs hr=>hr.up S (by omega)) _ _ _ hm
theorem Oh (hS:dU S) {s:St} {bx:Bx S.C} {t:Ty} {vs:List (Sy.V S.C)} {cs:List Value} {x:t.den S.C}
 (hv:aT P S w s μ bx vs cs) (hx:jP S (fun _=>none) t vs=some x): ∃ n,aN S w s n t x (cs.take (Ty.sz S t)):=by
 have one:bR t=false→Ty.sz S t=1→(∃ V r,vs=V::r∧dV S (fun _=>none) t V=some x)→ ∃ n,aN S w s n t x (cs.take (Ty.sz S t)):=by
  rintro ht h1 ⟨V,vs',rfl,hx1⟩
  rw [h1]
  obtain ⟨c,r,hcs,hv,hr⟩:=hv
  subst hcs
  exact Ly ht hv hx1
 cases t with
 | st u=>
  simp only [jP] at hx
  obtain ⟨y,hy,hx⟩:=Option.bind_eq_some_iff.1 hx
  cases hx
  obtain ⟨n,hn⟩:=Sn (S.F u) (hS.flat u) hv hy
  refine ⟨n+1, ?_⟩
  show bY S _ (S.F u) (S.ex u (S.im u y)) _
  rw [hS.xe]
  exact hn
 | int k=>exact one rfl rfl (by cases vs with | nil=>cases hx | cons V r=>exact ⟨V,r,rfl,hx⟩)
 | bool=>exact one rfl rfl (by cases vs with | nil=>cases hx | cons V r=>exact ⟨V,r,rfl,hx⟩)
 | str=>exact one rfl rfl (by cases vs with | nil=>cases hx | cons V r=>exact ⟨V,r,rfl,hx⟩)
 | pt=>exact one rfl rfl (by cases vs with | nil=>cases hx | cons V r=>exact ⟨V,r,rfl,hx⟩)
 | sl e=>exact one rfl rfl (by cases vs with | nil=>cases hx | cons V r=>exact ⟨V,r,rfl,hx⟩)
theorem I7 (P:Program) (hS:dU S) {s:St} {n:Nat} {e:Ty} {x:e.den S.C} {cs:List Value} (h:aN S w s n e x cs) {off:Nat} {t:Ty} {y:t.den S.C} (hy:partOf S e x off t=some y):
 ∃ m,aN S w s m t y ((cs.drop off).take (Ty.sz S t)):=by
 have he:=(oS (P:=P) hS (fun _=>⟨0,0,0,0,true⟩) (fun _=>none) h).1
 exact Oh (P:=P) hS (he.drop P S off) hy
theorem At.part {s:St} {b o':Nat} {cs:List Value} (h:At w s b o' cs) (off n:Nat):At w s b (o'+off) ((cs.drop off).take n):=fun j v hj=>by
 rw [List.getElem?_take] at hj
 split at hj
 · rw [Nat.add_assoc]; exact h (off+j) v (by simpa using hj)
 · cases hj
theorem Jm {b o':Nat} {cs:List Value} (h:w.rangeAt b o' cs) (off n:Nat):w.rangeAt b (o'+off) ((cs.drop off).take n):=PB (Py h off) n
theorem At.range {s:St} {b o':Nat} {cs:List Value} (h:At w s b o' cs):w.rangeAt b o' cs:=fun j v hj=>(h j v hj).1
def gm (T:Ty) (ds:List Value):Value:=match T with
 | .st _=> .agg ds.toArray
 | _=>ds.headD Go.undef
theorem run_load (hP:bA P S ay) {t:Nat} {T:Ty} (ht:S.ty t=some T) {b o':Nat} {ds:List Value} (hr:w.rangeAt b o' ds) (hl:ds.length=Ty.sz S T):
 (Instr.loadAt t (.pointer (some ⟨b,o',none⟩))).run P w= .ok (gm T ds) w:=by
 have one:bR T=false→Ty.sz S T=1→gm T ds=ds.headD Go.undef→(Instr.loadAt t (.pointer (some ⟨b,o',none⟩))).run P w= .ok (gm T ds) w:=by
  intro h1 h2 h3
  rw [h2] at hl
  obtain ⟨c,rfl⟩:=List.length_eq_one_iff.1 hl
  have hc:=hr 0 c rfl
  rw [h3]
  have hag:=hP.agg ht w
  rw [h1] at hag
  simp [Instr.loadAt,Instr.sureAddr,loadVar,hag]
  have :w.cell? ⟨b,o',none⟩=some c:=hc
  simp [this]
 cases T with
 | st u=>
  obtain ⟨⟨i,z,h1,h2,_⟩,_,h3⟩:=hP.ty t _ ht
  cases ha:S.ar t with
  | none=>rw [ha] at h3; obtain ⟨fs,hu,_⟩:=h3; exact run_loadAt_mid w b o' t ds (.struct fs) hr hu rfl (by rw [h1]; simp [h2,hl])
  | some p=>rw [ha] at h3; obtain ⟨te,hu,_⟩:=h3; exact run_loadAt_mid w b o' t ds (.array p.1 te) hr hu rfl (by rw [h1]; simp [h2,hl])
 | int k=>exact one rfl rfl rfl
 | bool=>exact one rfl rfl rfl
 | str=>exact one rfl rfl rfl
 | pt=>exact one rfl rfl rfl
 | sl e=>exact one rfl rfl rfl
theorem DT {s:St} {n:Nat} {T:Ty} {x:T.den S.C} {ds:List Value} (h:aN S w s n T x ds):c7 S w s T x (gm T ds):=by
 have hl:=h.length S
 have one:bR T=false→Ty.sz S T=1→gm T ds=ds.headD Go.undef→c7 S w s T x (gm T ds):=by
  intro h1 h2 h3
  rw [h2] at hl
  obtain ⟨c,rfl⟩:=List.length_eq_one_iff.1 hl
  rw [h3]
  have hc:isAgg c=false:=by
   cases n with
   | zero=>exact h.elim
   | succ n=>cases T with
    | int k=>simp [aN] at h; subst h; rfl
    | bool=>simp [aN] at h; subst h; rfl
    | str=>simp [aN] at h; subst h; rfl
    | pt=>simp [aN] at h; subst h; rfl
    | sl e=>obtain ⟨a,cap,h,_⟩:=h; simp at h; subst h; rfl
    | st u=>simp [bR] at h1
  refine ⟨by rw [h1]; exact hc,n, ?_⟩
  show aN S w s n T x c.cells.toList
  rw [aN.nH (t:=T) (by rw [hc,h1]) h1]
  exact h
 cases T with
 | st u=>exact ⟨rfl,n,by simpa [gm,Value.cells] using h⟩
 | int k=>exact one rfl rfl rfl
 | bool=>exact one rfl rfl rfl
 | str=>exact one rfl rfl rfl
 | pt=>exact one rfl rfl rfl
 | sl e=>exact one rfl rfl rfl
theorem Y9 (hP:bA P S ay) (h:Inv P S w0 M0 s0 dq env a w μ) (hd: ∀ d,o.dst=some d→d<a.tmps.size) {t:TypeId} {x:Operand} {ids:List Nat} (ho:o.op= .load t x)
 (hl:(match S.ty t,bn S env.tm x with
  | some T,some v=>IL S T (restrict S env.bx ids) v
  | _,_=> .fail).leaf (V,us)) (hK:Goal P S w0 M0 s0 dq env a o.dst V us K):o.wp P a w K Q:=by
 split at hl
 · rename_i T v ht hx
   obtain ⟨hv,eJ⟩:=bU h hx
   have fin: ∀ (b o':Nat) (ds:List Value) (V':Sy.V S.C),a.eval x= .pointer (some ⟨b,o',none⟩)→w.rangeAt b o' ds→ds.length=Ty.sz S T→V=V'→us= []→
    RV P S w (aR S w0 M0 s0 env.bx μ w) μ env.bx V' (gm T ds)→(∀ i ∈ aL S V',env.bx i≠none)→o.wp P a w K Q:=by
    rintro b o' ds V' he hr hlen rfl rfl dW hY
    refine wp_pure (V:=V) h (v:=gm T ds) ?_ hd dW hY hK
    unfold execOp
    simp only [ho,he]
    simp [run_load hP ht hr hlen]
   have L1: ∀ (b off:Nat) (vs:List (Sy.V S.C)) (cs:List Value),v= .ptr b off→vs.all (cm S)=true→w.rangeAt (μ b).b (μ b).o cs→aT P S w (aR S w0 M0 s0 env.bx μ w) μ env.bx vs cs→
    (∀ v ∈ vs, ∀ j ∈ aI S v,env.bx j≠none)→
    (match T with
     | .st u=>cond (Nat.ble (off+(S.F u).length) vs.length) (aM S (.agg u ((vs.drop off).take (S.F u).length)) []) .fail
     | _=>match vs[off]? with
      | some v=>aM S v []
      | none=> .fail).leaf (V,us)→o.wp P a w K Q:=by
    intro b off vs cs Ih sO eX dW Oa cY
    clear hl
    subst Ih
    have j7:a.eval x=_:=hv
    have hlen:=aT.length P S dW
    have scalar:bR T=false→Ty.sz S T=1→(∀ ds,gm T ds=ds.headD Go.undef)→(match vs[off]? with | some v=>aM S v [] | none=> .fail:Rt S).leaf (V,us)→o.wp P a w K Q:=by
     intro h1 h2 h3 AI
     split at AI
     · rename_i v hi
       obtain ⟨e1,e2⟩:=bW AI
       obtain ⟨c,hc,hr⟩:=aT.get P S off dW hi
       refine fin _ _ [c] v j7 (fun j u hj=> ?_) (by rw [h2]; rfl) e1 e2 (by rw [h3]; exact oG hr) (fun j hj=>Oa v (List.mem_of_getElem? hi) j ?_)
       · cases j with
         | zero=>simp at hj; subst hj; exact eX off c hc
         | succ j=>simp at hj
       · cases v <;> first | exact hj | exact (hr:False).elim
     · exact AI.elim
    cases T with
    | st u=>
     dsimp only at cY
     cases hb:Nat.ble (off+(S.F u).length) vs.length with
     | false=>rw [hb] at cY; exact cY.elim
     | true=>
      rw [hb] at cY
      obtain ⟨e1,e2⟩:=bW cY
      have hle:=Nat.le_of_ble_eq_true hb
      refine fin _ _ ((cs.drop off).take (S.F u).length) _ j7 (Jm eX off _) ?_ e1 e2 ?_ ?_
      · rw [List.length_take,List.length_drop]; show min _ _=(S.F u).length; omega
      · refine ⟨((cs.drop off).take (S.F u).length).toArray,rfl, ?_, ?_, ?_⟩
        · rw [List.length_take,List.length_drop]; omega
        · rw [List.all_eq_true] at sO ⊢
          exact fun v hv=>sO v (List.mem_of_mem_drop (List.mem_of_mem_take hv))
        · simpa using (dW.drop P S off).take P S (S.F u).length
      · intro j hj
        simp only [aL,List.mem_flatMap] at hj
        obtain ⟨v,hv,hj⟩:=hj
        exact Oa v (List.mem_of_mem_drop (List.mem_of_mem_take hv)) j hj
    | int k=>exact scalar rfl rfl (fun _=>rfl) cY
    | bool=>exact scalar rfl rfl (fun _=>rfl) cY
    | str=>exact scalar rfl rfl (fun _=>rfl) cY
    | pt=>exact scalar rfl rfl (fun _=>rfl) cY
    | sl e=>exact scalar rfl rfl (fun _=>rfl) cY
   unfold IL at hl
   split at hl
   · rename_i b off
     split at hl
     · rename_i vs hb
       have hb:=fU hb
       obtain ⟨h1,h2,h3,cs,h4,h5⟩:=h.cB b _ hb
       exact L1 b off vs cs rfl h1 h4 h5 (h.mX b vs (.inl hb)) hl
     · rename_i vs hb
       have hb:=fU hb
       obtain ⟨h1,cs,h4,h5⟩:=h.cB b _ hb
       exact L1 b off vs cs rfl h1 h4.range h5 (h.mX b vs (.inr hb)) hl
     · exact hl.elim
   · rename_i u y
     obtain ⟨b,o',ds,he,dL,hlen,n,hr⟩:=hv
     split at hl
     · rename_i y' hc
       obtain ⟨rfl,rfl⟩:=fA hc
       obtain ⟨e1,e2⟩:=bW hl
       exact fin b o' ds _ he dL.range hlen e1 e2 (DT hr) (by simp [aL,aI])
     · exact hl.elim
   · rename_i c
     obtain ⟨kb,q,he,dL⟩:=hv
     split at hl
     · obtain ⟨e1,e2⟩:=bW hl
       refine fin kb q [.pointer (some ⟨(μ c).b,(μ c).o,none⟩)] _ he dL.range rfl e1 e2 rfl (fun j hj=>eJ j (by simpa [aL,aI] using hj))
     · exact hl.elim
   · rename_i b i off
     have MD: ∀ (e:Ty) (l:List (e.den S.C)),(env.bx b=some (.arr e l)∨env.bx b=some (.b8 e l))→
      (∀ i x,l[i]? =some x→ ∃ ds,ds.length=Ty.sz S e∧w.rangeAt (μ b).b ((μ b).o+i*Ty.sz S e) ds∧ ∃ n,aN S w (aR S w0 M0 s0 env.bx μ w) n e x ds)→
      (match partOf S e (jj S e l i) off T with
       | some y=>aM S (.d T y) []
       | none=> .fail:Rt S).leaf (V,us)→o.wp P a w K Q:=by
      intro e l hb hel cY
      obtain ⟨g0,g1,he⟩:=hv.2 e l hb
      split at cY
      · rename_i y hy
        obtain ⟨e1,e2⟩:=bW cY
        obtain ⟨ds,d1,d2,n,d3⟩:=hel i.toNat _ (xk g0 (by omega))
        obtain ⟨m,hm⟩:=I7 P hP.todU d3 hy
        exact fin _ _ _ _ he (Jm d2 off (Ty.sz S T)) (hm.length S) e1 e2 (DT hm) (by simp [aL,aI])
      · exact cY.elim
     split at hl
     · rename_i e l hb
       have hb:=fU hb
       exact MD e l (.inl hb) (h.cB b _ hb).2.2.2.2 hl
     · rename_i e l hb
       have hb:=fU hb
       refine MD e l (.inr hb) (fun i x hi=> ?_) hl
       obtain ⟨ds,d1,d2,d3⟩:=(h.cB b _ hb).2.2 i x hi
       exact ⟨ds,d1,d2.range,d3⟩
     · exact hl.elim
   · exact hl.elim
 · exact hl.elim
end
end Go.Sy
namespace Go.Sy
section
variable {P:Program} {S:bB} {ay:Nat→Nat}
variable {w0:World} {M0 s0:St} {dq:List Deferred} {env:Env S.C} {a:Act} {w:World} {μ:Nat→Loc} {K:Act→World→Prop} {Q:Exit→Act→World→Prop} {o:Oper} {V:V S.C} {us:aV S.C}
theorem ad8 {t u:Nat} (h:nj S t=some u):S.ar t=none∧S.ty t=some (.st u):=by
 unfold nj at h
 cases ha:S.ar t with
 | some p=>rw [ha] at h; cases h
 | none=>
  rw [ha] at h
  refine ⟨rfl, ?_⟩
  dsimp only at h
  split at h
  · rename_i u' hu; cases h; exact hu
  · cases h
theorem bA.fP (hP:bA P S ay) {t u:Nat} (ht:nj S t=some u) {f o':Nat} {T:Ty} (hf:S.fP u f=some (o',T)):
 ∃ fs fd,P.underlying t=some (.struct fs)∧fs[f]? =some fd∧fd.offset=o'∧S.ty fd.type=some T∧1≤Ty.sz S T∧o'+Ty.sz S T≤(S.F u).length:=by
 obtain ⟨ha,ht⟩:=ad8 ht
 obtain ⟨_,_,h⟩:=hP.ty t _ ht
 rw [ha] at h
 obtain ⟨fs,hu,hfl⟩:=h
 obtain ⟨fd,h1,h2,h3,h4,h5⟩:=hfl f o' T hf
 exact ⟨fs,fd,hu,h1,h2,h3,h4,h5⟩
theorem adg (hP:bA P S ay) {t u:Nat} (ht:nj S t=some u) {f o':Nat} {T:Ty} (hf:S.fP u f=some (o',T)) (ad:Addr) (w:World):
 (Instr.fieldAt t (.pointer (some ad)) f).run P w= .ok (.pointer (some (ad.add o'))) w:=by
 obtain ⟨fs,fd,hu,h1,h2,h3,h4,_⟩:=hP.fP ht hf
 have hn: ¬ Ty.sz S T=0:=by omega
 simp [Instr.fieldAt,run_underlying hu,h1,Instr.sureAddr,fieldPlace,hP.size h3,hn,h2]
theorem WA (hP:bA P S ay) (h:Inv P S w0 M0 s0 dq env a w μ) (hd: ∀ d,o.dst=some d→d<a.tmps.size) {t:TypeId} {x:Operand} {f:Nat} (ho:o.op= .fieldAddr t x f)
 (hl:(match bn S env.tm x with
  | some v=>Ht S t f v
  | none=> .fail).leaf (V,us)) (hK:Goal P S w0 M0 s0 dq env a o.dst V us K):o.wp P a w K Q:=by
 split at hl
 · rename_i v hx
   obtain ⟨hv,eJ⟩:=bU h hx
   have fin: ∀ (ad:Addr) (u mK:Nat) (T:Ty),a.eval x= .pointer (some ad)→nj S t=some u→S.fP u f=some (mK,T)→us= []→
    RV P S w (aR S w0 M0 s0 env.bx μ w) μ env.bx V (.pointer (some (ad.add mK)))→(∀ i ∈ aL S V,env.bx i≠none)→o.wp P a w K Q:=by
    rintro ad u mK T he ht hf rfl dW hY
    refine wp_pure (V:=V) h ?_ hd dW hY hK
    unfold execOp
    simp only [ho,he]
    simp [adg hP ht hf]
   unfold Ht at hl
   split at hl
   · rename_i b off
     split at hl
     · rename_i u ht
       split at hl
       · rename_i o' T hf
         obtain ⟨e1,e2⟩:=bW hl
         subst e1
         refine fin _ u o' T hv ht hf e2 ?_ (fun i hi=>eJ i hi)
         show Value.pointer _=_
         rw [Addr.add_mid,Nat.add_assoc]
       · exact hl.elim
     · exact hl.elim
   · rename_i u y
     split at hl
     · rename_i u' ht
       cases hb:Nat.beq u u' with
       | false=>rw [hb] at hl; exact hl.elim
       | true=>
       rw [hb] at hl
       obtain rfl:=Nat.eq_of_beq_eq_true hb
       dsimp only [cond] at hl
       split at hl
       · rename_i o' T hf
         split at hl
         · rename_i z hz
           obtain ⟨e1,e2⟩:=bW hl
           subst e1
           obtain ⟨b,mK,ds,he,dL,hlen,n,hr⟩:=hv
           obtain ⟨m,hm⟩:=I7 P hP.todU hr hz
           exact fin _ u o' T he ht hf e2 ⟨b,_,_,by rw [Addr.add_mid],dL.part o' _,hm.length S,m,hm⟩ (by simp [aL,aI])
         · exact hl.elim
       · exact hl.elim
     · exact hl.elim
   · rename_i b i off
     split at hl
     · rename_i u ht
       split at hl
       · rename_i o' T hf
         obtain ⟨e1,e2⟩:=bW hl
         subst e1
         obtain ⟨⟨ad,he⟩,jO⟩:=hv
         refine fin _ u o' T he ht hf e2 ⟨⟨_,rfl⟩,fun e' l' hb'=> ?_⟩ (fun i hi=>eJ i hi)
         obtain ⟨WI,WJ,he'⟩:=jO e' l' hb'
         refine ⟨WI,WJ, ?_⟩
         rw [he'] at he
         cases he
         rw [Addr.add_mid,Nat.add_assoc]
       · exact hl.elim
     · exact hl.elim
   · rename_i b c
     obtain ⟨kb,q,he,dL,iD,HN⟩:=hv
     split at hl
     · rename_i u ht
       split at hl
       · rename_i o' T hf
         split at hl
         · obtain ⟨e1,e2⟩:=bW hl
           subst e1
           exact fin _ u 0 T he ht hf e2 ⟨kb,q,rfl,dL⟩ (fun i hi=>eJ i (by simp [aL,aI] at hi ⊢; exact .inr hi))
         · rename_i mK
           obtain ⟨e1,e2⟩:=bW hl
           subst e1
           refine fin _ u (mK+1) T he ht hf e2 ?_ (fun i hi=>eJ i (by simp [aL,aI] at hi ⊢; exact .inl hi))
           show Value.pointer _=_
           rw [Addr.add_mid,iD,HN,Nat.add_assoc,Nat.add_comm 1 mK]
       · exact hl.elim
     · exact hl.elim
   · exact hl.elim
 · exact hl.elim
theorem q_ (hP:bA P S ay) {t:Nat} {T:Ty} (ht:S.ty t=some T) {cs:Array Value} {off:Nat} (hle:off+Ty.sz S T≤cs.size) (w:World):
 (part t cs off).run P w= .ok (gm T ((cs.toList.drop off).take (Ty.sz S T))) w:=by
 have one:bR T=false→Ty.sz S T=1→(∀ ds,gm T ds=ds.headD Go.undef)→(part t cs off).run P w= .ok (gm T ((cs.toList.drop off).take (Ty.sz S T))) w:=by
  intro h1 h2 h3
  have hag:=hP.agg ht w
  rw [h1] at hag
  rw [h2] at hle
  have hlt:off<cs.size:=by omega
  unfold part
  simp [hag,hlt]
  rw [h3,h2,List.drop_eq_getElem_cons (by simpa using hlt)]
  simp
 cases T with
 | st u=>
  have hag:=hP.agg ht w
  have hsz:=hP.size ht w
  unfold part
  simp only [Sem.run_bind,hag,hsz,bR,Result.andThen_ok,if_true,Sem.run_pure]
  congr 2
  show _=((cs.toList.drop off).take (Ty.sz S (.st u))).toArray
  apply Array.ext'
  simp [Array.toList_extract,List.extract_eq_take_drop]
 | int k=>exact one rfl rfl (fun _=>rfl)
 | bool=>exact one rfl rfl (fun _=>rfl)
 | str=>exact one rfl rfl (fun _=>rfl)
 | pt=>exact one rfl rfl (fun _=>rfl)
 | sl e=>exact one rfl rfl (fun _=>rfl)
theorem WB (hP:bA P S ay) (h:Inv P S w0 M0 s0 dq env a w μ) (hd: ∀ d,o.dst=some d→d<a.tmps.size) {t:TypeId} {x:Operand} {f:Nat} (ho:o.op= .field t x f)
 (hl:(match nj S t,bn S env.tm x with
  | some u,some (.d (.st u') y)=>cond (Nat.beq u u') (match S.fP u' f with
   | some (o,w)=>match partOf S (.st u') y o w with
    | some z=>aM S (.d w z) []
    | none=> .fail
   | none=> .fail) .fail
  | some u,some (.agg u' vs)=>cond (Nat.beq u u'&&vs.length == (S.F u).length) (match S.fP u f with
   | some (o, .st w)=>aM S (.agg w ((vs.drop o).take (S.F w).length)) []
   | some (o,_)=>match vs[o]? with
    | some v=>aM S v []
    | none=> .fail
   | none=> .fail) .fail
  | _,_=> .fail).leaf (V,us)) (hK:Goal P S w0 M0 s0 dq env a o.dst V us K):o.wp P a w K Q:=by
 have fin: ∀ (u mK:Nat) (T:Ty) (cs:Array Value),a.eval x= .agg cs→cs.size=(S.F u).length→nj S t=some u→S.fP u f=some (mK,T)→us= []→
  RV P S w (aR S w0 M0 s0 env.bx μ w) μ env.bx V (gm T ((cs.toList.drop mK).take (Ty.sz S T)))→(∀ i ∈ aL S V,env.bx i≠none)→o.wp P a w K Q:=by
  rintro u mK T cs he hsz ht hf rfl dW hY
  obtain ⟨fs,fd,hu,h1,h2,h3,h4,h5⟩:=hP.fP ht hf
  refine wp_pure (V:=V) h ?_ hd dW hY hK
  unfold execOp
  simp only [ho,he]
  simp [Instr.field,run_underlying hu,h1,asAgg,h2,q_ hP h3 (cs:=cs) (off:=mK) (by omega)]
 split at hl
 · rename_i u u' y ht hx
   obtain ⟨hv,eJ⟩:=bU h hx
   cases hb:Nat.beq u u' with
   | false=>rw [hb] at hl; exact hl.elim
   | true=>
    rw [hb] at hl
    obtain rfl:=Nat.eq_of_beq_eq_true hb
    dsimp only [cond] at hl
    split at hl
    · rename_i o' T hf
      split at hl
      · rename_i z hz
        obtain ⟨e1,e2⟩:=bW hl
        subst e1
        obtain ⟨ha,n,hr⟩:=hv
        have : ∃ cs,a.eval x= .agg cs:=by
         cases e:a.eval x <;> rw [e] at ha <;> first | exact ⟨_,rfl⟩ | (simp [Go.Sy.isAgg,bR] at ha)
        obtain ⟨cs,he⟩:=this
        rw [he] at hr
        obtain ⟨m,hm⟩:=I7 P hP.todU hr hz
        exact fin u o' T cs he (by have :=hr.length S; simpa [Value.cells,Ty.sz] using this) ht hf e2 (DT hm) (by simp [aL,aI])
      · exact hl.elim
    · exact hl.elim
 · rename_i u u' vs ht hx
   obtain ⟨⟨cs,he,hlen,sO,hvs⟩,eJ⟩:=bU h hx
   cases hb:(Nat.beq u u'&&vs.length == (S.F u).length) with
   | false=>rw [hb] at hl; exact hl.elim
   | true=>
    rw [hb] at hl
    rw [Bool.and_eq_true] at hb
    obtain rfl:=Nat.eq_of_beq_eq_true hb.1
    have hcl:=aT.length P S hvs
    have hsz:cs.size=(S.F u).length:=by rw [← hlen, ← hcl]; simp
    dsimp only [cond] at hl
    split at hl
    · rename_i o' Cu hf
      obtain ⟨e1,e2⟩:=bW hl
      subst e1
      obtain ⟨fs,fd,hu,h1,h2,h3,h4,h5⟩:=hP.fP ht hf
      refine fin u o' _ cs he hsz ht hf e2 ⟨_,rfl, ?_, ?_, ?_⟩ (fun i hi=> ?_)
      · rw [List.length_take,List.length_drop]
        have :Ty.sz S (.st Cu)=(S.F Cu).length:=rfl
        omega
      · rw [List.all_eq_true] at sO ⊢
        exact fun v hv=>sO v (List.mem_of_mem_drop (List.mem_of_mem_take hv))
      · have :=(hvs.drop P S o').take P S (S.F Cu).length
        simpa [Ty.sz] using this
      · simp only [aL,List.mem_flatMap] at hi
        obtain ⟨v,hv,hi⟩:=hi
        exact eJ i (by simp only [aL,List.mem_flatMap]; exact ⟨v,List.mem_of_mem_drop (List.mem_of_mem_take hv),hi⟩)
    · rename_i o' T hne hf
      split at hl
      · rename_i v hi
        obtain ⟨e1,e2⟩:=bW hl
        subst e1
        obtain ⟨c,hc,hr⟩:=aT.get P S o' hvs hi
        have hT:bR T=false:=by
         cases T with
         | st Cu=>exact absurd rfl (hne Cu)
         | _=>rfl
        have hmk:gm T ((cs.toList.drop o').take (Ty.sz S T))=c:=by
         have h1:Ty.sz S T=1:=by cases T <;> first | rfl | simp [bR] at hT
         have hlt:=(List.getElem?_eq_some_iff.1 hc).1
         have vk:=(List.getElem?_eq_some_iff.1 hc).2
         rw [h1,List.drop_eq_getElem_cons hlt]
         cases T <;> first | (simp [gm,vk]; done) | simp [bR] at hT
        refine fin u o' T cs he hsz ht hf e2 (by rw [hmk]; exact oG hr) (fun i hi'=> ?_)
        refine eJ i ?_
        simp only [aL,List.mem_flatMap]
        refine ⟨V,List.mem_of_getElem? hi, ?_⟩
        cases V <;> first | exact hi' | exact (hr:False).elim
      · exact hl.elim
    · exact hl.elim
 · exact hl.elim
end
end Go.Sy
namespace Go.Sy
section
variable {P:Program} {S:bB} {ay:Nat→Nat}
variable {w0:World} {M0 s0:St} {dq:List Deferred} {env:Env S.C} {a:Act} {w:World} {μ:Nat→Loc} {K:Act→World→Prop} {Q:Exit→Act→World→Prop} {o:Oper} {V:V S.C} {us:aV S.C}
theorem Wx (s:List UInt8) (i j:Nat):(⟨s.toArray⟩:ByteArray).extract i j=⟨((s.take j).drop i).toArray⟩:=by
 apply ByteArray.ext
 apply Array.ext'
 rw [Lib.extract_data]
 simp [List.drop_take]
theorem Rz (s:List UInt8):ByteArray.size ⟨s.toArray⟩=s.length:=by show s.toArray.size=_; simp
theorem wC {k:IntKind} {i:Int} {y:Nat} (code:BoundsCode) (h0:0≤i) (h1:i≤(y:Int)) (w:World):(Instr.sliceBound (.int k i) y code).run P w= .ok i.toNat w:=by
 simp [Instr.sliceBound,asIntOf,h0,h1]
theorem O4 (h:Inv P S w0 M0 s0 dq env a w μ) {x:Option Operand} {l:Option (Sy.V S.C)} (hx:kO S env.tm x=some l):
 (x=none∧l=none)∨ ∃ y v,x=some y∧l=some v∧RV P S w (aR S w0 M0 s0 env.bx μ w) μ env.bx v (a.eval y):=by
 cases x with
 | none=>cases hx; exact .inl ⟨rfl,rfl⟩
 | some y=>
  simp only [kO] at hx
  obtain ⟨v,hv,hx⟩:=Option.bind_eq_some_iff.1 hx
  cases hx
  exact .inr ⟨y,v,rfl,rfl,(bU h hv).1⟩
theorem vn {s:St} {bx:Bx S.C} {V:Sy.V S.C} {v:Value} {n:Int} (h:RV P S w s μ bx V v) (hi:qD S V=some n): ∃ k,v= .int k n:=by
 unfold qD at hi
 cases e:V.int? with
 | none=>rw [e] at hi; cases hi
 | some p=>
  rw [e] at hi
  cases hi
  exact ⟨p.1,kN h e⟩
theorem uG (h:Inv P S w0 M0 s0 dq env a w μ) {lo hi:Option Operand} {l hh:Option (Sy.V S.C)} (hlo:kO S env.tm lo=some l) (hhi:kO S env.tm hi=some hh) {n cap:Nat} (hcap:n≤cap)
 {gs:List Gd} {i j:Int} (hb:bounds S n l hh=some (gs,i,j)) (hg: ∀ g ∈ gs,g.p) (Yu:Bool):
 (Instr.sliceBounds Yu n cap (lo.map a.eval) (hi.map a.eval) none).run P w= .ok (i.toNat,j.toNat,cap) w∧0≤i∧i≤j∧j≤(n:Int)∧(hh=none→j=n):=by
 rcases O4 h hlo with ⟨rfl,rfl⟩ | ⟨x,v,rfl,rfl,hv⟩ <;> rcases O4 h hhi with ⟨rfl,rfl⟩ | ⟨y,u,rfl,rfl,hu⟩
 · cases hb
   exact ⟨by simp [Instr.sliceBounds],by omega,by omega,by omega,fun _=>rfl⟩
 · simp only [bounds] at hb
   obtain ⟨m,hm,hb⟩:=Option.bind_eq_some_iff.1 hb
   cases hb
   obtain ⟨k,hk⟩:=vn hu hm
   have g0:0≤j:=hg ⟨0≤j,inferInstance⟩ (by simp [gd])
   have g1:j≤(n:Int):=hg ⟨j≤(n:Int),inferInstance⟩ (by simp [gd])
   refine ⟨?_,by omega,by omega,g1,fun h=>by cases h⟩
   simp only [Option.map,hk,Instr.sliceBounds]
   simp [wC (P:=P) _ g0 (show j≤(cap:Int) by omega)]
 · simp only [bounds] at hb
   obtain ⟨m,hm,hb⟩:=Option.bind_eq_some_iff.1 hb
   cases hb
   obtain ⟨k,hk⟩:=vn hv hm
   have g0:0≤i:=hg ⟨0≤i,inferInstance⟩ (by simp [gd])
   have g1:i≤(n:Int):=hg ⟨i≤(n:Int),inferInstance⟩ (by simp [gd])
   refine ⟨?_,g0,g1,by omega,fun _=>rfl⟩
   simp only [Option.map,hk,Instr.sliceBounds]
   simp [wC (P:=P) _ g0 g1]
 · simp only [bounds] at hb
   obtain ⟨m,hm,hb⟩:=Option.bind_eq_some_iff.1 hb
   obtain ⟨p,hp,hb⟩:=Option.bind_eq_some_iff.1 hb
   cases hb
   obtain ⟨k,hk⟩:=vn hv hm
   obtain ⟨k',hk'⟩:=vn hu hp
   have g0:0≤j:=hg ⟨0≤j,inferInstance⟩ (by simp [gd])
   have g1:j≤(n:Int):=hg ⟨j≤(n:Int),inferInstance⟩ (by simp [gd])
   have g2:0≤i:=hg ⟨0≤i,inferInstance⟩ (by simp [gd])
   have g3:i≤j:=hg ⟨i≤j,inferInstance⟩ (by simp [gd])
   refine ⟨?_,g2,g3,g1,fun h=>by cases h⟩
   simp only [Option.map,hk,hk',Instr.sliceBounds]
   simp [wC (P:=P) _ g0 (show j≤(cap:Int) by omega),wC (P:=P) .sliceB g2 (show i≤(j.toNat:Int) by omega)]
def nk (ad:Option Addr) (cap lo sz:Nat):Option Addr:=if cap=lo then ad else ad.map (·.add (lo*sz))
theorem adl (hP:bA P S ay) {t:Nat} {e:Ty} (ht:S.ty t=some (.sl e)) {ad:Option Addr} {n cap i j:Nat} {lo hi:Option Value}
 (hb:(Instr.sliceBounds true n cap lo hi none).run P w= .ok (i,j,cap) w):(Instr.sliceAt t (.slice ad n cap) lo hi none).run P w= .ok (.slice (nk ad cap i (Ty.sz S e)) (j - i) (cap - i)) w:=by
 obtain ⟨te,ie,z,hu,he,_⟩:=hP.sl ht
 simp [Instr.sliceAt,Instr.slice,run_underlying hu,hb,hP.size he,nk]
theorem G4 {α:Type} (l:List α) {i j:Int} {hh:Option (Sy.V S.C)} (h0:0≤i) (h1:i≤j) (h2:j≤(l.length:Int)) (hn:hh=none→j=(l.length:Int)):
 lz S l i j hh=(l.take j.toNat).drop i.toNat:=by
 cases hh with
 | none=>
  have :=hn rfl
  show l.drop i.toNat=_
  rw [this,show ((l.length:Int)).toNat=l.length from by omega,List.take_length]
 | some v=>rfl
theorem ZP {R:(t:Ty)→t.den S.C→List Value→Prop} {s:St} {e:Ty} {b o':Nat} {l:List (e.den S.C)} (h:zD S R w s e b o' l) (i j:Nat):zD S R w s e b (o'+i*Ty.sz S e) ((l.take j).drop i):=fun k x hk=>by
 have hk':l[i+k]? =some x:=by
  rw [List.getElem?_drop,List.getElem?_take] at hk
  split at hk
  · exact hk
  · cases hk
 obtain ⟨ds,d1,d2,d3⟩:=h (i+k) x hk'
 refine ⟨ds,d1, ?_,d3⟩
 rw [show o'+i*Ty.sz S e+k*Ty.sz S e=o'+(i+k)*Ty.sz S e from by rw [Nat.add_mul]; omega]
 exact d2
theorem Kn {s:St} {e:Ty} {l:List (e.den S.C)} {ad:Option Addr} {cap:Nat} (h:c7 S w s (.sl e) l (.slice ad l.length cap)) {i j:Nat} (h1:i≤j) (h2:j≤l.length):
 c7 S w s (.sl e) ((l.take j).drop i) (.slice (nk ad cap i (Ty.sz S e)) (j - i) (cap - i)):=by
 obtain ⟨uC,cap',he,hle,hel⟩:=nC h
 cases he
 have hlen:((l.take j).drop i).length=j - i:=by rw [List.length_drop,List.length_take]; omega
 rcases hel with hel | ⟨b,o',n,rfl,hel⟩
 · exact ⟨rfl,1,_,_,by rw [hlen]; rfl,by rw [hlen]; omega, .inl (by rw [hlen]; omega)⟩
 · by_cases hc:cap=i
   · exact ⟨rfl,1,_,_,by rw [hlen]; rfl,by rw [hlen]; omega, .inl (by rw [hlen]; omega)⟩
   · refine ⟨rfl,n+1,_,_,by rw [hlen]; rfl,by rw [hlen]; omega, .inr ⟨b,o'+i*Ty.sz S e, ?_,ZP hel i j⟩⟩
     rw [nk,if_neg hc]
     simp [Addr.add_mid]
theorem adn {t:Nat} (hu:P.underlying t=some .string) (s:List UInt8) {i j:Nat} {lo hi:Option Value}
 (hb:(Instr.sliceBounds false s.length s.length lo hi none).run P w= .ok (i,j,s.length) w):(Instr.sliceAt t (.string ⟨s.toArray⟩) lo hi none).run P w= .ok (.string ⟨((s.take j).drop i).toArray⟩) w:=by
 have e1:=Wx s i j
 have hsz:=Rz s
 simp [Instr.sliceAt,Instr.slice,run_underlying hu,hsz,hb,e1]
theorem UM {n:Nat} {hh:Option (Sy.V S.C)} {gs:List Gd} {i j:Int} (hb:bounds S n none hh=some (gs,i,j)):i=0:=by
 cases hh with
 | none=>cases hb; rfl
 | some u=>
  simp only [bounds] at hb
  obtain ⟨m,hm,hb⟩:=Option.bind_eq_some_iff.1 hb
  cases hb; rfl
theorem Ky {s':St} {bx:Bx S.C} {k:Nat} {e:Ty} {l:List (e.den S.C)} (hb:bx k=some (.arr e l)) {ad:Option Addr} {n cap:Nat} (ha:sg (μ k) ad n cap (Ty.sz S e)) {N:Nat} {lo hh:Option (Sy.V S.C)} {gs:List Gd} {i j:Int}
 (hbd:bounds S N lo hh=some (gs,i,j)) (h0:0≤i) (h1:i≤j) (h2:j≤(l.length:Int)) (h3:j≤(cap:Int)):
 RV P S w s' μ bx (rU S k i j lo) (.slice (nk ad cap i.toNat (Ty.sz S e)) (j.toNat - i.toNat) (cap - i.toNat)):=by
 have hn: ∀ e' (l':List (e'.den S.C)),bx k=some (.arr e' l')→e'=e∧l'.length=l.length∧Ty.sz S e'=Ty.sz S e:=by
  intro e' l' h
  rw [hb] at h
  cases h
  exact ⟨rfl,rfl,rfl⟩
 cases lo with
 | none=>
  have :=UM hbd
  subst this
  refine ⟨⟨_,_,_,rfl⟩,fun e' l' hb'=> ?_⟩
  obtain ⟨_,q2,q3⟩:=hn e' l' hb'
  rw [q2,q3]
  have hs:nk ad cap 0 (Ty.sz S e)=ad:=by
   unfold nk
   split
   · rfl
   · rw [ha.addr]
     split
     · rfl
     · simp [Addr.add_mid]
  refine ⟨h1,by omega,ad,cap, ?_,ha.addr,ha.mB,ha.cells,ha.isNil,by omega⟩
  rw [show (0:Int).toNat=0 from rfl,hs]; rfl
 | some u=>
  refine ⟨⟨_,_,_,rfl⟩,fun e' l' hb'=> ?_⟩
  obtain ⟨_,q2,q3⟩:=hn e' l' hb'
  rw [q2,q3]
  refine ⟨h0,by omega,by omega,_,_,by rw [show (j - i).toNat=j.toNat - i.toNat from by omega],by omega, ?_⟩
  by_cases hz:(j - i).toNat=0
  · exact .inl hz
  · refine .inr ?_
    have nT:(μ k).nil=false:=by
     cases hn:(μ k).nil with
     | false=>rfl
     | true=>have :=ha.isNil hn; have :=ha.mB; omega
    unfold nk
    rw [if_neg (by omega),ha.addr,nT]
    simp [Addr.add_mid]
theorem adG (hP:bA P S ay) (h:Inv P S w0 M0 s0 dq env a w μ) (hd: ∀ d,o.dst=some d→d<a.tmps.size) {t:TypeId} {x:Operand} {lo hi:Option Operand} {ids:List Nat} {vw:Bool} (ho:o.op= .slice t x lo hi none)
 (hl:(match S.ty t,bn S env.tm x,kO S env.tm lo,kO S env.tm hi with
  | some T,some v,some l,some h=>Ke S vw T (restrict S env.bx ids) l h v
  | _,_,_,_=> .fail).leaf (V,us)) (hK:Goal P S w0 M0 s0 dq env a o.dst V us K):o.wp P a w K Q:=by
 split at hl
 · rename_i T v l hh ht hx hlo hhi
   obtain ⟨hv,eJ⟩:=bU h hx
   have run: ∀ (e:Ty) (ad:Option Addr) (n cap i j:Nat),S.ty t=some (.sl e)→a.eval x= .slice ad n cap→(Instr.sliceBounds true n cap (lo.map a.eval) (hi.map a.eval) none).run P w= .ok (i,j,cap) w→
    (execOp a.eval o).run P w= .ok (.value (.slice (nk ad cap i (Ty.sz S e)) (j - i) (cap - i))) w:=by
    intro e ad n cap i j ht he hb
    unfold execOp
    simp only [ho,he]
    simp [adl hP ht hb]
   have data: ∀ (e:Ty) (s:List (e.den S.C)),c7 S w (aR S w0 M0 s0 env.bx μ w) (.sl e) s (a.eval x)→(if T= .sl e then match bounds S s.length l hh with
    | some (gs,a,b)=>Tr.gd gs (aM S (.d (.sl e) (lz S s a b hh)) [])
    | none=> .fail else .fail:Rt S).leaf (V,us)→o.wp P a w K Q:=by
    intro e s hr cY
    clear hl
    split at cY
    · rename_i hT
      subst hT
      split at cY
      · rename_i gs i j hb
        obtain ⟨hg,rfl,rfl⟩:=hO cY
        obtain ⟨ad,cap,he,hcap,_⟩:=nC hr
        obtain ⟨b1,b2,b3,b4,b5⟩:=uG h hlo hhi hcap hb hg true
        rw [he] at hr
        refine wp_pure (V:= .d (.sl e) (lz S s i j hh)) h (run e ad _ cap _ _ ht he b1) hd ?_ (by simp [aL,aI]) hK
        show c7 S w _ (.sl e) (lz S s i j hh) _
        rw [G4 s b2 b3 b4 b5]
        exact Kn hr (by omega) (by omega)
      · exact cY.elim
    · exact cY.elim
   unfold Ke at hl
   split at hl
   · rename_i s
     split at hl
     · rename_i hT
       subst hT
       split at hl
       · rename_i gs i j hb
         obtain ⟨hg,rfl,rfl⟩:=hO hl
         have he:=sn hv
         obtain ⟨b1,b2,b3,b4,b5⟩:=uG h hlo hhi (Nat.le_refl _) hb hg false
         have hu:P.underlying t=some .string:=(hP.ty t _ ht).2
         refine wp_pure (V:= .d .str (lz S s i j hh)) h (v:= .string ⟨((List.take j.toNat s).drop i.toNat).toArray⟩) ?_ hd ?_ (by simp [aL,aI]) hK
         · unfold execOp
           simp only [ho,he]
           rw [Sem.run_bind,show Option.map a.eval none=none from rfl,adn hu s b1]
           rfl
         · show c7 S w _ .str (lz S s i j hh) _
           rw [G4 s b2 b3 b4 b5]
           exact Ci ..
       · exact hl.elim
     · exact hl.elim
   · exact data _ _ hv hl
   · rename_i k e s
     split at hl
     · rename_i hT
       subst hT
       split at hl
       · rename_i gs i j hb
         obtain ⟨hg,rfl,rfl⟩:=hO hl
         obtain ⟨ad,cap,he,hcap,_⟩:=nC hv.1
         obtain ⟨b1,b2,b3,b4,b5⟩:=uG h hlo hhi hcap hb hg true
         have hr:=hv.1
         rw [he] at hr
         have hsub:=Kn hr (show i.toNat≤j.toNat by omega) (by omega)
         cases hh with
         | some j7=>
          refine wp_pure (V:= .d (.sl e) (cut s i j)) h (run e ad _ cap _ _ ht he b1) hd hsub (by simp [aL,aI]) hK
         | none=>
          have hj:=b5 rfl
          have NB:cutFrom s i=(s.take j.toNat).drop i.toNat:=by
           show s.drop i.toNat=_
           rw [hj,show ((s.length:Int)).toNat=s.length from by omega,List.take_length]
          refine wp_pure (V:= .bE k e (cutFrom s i)) h (run e ad _ cap _ _ ht he b1) hd ⟨by rw [NB]; exact hsub,fun hb'=> ?_⟩ (fun i hi=>eJ i hi) hK
          have hlen:(cutFrom s i).length=j.toNat - i.toNat:=by rw [NB,List.length_drop,List.length_take]; omega
          obtain ⟨uC,cap',he',AS⟩:=hv.2 hb'
          rw [he] at he'
          cases he'
          refine ⟨_,_,by rw [hlen], ?_⟩
          rw [hlen]
          rcases AS with ⟨rfl,rfl,hn⟩ | ⟨b,o',rfl,t1,t2⟩
          · exact .inl ⟨by unfold nk; split <;> rfl,by omega,hn⟩
          · by_cases hc:cap=i.toNat
            · refine .inr ⟨b,o',by rw [nk,if_pos hc], ?_,fun hlt=>by omega⟩
              rw [t1]; congr 1; omega
            · refine .inr ⟨b,o'+i.toNat*Ty.sz S e,by rw [nk,if_neg hc]; simp [Addr.add_mid], ?_,fun hlt=> ?_⟩
              · rw [t1]; congr 1; omega
              · obtain ⟨t2,t3⟩:=t2 (by omega)
                refine ⟨t2, ?_⟩
                rw [t3]
                have :s.length*Ty.sz S e=i.toNat*Ty.sz S e+(j.toNat - i.toNat)*Ty.sz S e:=by rw [← Nat.add_mul]; congr 1; omega
                omega
       · exact hl.elim
     · exact hl.elim
   · rename_i k
     split at hl
     · rename_i e s hb
       have hb:=fU hb
       split at hl
       · rename_i hT
         subst hT
         split at hl
         · rename_i gs i j hbd
           cases vw with
           | true=>
            obtain ⟨hg,rfl,rfl⟩:=hO hl
            obtain ⟨ad,cap,he,hao⟩:=hv.2 e s (.inl hb)
            obtain ⟨b1,b2,b3,b4,b5⟩:=uG h hlo hhi hao.fits hbd hg true
            have hfit:=hao.fits
            refine wp_pure (V:=rU S k i j l) h (run e ad _ cap _ _ ht he b1) hd (Ky hb hao hbd b2 b3 b4 (by omega)) (fun q hq=> ?_) hK
            have :q=k:=by cases l <;> simpa [rU,aL,aI] using hq
            rw [this,hb]; simp
           | false=>
           have hl:(Tr.gd gs (aM S (.d (.sl e) (lz S s i j hh)) [(k, .b8 e s)]):Rt S).leaf (V,us):=hl
           obtain ⟨hg,rfl,rfl⟩:=hO hl
           have htk:Tk S env.bx (aF env.bx [(k, .b8 e s)]):=Tk.Sz hb
           obtain ⟨ad,cap,he,hao⟩:=hv.2 e s (.inl hb)
           obtain ⟨b1,b2,b3,b4,b5⟩:=uG h hlo hhi hao.fits hbd hg true
           refine afP (V:= .d (.sl e) (lz S s i j hh)) h (run e ad _ cap _ _ ht he b1) hd htk (fun hI=> ?_) (by simp [aL,aI]) hK
           have hr:=Hz hI (Tk.refl S _) (bq env.bx k (some (.b8 e s))) (b6.step P S (R8 htk) (fun i B0 cg=> ?_) (fun j hj=>eJ j hj) hv)
           · rw [he] at hr
             show c7 S w _ (.sl e) (lz S s i j hh) _
             rw [G4 s b2 b3 b4 b5]
             have hr':c7 S w (di S w0 M0 s0 (aF env.bx [(k, .b8 e s)]) (aF env.bx [(k, .b8 e s)]) μ w) (.sl e) s (.slice ad s.length cap):=⟨rfl,hr⟩
             refine c7.mono S (fun b o ⟨h1,h2,h3⟩=>⟨⟨h1,h2,fun i hi=> ?_⟩,rfl⟩) (Kn hr' (show i.toNat≤j.toNat by omega) (by omega))
             rcases h3 i hi with ⟨e',l',hf⟩ | hf
             · unfold live at hi; rw [hf] at hi; exact hi.elim
             · exact hf
           · rcases htk i with e1 | ⟨e1,_⟩ | ⟨e',l',e1,e2⟩
             · exact ⟨B0,e1.trans cg,dJ.refl S _ _⟩
             · exact ⟨_,e1,by cases B0 <;> rfl⟩
             · rw [cg] at e1; cases e1; exact ⟨_,e2,rfl,rfl,rfl⟩
         · exact hl.elim
       · exact hl.elim
     · rename_i e s hb
       have hb:=fU hb
       refine data e s ?_ hl
       obtain ⟨n,hn⟩:=Hz h (Tk.refl S _) hb hv
       obtain ⟨ad,cap,he,hao⟩:=hv.2 e s (.inr hb)
       rw [he] at hn ⊢
       refine ⟨rfl,n,hn.mono S (fun b o ⟨h1,h2,h3⟩=>⟨⟨h1,h2,fun i hi=> ?_⟩,rfl⟩) (Nat.le_refl _)⟩
       rcases h3 i hi with ⟨e',l',hf⟩ | hf
       · unfold live at hi; rw [hf] at hi; exact hi.elim
       · exact hf
     · exact hl.elim
   · rename_i k n
     split at hl
     · rename_i e s hb
       have hb:=fU hb
       obtain ⟨hn0,hnl,ad,cap,he,hao⟩:=hv.2 e s hb
       obtain ⟨g1,g2,g3,g4,g5⟩:=h.cB k _ hb
       have hcap:=hao.mB
       have hfit:=hao.fits
       have ids: ∀ i j, ∀ q ∈ aL S (rU S k i j l),env.bx q≠none:=fun i j q hq=>by
        have :q=k:=by cases l <;> simpa [rU,aL,aI] using hq
        rw [this,hb]; simp
       split at hl
       · rename_i hT
         subst hT
         cases hh with
         | none=>
          dsimp only at hl
          split at hl
          · rename_i gs i j hbd
            obtain ⟨hg,rfl,rfl⟩:=hO hl
            obtain ⟨b1,b2,b3,b4,b5⟩:=uG h hlo hhi hao.fits hbd hg true
            exact wp_pure (V:=rU S k i j l) h (run e ad _ cap _ _ ht he b1) hd (Ky hb hao hbd b2 b3 (by omega) (by omega)) (ids i j) hK
          · exact hl.elim
         | some u=>
          dsimp only at hl
          split at hl
          · rename_i gs i j hbd
            obtain ⟨hg,rfl,rfl⟩:=hO hl
            obtain ⟨b1,b2,b3,b4,b5⟩:=uG (cap:=cap) h hlo hhi (show s.length≤cap by omega) hbd hg true
            obtain ⟨hi',XC⟩: ∃ y,hi=some y:=by
             cases hi with
             | none=>cases hhi
             | some y=>exact ⟨y,rfl⟩
            subst XC
            have Uy:(Instr.sliceBounds true n.toNat cap (lo.map a.eval) ((some hi').map a.eval) none).run P w= .ok (i.toNat,j.toNat,cap) w:=b1
            exact wp_pure (V:=rU S k i j l) h (run e ad _ cap _ _ ht he Uy) hd (Ky hb hao hbd b2 b3 b4 (by omega)) (ids i j) hK
          · exact hl.elim
       · exact hl.elim
     · exact hl.elim
   · exact hl.elim
 · exact hl.elim
theorem YN (hP:bA P S ay) (h:Inv P S w0 M0 s0 dq env a w μ) (hd: ∀ d,o.dst=some d→d<a.tmps.size) {c:Call} (ho:o.op= .call c) (hc:c.callee= .builtin .len) {args:List (Sy.V S.C)} {ids:List Nat}
 (hargs:c.args.toList.mapM (bn S env.tm)=some args)
 (hl:(match args,(c.argTypes[0]?).bind S.ty with
  | [v],some T=>IF S T (restrict S env.bx ids) v
  | _,_=> .fail).leaf (V,us)) (hK:Goal P S w0 M0 s0 dq env a o.dst V us K):o.wp P a w K Q:=by
 split at hl
 · rename_i v T Nt
   obtain ⟨t,ht,hT⟩:=Option.bind_eq_some_iff.1 Nt
   clear Nt
   have hone: ∃ x,c.args= #[x]∧bn S env.tm x=some v:=by
    cases e:c.args.toList with
    | nil=>rw [e] at hargs; simp at hargs
    | cons x r=>
     rw [e] at hargs
     cases r with
     | nil=>
      refine ⟨x, ?_, ?_⟩
      · have :c.args=c.args.toList.toArray:=by simp
        rw [this,e]
      · simp at hargs
        cases hx:bn S env.tm x with
        | none=>rw [hx] at hargs; simp at hargs
        | some v'=>rw [hx] at hargs; simp at hargs; rw [hargs]
     | cons y r=>
      simp at hargs
      cases hx:bn S env.tm x with
      | none=>rw [hx] at hargs; simp at hargs
      | some v'=>
       rw [hx] at hargs
       cases hy:bn S env.tm y with
       | none=>rw [hy] at hargs; simp at hargs
       | some u'=>
        rw [hy] at hargs
        cases hr:List.mapM (bn S env.tm) r with
        | none=>rw [hr] at hargs; simp at hargs
        | some q=>rw [hr] at hargs; simp at hargs
   obtain ⟨x,hx,Oe⟩:=hone
   have hv:=(bU h Oe).1
   clear hargs Oe
   have fin: ∀ (n:Nat),(Builtin.len_ c.argTypes o.type #[a.eval x]).run P w= .ok (goInt n) w→V= .d (.int .i64) (n:Int)→us= []→o.wp P a w K Q:=by
    rintro n hr rfl rfl
    refine wp_pure (V:= .d (.int .i64) (n:Int)) h (v:=goInt n) ?_ hd (j_ ..) (by simp [aL,aI]) hK
    unfold execOp
    simp only [ho]
    simp [resolve,hc,hx,invoke,builtin,hr]
   have slc: ∀ (e:Ty) (n cap:Nat) (ad:Option Addr),T= .sl e→a.eval x= .slice ad n cap→(Builtin.len_ c.argTypes o.type #[a.eval x]).run P w= .ok (goInt n) w:=by
    rintro e n cap ad rfl he
    obtain ⟨te,ie,z,hu,_⟩:=hP.sl hT
    rw [he]
    simp [Builtin.len_,ht,run_underlying hu]
   unfold IF at hl
   split at hl
   · rename_i s
     split at hl
     · rename_i mG
       subst mG
       obtain ⟨e1,e2⟩:=bW hl
       refine fin _ ?_ e1 e2
       have hu:P.underlying t=some .string:=(hP.ty t _ hT).2
       rw [sn hv]
       simp only [Builtin.len_,ht]
       simp [run_underlying hu]
       exact congrArg (fun n:Nat=>goInt n) (Rz s)
     · exact hl.elim
   · split at hl
     · rename_i e
       obtain ⟨e1,e2⟩:=bW hl
       exact fin 0 (slc e 0 0 none rfl hv) e1 e2
     · exact hl.elim
   · rename_i e l
     split at hl
     · rename_i mG
       obtain ⟨e1,e2⟩:=bW hl
       obtain ⟨ad,cap,he,_⟩:=nC hv
       exact fin _ (slc e _ cap ad mG he) e1 e2
     · exact hl.elim
   · rename_i k e l
     split at hl
     · rename_i mG
       obtain ⟨e1,e2⟩:=bW hl
       obtain ⟨ad,cap,he,_⟩:=nC hv.1
       exact fin _ (slc e _ cap ad mG he) e1 e2
     · exact hl.elim
   · rename_i k
     have own: ∀ (e:Ty) (l:List (e.den S.C)),(env.bx k=some (.arr e l)∨env.bx k=some (.b8 e l))→(if T= .sl e then aM S (.d (.int .i64) (l.length:Int)) [] else .fail:Rt S).leaf (V,us)→o.wp P a w K Q:=by
      intro e l hb cY
      split at cY
      · rename_i mG
        obtain ⟨e1,e2⟩:=bW cY
        obtain ⟨ad,cap,he,_⟩:=hv.2 e l hb
        exact fin _ (slc e _ cap ad mG he) e1 e2
      · exact cY.elim
     split at hl
     · rename_i hb; exact own _ _ (.inl (fU hb)) hl
     · rename_i hb; exact own _ _ (.inr (fU hb)) hl
     · exact hl.elim
   · rename_i b n
     split at hl
     · rename_i e l hb
       have hb:=fU hb
       split at hl
       · rename_i mG
         obtain ⟨e1,e2⟩:=bW hl
         obtain ⟨hn0,hnl,ad,cap,he,_⟩:=hv.2 e l hb
         refine fin _ (slc e _ cap ad mG he) ?_ e2
         rw [e1,show ((n.toNat:Nat):Int)=n from by omega]
       · exact hl.elim
     · exact hl.elim
   · exact hl.elim
 · exact hl.elim
theorem adm (hP:bA P S ay) {t:Nat} {e:Ty} (ht:S.ty t=some (.sl e)) {ad:Option Addr} {n cap:Nat} {k1 k2 k3:IntKind} {i j m:Int} (h0:0≤i) (h1:i≤j) (h2:j≤m) (h3:m≤(cap:Int)):
 ∃ v,(Instr.sliceAt t (.slice ad n cap) (some (.int k1 i)) (some (.int k2 j)) (some (.int k3 m))).run P w= .ok v w:=by
 obtain ⟨te,ie,z,hu,he,_⟩:=hP.sl ht
 refine ⟨.slice (if m.toNat=i.toNat then ad else ad.map (·.add (i.toNat*Ty.sz S e))) (j.toNat - i.toNat) (m.toNat - i.toNat), ?_⟩
 simp [Instr.sliceAt,Instr.slice,run_underlying hu,Instr.sliceBounds,wC (P:=P) _ (show 0≤m by omega) h3,wC (P:=P) (i:=j) (y:=m.toNat) _ (by omega) (by omega),wC (P:=P) (i:=i) (y:=j.toNat) _ (by omega) (by omega),hP.size he]
theorem adF (hP:bA P S ay) (h:Inv P S w0 M0 s0 dq env a w μ) (hd: ∀ d,o.dst=some d→d<a.tmps.size) {t:TypeId} {x lo hi mx:Operand} {ids:List Nat} (ho:o.op= .slice t x (some lo) (some hi) (some mx))
 (hl:(match S.ty t,bn S env.tm x,bn S env.tm lo,bn S env.tm hi,bn S env.tm mx with
  | some T,some v,some l,some h,some m=>Kd S T (restrict S env.bx ids) l h m v
  | _,_,_,_,_=> .fail).leaf (V,us)) (hK:Goal P S w0 M0 s0 dq env a o.dst V us K):o.wp P a w K Q:=by
 split at hl
 · rename_i T v l hh m ht hx hlo hhi XU
   obtain ⟨hv,eJ⟩:=bU h hx
   unfold Kd at hl
   split at hl
   · rename_i k
     split at hl
     · rename_i e s hb
       have hb:=fU hb
       split at hl
       · rename_i hT
         subst hT
         split at hl
         · rename_i i j c e1 e2 e3
           obtain ⟨hg,rfl,rfl⟩:=hO hl
           have g0:0≤i:=hg ⟨0≤i,inferInstance⟩ (by simp [gd])
           have g1:i≤j:=hg ⟨i≤j,inferInstance⟩ (by simp [gd])
           have g2:j≤c:=hg ⟨j≤c,inferInstance⟩ (by simp [gd])
           have g3:c≤(s.length:Int):=hg ⟨c≤(s.length:Int),inferInstance⟩ (by simp [gd])
           obtain ⟨ad,cap,he,hao⟩:=hv.2 e s (.inl hb)
           have hfit:=hao.fits
           obtain ⟨k1,q1⟩:=vn (bU h hlo).1 e1
           obtain ⟨k2,q2⟩:=vn (bU h hhi).1 e2
           obtain ⟨k3,q3⟩:=vn (bU h XU).1 e3
           obtain ⟨r,hr⟩:=adm (P:=P) (w:=w) hP ht (ad:=ad) (n:=s.length) (cap:=cap) (k1:=k1) (k2:=k2) (k3:=k3) g0 g1 g2 (by omega)
           refine wp_pure (V:= .undef) h (v:=r) ?_ hd trivial (by simp [aL,aI]) hK
           unfold execOp
           simp only [ho,he,Option.map,q1,q2,q3]
           simp [hr]
         · exact hl.elim
       · exact hl.elim
     · exact hl.elim
   · exact hl.elim
 · exact hl.elim
end
end Go.Sy
namespace Go.Sy
section
variable {P:Program} {S:bB} {ay:Nat→Nat}
variable {w0:World} {M0 s0:St} {dq:List Deferred} {env:Env S.C} {a:Act} {w:World} {μ:Nat→Loc} {K:Act→World→Prop} {Q:Exit→Act→World→Prop} {o:Oper} {V:V S.C} {us:aV S.C}
theorem aT.map {w w':World} {s s':St} {μ μ':Nat→Loc} {bx aq:Bx S.C} (h: ∀ V v,b6 P S w s μ bx V v→(∀ j ∈ aI S V,bx j≠none)→b6 P S w' s' μ' aq V v):
 ∀ {vs:List (Sy.V S.C)} {cs:List Value},(∀ v ∈ vs, ∀ j ∈ aI S v,bx j≠none)→aT P S w s μ bx vs cs→aT P S w' s' μ' aq vs cs
 | [],_,_,h'=>h'
 | v::vs,_,hr,⟨c,r,h1,h2,h3⟩=>⟨c,r,h1,h _ _ h2 (hr v (by simp)),aT.map h (fun v hv=>hr v (by simp [hv])) h3⟩
theorem Yt {v:Value} (h:isAgg v=false):v.cells.toList= [v]:=aN.nH (t:= .bool) h rfl
theorem RS {s:St} {bx:Bx S.C} {V:Sy.V S.C} {v:Value} (hs:cm S V=true) (h:b6 P S w s μ bx V v):isAgg v=false∧v.oneCell'=true:=by
 cases V with
 | d t x=>
  obtain ⟨ha,n,hn⟩:=h
  cases t with
  | st u=>simp [cm] at hs
  | int k=>rw [zK (w:=w) (s:=s) ⟨ha,n,hn⟩]; exact ⟨rfl,rfl⟩
  | bool=>rw [ur (w:=w) (s:=s) ⟨ha,n,hn⟩]; exact ⟨rfl,rfl⟩
  | str=>rw [sn (w:=w) (s:=s) ⟨ha,n,hn⟩]; exact ⟨rfl,rfl⟩
  | pt=>
   cases n with
   | zero=>exact hn.elim
   | succ n=>
    have hn:v.cells.toList= [.pointer none]:=hn
    rw [aN.nH (t:= .pt) ha rfl] at hn
    cases hn
    exact ⟨rfl,rfl⟩
  | sl e=>obtain ⟨a,cap,he,_⟩:=nC (w:=w) (s:=s) ⟨ha,n,hn⟩; rw [he]; exact ⟨rfl,rfl⟩
 | pr p i=>cases h; exact ⟨rfl,rfl⟩
 | bE b e l=>obtain ⟨a,cap,he,_⟩:=nC h.1; rw [he]; exact ⟨rfl,rfl⟩
 | aQ b=>obtain ⟨⟨a,n,c,rfl⟩,_⟩:=h; exact ⟨rfl,rfl⟩
 | ptr b off=>cases h; exact ⟨rfl,rfl⟩
 | gz b i off=>obtain ⟨⟨p,rfl⟩,_⟩:=h; exact ⟨rfl,rfl⟩
 | eI t x=>obtain ⟨b,o',ds,rfl,_⟩:=h; exact ⟨rfl,rfl⟩
 | nil=>cases h; exact ⟨rfl,rfl⟩
 | dD=>cases h; exact ⟨rfl,rfl⟩
 | fv A R g=>obtain ⟨f,first,cap,rfl,_⟩:=h; exact ⟨rfl,rfl⟩
 | undef=>simp [cm] at hs
 | skip=>simp [cm] at hs
 | pre b n=>simp [cm] at hs
 | win b i n=>simp [cm] at hs
 | dm b n=>simp [cm] at hs
 | split b c=>simp [cm] at hs
 | nY c=>simp [cm] at hs
 | err b=>simp [cm] at hs
 | gQ f vs=>simp [cm] at hs
 | agg u vs=>simp [cm] at hs
 | jX vs=>simp [cm] at hs
theorem Cg {s:St} {bx:Bx S.C} : ∀ {vs:List (Sy.V S.C)} {cs:List Value},vs.all (cm S)=true→aT P S w s μ bx vs cs→ ∀ c ∈ cs,c.oneCell'=true
 | [],_,_,h,c,hc=>by cases h; simp at hc
 | V::vs,_,hs,⟨c,r,h1,h2,h3⟩,d,hd=>by
  subst h1
  simp only [List.all_cons,Bool.and_eq_true] at hs
  rcases List.mem_cons.1 hd with rfl | hd
  · exact (RS hs.1 h2).2
  · exact Cg hs.2 h3 d hd
theorem GV (hS:dU S) {s:St} {bx:Bx S.C} {V:Sy.V S.C} {v:Value} (hs:(cellsOf S V).all (cm S)=true) (h:RV P S w s μ bx V v):
 aT P S w s μ bx (cellsOf S V) v.cells.toList∧ ∀ u ∈ cellsOf S V, ∀ j ∈ aI S u,j ∈ aL S V:=by
 have one: ∀ (W:Sy.V S.C),V=W→cellsOf S V= [W]→b6 P S w s μ bx W v→(∀ j ∈ aI S W,j ∈ aL S V)→aT P S w s μ bx (cellsOf S V) v.cells.toList∧ ∀ u ∈ cellsOf S V, ∀ j ∈ aI S u,j ∈ aL S V:=by
  intro W hW he h1 h2
  rw [he] at hs
  simp only [List.all_cons,Bool.and_eq_true] at hs
  refine ⟨?_,fun u hu j hj=> ?_⟩
  · rw [he,Yt (RS hs.1 h1).1]
    exact ⟨v,[],rfl,h1,rfl⟩
  · rw [he] at hu
    simp at hu
    subst hu
    exact h2 j hj
 cases V with
 | d t x=>
  obtain ⟨ha,n,hn⟩:=h
  obtain ⟨h1,h2,h3⟩:=oS (P:=P) hS μ bx hn
  exact ⟨h1,fun u hu j hj=>by rw [h3 u hu] at hj; simp at hj⟩
 | agg u vs=>
  obtain ⟨cs,rfl,_,_,hvs⟩:=h
  exact ⟨hvs,fun v hv j hj=>by simp only [aL,List.mem_flatMap]; exact ⟨v,hv,hj⟩⟩
 | jX vs=>simp [cellsOf,cm] at hs
 | gQ f vs=>simp [cellsOf,cm] at hs
 | undef=>simp [cellsOf,cm] at hs
 | skip=>simp [cellsOf,cm] at hs
 | pr p i=>exact one _ rfl rfl h (fun j hj=>hj)
 | bE b e l=>exact one _ rfl rfl h (fun j hj=>hj)
 | aQ b=>exact one _ rfl rfl h (fun j hj=>hj)
 | pre b n=>simp [cellsOf,cm] at hs
 | win b i n=>simp [cellsOf,cm] at hs
 | dm b n=>simp [cellsOf,cm] at hs
 | split b c=>simp [cellsOf,cm] at hs
 | nY c=>simp [cellsOf,cm] at hs
 | err b=>simp [cellsOf,cm] at hs
 | ptr b off=>exact one _ rfl rfl h (fun j hj=>hj)
 | gz b i off=>exact one _ rfl rfl h (fun j hj=>hj)
 | eI t x=>exact one _ rfl rfl h (fun j hj=>hj)
 | nil=>exact one _ rfl rfl h (fun j hj=>hj)
 | dD=>exact one _ rfl rfl h (fun j hj=>hj)
 | fv A R g=>exact one _ rfl rfl h (fun j hj=>hj)
theorem Hu {vs:List (Sy.V S.C)} {n:Nat} (h:fits S vs n=true):vs.length=n∧vs.all (cm S)=true:=by
 unfold fits at h
 rw [Bool.and_eq_true] at h
 exact ⟨Nat.eq_of_beq_eq_true h.1,h.2⟩
theorem sV {w:World} {cs:Array Value} {t:TypeId} :(w.alloc (.cells cs t)).there w.heap.size 0 cs.size∧(w.alloc (.cells cs t)).rangeAt w.heap.size 0 cs.toList:=by
 refine ⟨fun j hj=> ?_,fun j v hv=> ?_⟩
 · rw [Nat.zero_add]
   simp [hj]
 · rw [Nat.zero_add]
   simpa using hv
theorem SP (hP:bA P S ay) (h:Inv P S w0 M0 s0 dq env a w μ) (hd: ∀ d,o.dst=some d→d<a.tmps.size) {B:Nat} {t:TypeId} {cells:Array Value} {vs:List (Sy.V S.C)}
 (hrun:(execOp a.eval o).run P w= .ok (.value (.pointer (some ⟨w.heap.size,0,none⟩))) (w.alloc (.cells cells t))) (hB:env.bx B=none)
 (hs:vs.all (cm S)=true) (hv:aT P S w (aR S w0 M0 s0 env.bx μ w) μ env.bx vs cells.toList) (hr: ∀ v ∈ vs, ∀ j ∈ aI S v,env.bx j≠none)
 (hK:Goal P S w0 M0 s0 dq env a o.dst (.ptr B 0) [(B, .cells vs)] K):o.wp P a w K Q:=by
 have hlen:=aT.length P S hv
 refine t_ (i:=B) (B:= .cells vs) (V:= .ptr B 0) (L:=⟨w.heap.size,0,vs.length,0,false⟩) h hrun hd (bI.alloc w _ _) hB (fun b o' hf=>Nat.le_of_eq hf.1.symm) (fun _ _ h3=>⟨⟨hs,rfl, ?_,cells.toList,sV.2, ?_⟩, ?_⟩)
  (fun vs' hvs v hv j hj=> ?_) (fun j hj=> .inl (by simpa [aL,aI] using hj)) hK
 · have :=(sV (w:=w) (cs:=cells) (t:=t)).1
   rw [show cells.size=vs.length from by rw [← hlen]; simp] at this
   exact this
 · exact aT.map h3 hr hv
 · show Value.pointer _=_
   rw [bq]
 · rcases hvs with hvs | hvs
   · cases hvs; exact hr v hv j hj
   · cases hvs
theorem afO (hP:bA P S ay) (h:Inv P S w0 M0 s0 dq env a w μ) (hd: ∀ d,o.dst=some d→d<a.tmps.size) {B c:Nat} {t:TypeId} {cells:Array Value} {vs:List (Sy.V S.C)}
 (hrun:(execOp a.eval o).run P w= .ok (.value (.pointer (some ⟨w.heap.size,0,none⟩))) (w.alloc (.cells cells t))) (hB:env.bx B=none)
 (hs:(Sy.V.ptr c 0::vs).all (cm S)=true) (hv:aT P S w (aR S w0 M0 s0 env.bx μ w) μ env.bx (.ptr c 0::vs) cells.toList) (hr: ∀ v ∈ Sy.V.ptr c 0::vs, ∀ j ∈ aI S v,env.bx j≠none)
 (hK:Goal P S w0 M0 s0 dq env a o.dst (.split B c) [(B, .cells vs)] K):o.wp P a w K Q:=by
 obtain ⟨u,r,hcs,hu,hv⟩:=hv
 have hlen:=aT.length P S hv
 have hc0:env.bx c≠none:=hr (.ptr c 0) (by simp) c (by simp [aI])
 have Xj:c≠B:=fun e=>hc0 (e▸hB)
 have hu:u= .pointer (some ⟨(μ c).b,(μ c).o,none⟩):=hu
 have hsz:cells.size=vs.length+1:=by rw [← Array.length_toList,hcs,List.length_cons,hlen]
 simp only [List.all_cons,Bool.and_eq_true] at hs
 refine t_ (i:=B) (B:= .cells vs) (V:= .split B c) (L:=⟨w.heap.size,1,vs.length,0,false⟩) h hrun hd (bI.alloc w _ _) hB (fun b o' hf=>Nat.le_of_eq hf.1.symm) (fun _ _ h3=>⟨⟨hs.2,rfl, ?_,r, ?_, ?_⟩, ?_⟩)
  (fun vs' hvs v hv j hj=> ?_) (fun j hj=> ?_) hK
 · intro j hj
   have :=(sV (w:=w) (cs:=cells) (t:=t)).1 (1+j) (by have :j<vs.length:=hj; omega)
   rw [Nat.zero_add] at this
   exact this
 · intro j v hj
   have :=(sV (w:=w) (cs:=cells) (t:=t)).2 (1+j) v (by rw [hcs,Nat.add_comm]; simpa using hj)
   rw [Nat.zero_add] at this
   exact this
 · exact aT.map h3 (fun v hv=>hr v (by simp [hv])) hv
 · refine ⟨w.heap.size,0,rfl,fun j v hj=> ?_,by rw [bq],by rw [bq]⟩
   have hj0:j=0∧v= .pointer (some ⟨(aD μ B ⟨w.heap.size,1,vs.length,0,false⟩ c).b,(aD μ B ⟨w.heap.size,1,vs.length,0,false⟩ c).o,none⟩):=by
    cases j with
    | zero=>exact ⟨rfl,by simpa using hj.symm⟩
    | succ j=>simp at hj
   obtain ⟨rfl,rfl⟩:=hj0
   rw [bM _ _ Xj]
   refine ⟨?_,by simp, .inr (.inr h.jL.size),fun i hi hf=> ?_⟩
   · have :=(sV (w:=w) (cs:=cells) (t:=t)).2 0 u (by rw [hcs]; rfl)
     rw [Nat.zero_add] at this
     rw [← hu]
     exact this
   · by_cases e:i=B
     · subst e
       rw [bq] at hf
       have h1:1≤0+0:=hf.2.1
       omega
     · have hl:=(fC S (show aD env.bx B (some (.cells vs)) i=env.bx i from bM _ _ e)).1 hi
       rw [bM _ _ e] at hf
       have :=(nV P S (h.cB i) hl hf).1
       omega
 · rcases hvs with hvs | hvs
   · cases hvs; exact hr v (by simp [hv]) j hj
   · cases hvs
 · have hj:j ∈ [B,c]:=hj
   simp only [List.mem_cons,List.not_mem_nil,or_false] at hj
   rcases hj with rfl | rfl
   · exact .inl rfl
   · exact .inr hc0
theorem wK {s:St} {bx:Bx S.C} : ∀ (ts:List Ty),ts.all (fun t=> !bR t)=true→aT P S w s μ bx (ts.map (zeroCell S)) (ts.map zA)∧(ts.map (zeroCell S)).all (cm S)=true∧ ∀ v ∈ ts.map (zeroCell S),aI S v= []
 | [],_=>⟨rfl,rfl,by simp⟩
 | t::ts,h=>by
  simp only [List.all_cons,Bool.and_eq_true,Bool.not_eq_true'] at h
  obtain ⟨h1,h2,h3⟩:=wK ts h.2
  refine ⟨⟨_,_,rfl, ?_,h1⟩, ?_, ?_⟩
  · cases t with
    | int k=>exact j_ ..
    | bool=>exact qn ..
    | str=>exact Ci ..
    | pt=>rfl
    | sl e=>rfl
    | st u=>simp [bR] at h
  · simp only [List.map_cons,List.all_cons,Bool.and_eq_true]
    exact ⟨by cases t <;> first | rfl | simp [bR] at h,h2⟩
  · intro v hv
    simp only [List.map_cons,List.mem_cons] at hv
    rcases hv with rfl | hv
    · cases t <;> rfl
    · exact h3 v hv
theorem S5 (hS:dU S) {s:St} {bx:Bx S.C} (T:Ty):aT P S w s μ bx (zeroCells S T) (wL S T)∧(zeroCells S T).all (cm S)=true∧ ∀ v ∈ zeroCells S T,aI S v= []:=by
 cases T with
 | st u=>exact wK (S.F u) (hS.flat u)
 | int k=>exact wK [.int k] rfl
 | bool=>exact wK [.bool] rfl
 | str=>exact wK [.str] rfl
 | pt=>exact wK [.pt] rfl
 | sl e=>exact wK [.sl e] rfl
theorem UL (hP:bA P S ay) (h:Inv P S w0 M0 s0 dq env a w μ) (hd: ∀ d,o.dst=some d→d<a.tmps.size) {B:Nat} {t:TypeId} (ho:o.op= .alloc t)
 (hnew: ∀ u ∈ ([(B+1, .buf []),(B, .bH (B+1))]:aV S.C),B≤u.1→u.1<B+16→env.bx u.1=none) (hb:A2 S t=true)
 (hK:Goal P S w0 M0 s0 dq env a o.dst (.ptr B 0) [(B+1, .buf []),(B, .bH (B+1))] K):o.wp P a w K Q:=by
 obtain ⟨T,e,xp,rfl⟩: ∃ T e,S.bt=some (T,e)∧t=T:=by
  unfold A2 at hb
  split at hb
  · rename_i u hu
    exact ⟨u.1,u.2,hu,(Nat.eq_of_beq_eq_true hb).symm⟩
  · cases hb
 obtain ⟨_,i,z,h1,h2,h3⟩:=hP.bt _ xp
 have n1:=hnew (B+1, .buf []) (by simp) (by show B≤B+1; omega) (by show B+1<B+16; omega)
 have n0:=hnew (B, .bH (B+1)) (by simp) (Nat.le_refl _) (by show B<B+16; omega)
 have hrow:si S w ⟨0,0,0,0,true⟩ []:=⟨rfl,rfl,fun _=>rfl,_,_,xp,World.ownsRowF_nil ..⟩
 obtain ⟨hI,_,_⟩:=h.IQ (bI.refl w _) n1 (B:= .buf []) (L:=⟨0,0,0,0,true⟩) (fun b o' hf=>by have h1:o'<0+0:=hf.2.2; omega) (fun _ _ _=>hrow) (fun vs hvs=>by rcases hvs with hvs | hvs <;> cases hvs)
 have hne: ∀ (i:Nat) (B0:Option (eW S.C)),i=B→aD env.bx (B+1) (some (.buf [])) i=env.bx i:=fun i _ e=>bM _ _ (by omega)
 refine t_ (env:= { env with bx:=aD env.bx (B+1) (some (.buf [])) }) (i:=B) (B:= .bH (B+1)) (V:= .ptr B 0) (v:= .pointer (some ⟨w.heap.size,0,none⟩)) (w':=w.alloc (.cells #[.pointer none, .slice none 0 0] t)) (L:=⟨w.heap.size,0,2,0,false⟩) hI ?_ hd (bI.alloc w _ _) ((hne B none rfl).trans n0) (fun b o' hf=>Nat.le_of_eq hf.1.symm)
  (fun _ _ _=>⟨⟨rfl,rfl, ?_, .slice none 0 0,⟨t,e, .pointer none,xp,(by show (w.heap.push _)[w.heap.size]? =some _; simp), .inl rfl⟩,fun l hl=> ?_⟩, ?_⟩) (fun vs hvs=>by rcases hvs with hvs | hvs <;> cases hvs) (fun j hj=> .inl (by simpa [aL,aI] using hj)) hK
 · unfold execOp
   simp only [ho]
   simp [Instr.alloc,zeroValue,typeInfo,h1,h2,h3,newVar,newRow]
 · rw [bM _ _ (show B+1≠B by omega)]
   show aD env.bx (B+1) (some (.buf [])) (B+1)≠none
   rw [bq]; simp
 · rw [bM _ _ (show B+1≠B by omega)] at hl
   have hl:aD env.bx (B+1) (some (.buf [])) (B+1)=some (.buf l):=hl
   rw [bq] at hl
   cases hl
   rw [bM _ _ (show B+1≠B by omega),bq]
   rfl
 · show Value.pointer _=_
   rw [bq]
theorem Um (hP:bA P S ay) (h:Inv P S w0 M0 s0 dq env a w μ) (hd: ∀ d,o.dst=some d→d<a.tmps.size) {B:Nat} {t:TypeId} (ho:o.op= .alloc t)
 (hnew: ∀ u ∈ us,B≤u.1→u.1<B+16→env.bx u.1=none)
 (hl:(match S.ty t with
  | some u=>aM S (.ptr B 0) [(B, .cells (zeroCells S u))]
  | none=>cond (A2 S t) (aM S (.ptr B 0) [(B+1, .buf []),(B, .bH (B+1))]) .fail).leaf (V,us)) (hK:Goal P S w0 M0 s0 dq env a o.dst V us K):o.wp P a w K Q:=by
 split at hl
 · rename_i T ht
   obtain ⟨rfl,rfl⟩:=bW hl
   obtain ⟨⟨i,z,h1,h2,h3,h4,h5⟩,_⟩:=hP.ty t T ht
   obtain ⟨z1,z2,z3⟩:=S5 (P:=P) (w:=w) (μ:=μ) hP.todU (s:=aR S w0 M0 s0 env.bx μ w) (bx:=env.bx) T
   refine SP hP h hd (cells:=z.cells) (t:=t) ?_ (hnew (B, .cells (zeroCells S T)) (List.mem_singleton.2 rfl) (Nat.le_refl _) (by show B<B+16; omega)) z2 (by rw [h5]; exact z1) (fun v hv j hj=>by rw [z3 v hv] at hj; simp at hj) hK
   unfold execOp
   simp only [ho]
   simp [Instr.alloc,zeroValue,typeInfo,h1,h3,newVar,newRow]
 · cases hb:A2 S t with
   | false=>rw [hb] at hl; exact hl.elim
   | true=>
    rw [hb] at hl
    obtain ⟨rfl,rfl⟩:=bW hl
    exact UL hP h hd ho hnew hb hK
theorem UN (hP:bA P S ay) (h:Inv P S w0 M0 s0 dq env a w μ) (hd: ∀ d,o.dst=some d→d<a.tmps.size) {B:Nat} {t:TypeId} {x:Operand} (ho:o.op= .box t x)
 (hnew: ∀ u ∈ us,B≤u.1→u.1<B+16→env.bx u.1=none)
 (hl:(match S.ty t,bn S env.tm x with
  | some u,some v=>cond (fits S (cellsOf S v) (Ty.sz S u)) (match S.sp t with
   | false=>aM S (.ptr (B) 0) [(B, .cells (cellsOf S v))]
   | true=>match cellsOf S v with
    | .ptr c 0::vs=>aM S (.split B c) [(B, .cells vs)]
    | _=> .fail) .fail
  | _,_=> .fail).leaf (V,us)) (hK:Goal P S w0 M0 s0 dq env a o.dst V us K):o.wp P a w K Q:=by
 split at hl
 · rename_i T v ht hx
   cases hf:fits S (cellsOf S v) (Ty.sz S T) with
   | false=>rw [hf] at hl; exact hl.elim
   | true=>
    rw [hf,cond_true] at hl
    obtain ⟨f1,f2⟩:=Hu hf
    obtain ⟨hv,eJ⟩:=bU h hx
    obtain ⟨c1,c2⟩:=GV hP.todU f2 hv
    split at hl
    rotate_left
    · split at hl
      · rename_i c vs hcs
        obtain ⟨rfl,rfl⟩:=bW hl
        rw [hcs] at f2 c1 c2
        refine afO hP h hd (cells:=(a.eval x).cells) (t:=t) ?_ (hnew (B, .cells vs) (List.mem_singleton.2 rfl) (Nat.le_refl _) (by show B<B+16; omega)) f2 c1 (fun v hv j hj=>eJ j (c2 v hv j hj)) hK
        unfold execOp
        simp only [ho]
        simp [Instr.box,newVar,newRow]
      · exact hl.elim
    obtain ⟨rfl,rfl⟩:=bW hl
    refine SP hP h hd (cells:=(a.eval x).cells) (t:=t) ?_ (hnew (B, .cells (cellsOf S v)) (List.mem_singleton.2 rfl) (Nat.le_refl _) (by show B<B+16; omega)) f2 c1 (fun v hv j hj=>eJ j (c2 v hv j hj)) hK
    unfold execOp
    simp only [ho]
    simp [Instr.box,newVar,newRow]
 · exact hl.elim
end
end Go.Sy
